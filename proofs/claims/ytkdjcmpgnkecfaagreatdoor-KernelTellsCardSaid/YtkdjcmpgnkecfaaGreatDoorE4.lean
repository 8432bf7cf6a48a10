/-
  Memory: how abstract blocks stand for the model's; what a step may do to it.
-/
import Derived.Test.YtkdjcmpgnkecfaaGreatDoorE3
import Derived.Laws.Cells
noncomputable section
namespace Go.Ev
set_option linter.unusedVariables false
set_option linter.unusedSimpArgs false

def RRel (σ : Nat → Int) (μ : Map) (n : Nat) (r : Regs) (tmps : Array Value) : Prop := tmps.size = n ∧ ∀ i, VRel σ μ (r.get i) (tmps.getD i undef)

def EsRel (σ : Nat → Int) (μ : Map) : List (AV × AV × Nat) → List MapEntry → Prop
  | [], es => es = []
  | (k, v, b) :: as, es => ∃ e es', es = e :: es' ∧ VRel σ μ k e.key ∧ VRel σ μ v e.val ∧ e.born = b ∧ EsRel σ μ as es'

def RowRel (σ : Nat → Int) (μ : Map) (cell : Nat → Option AV) (size : Nat) (st : Bool) (loc : Loc) (x : Option Obj) : Prop :=
  ∃ c E fr, x = some (.cells c E fr) ∧ c.size = loc.o + loc.room ∧ size ≤ loc.room ∧ (st = false → fr = (0, 0)) ∧
    (∀ i, i < c.size → ¬ (fr.1 ≤ i ∧ i < fr.2)) ∧ ∀ i, i < size → ∃ v y, cell i = some v ∧ c[loc.o + i]? = some y ∧ VRel σ μ v y

def ORel (σ : Nat → Int) (μ : Map) (o : AObj) (loc : Loc) (x : Option Obj) : Prop :=
  match o with
  | .dead => True
  | .cells size st zero t => RowRel σ μ (AObj.cells size st zero t).cell size st loc x
  | .bytes size st n => RowRel σ μ (AObj.bytes size st n).cell size st loc x
  | .ro size t => loc.o = 0 ∧ RowRel σ μ (AObj.ro size t).cell size true loc x
  | .map es clock => ∃ es', x = some (.map es' clock) ∧ EsRel σ μ es es'.toList
  | .loop st pend n r params assign body d => ∃ fn tmps ld, x = some (.loop { state := st, pending := pend, fn, tmps, params, assign, body, defers := ld.b }) ∧ μ d = some ld ∧ RRel σ μ n r tmps
  | .deferred => x = some (.deferred (some []))

theorem RRel.ext {σ : Nat → Int} {μ μ' : Map} (h : Ext μ μ') {n : Nat} {r : Regs} {tmps : Array Value} (hr : RRel σ μ n r tmps) : RRel σ μ' n r tmps :=
  ⟨hr.1, fun i => VRel.ext h _ _ (hr.2 i)⟩
theorem EsRel.ext {σ : Nat → Int} {μ μ' : Map} (h : Ext μ μ') : ∀ {as : List (AV × AV × Nat)} {es : List MapEntry}, EsRel σ μ as es → EsRel σ μ' as es
  | [], _, r => r
  | (k, v, b) :: as, _, ⟨e, es', he, p, q, hb, r⟩ => ⟨e, es', he, VRel.ext h _ _ p, VRel.ext h _ _ q, hb, EsRel.ext h r⟩
theorem RowRel.ext {σ : Nat → Int} {μ μ' : Map} (h : Ext μ μ') {cell : Nat → Option AV} {size : Nat} {st : Bool} {loc : Loc} {x : Option Obj}
    (hr : RowRel σ μ cell size st loc x) : RowRel σ μ' cell size st loc x := by
  obtain ⟨c, E, fr, h1, h2, h3, h4, h5, h6⟩ := hr
  exact ⟨c, E, fr, h1, h2, h3, h4, h5, fun i hi => let ⟨v, y, p, q, r⟩ := h6 i hi; ⟨v, y, p, q, VRel.ext h _ _ r⟩⟩
theorem ORel.ext {σ : Nat → Int} {μ μ' : Map} (h : Ext μ μ') {o : AObj} {loc : Loc} {x : Option Obj} (hr : ORel σ μ o loc x) : ORel σ μ' o loc x := by
  cases o with
  | dead => trivial
  | cells size st zero t => exact RowRel.ext h hr
  | bytes size st n => exact RowRel.ext h hr
  | ro size t => exact ⟨hr.1, RowRel.ext h hr.2⟩
  | map es clock => obtain ⟨es', p, q⟩ := hr; exact ⟨es', p, q.ext h⟩
  | loop st pend n r params assign body d => obtain ⟨fn, tmps, ld, p, q, s⟩ := hr; exact ⟨fn, tmps, ld, p, h _ _ q, s.ext h⟩
  | deferred => exact hr

/-- nothing stands there yet, or what may be written -/
def AH.wr (h : AH) (id : Nat) : Prop := ∀ o, h.tr.get id = some o → o.live = true

structure HRel (σ : Nat → Int) (μ : Map) (h : AH) (H : Array Obj) : Prop where
  obj : ∀ id loc o, μ id = some loc → h.tr.get id = some o → ORel σ μ o loc H[loc.b]?
  inj : ∀ id id' loc loc', μ id = some loc → μ id' = some loc' → loc.b = loc'.b → h.wr id → h.tr.get id' ≠ some .dead → id = id'
  lt : ∀ id loc, μ id = some loc → loc.b < H.size
  topμ : ∀ id, h.next ≤ id → μ id = none
  toph : ∀ id, h.next ≤ id → h.tr.get id = none

/-- the model's blocks that live abstract ones stand for -/
def Own (μ : Map) (h : AH) (b : Nat) : Prop := ∃ id loc o, μ id = some loc ∧ h.tr.get id = some o ∧ o.live = true ∧ loc.b = b

/-- what a step may do -/
structure Moves (σ : Nat → Int) (μ : Map) (h : AH) (H : Array Obj) (μ' : Map) (h' : AH) (H' : Array Obj) : Prop where
  ext : Ext μ μ'
  rel : HRel σ μ' h' H'
  next : h.next ≤ h'.next
  keptμ : ∀ id, id < h.next → μ id = none → μ' id = none
  kept : ∀ id, id < h.next → (μ id = none ∨ h.tr.get id = none) → h'.tr.get id = h.tr.get id
  size : H.size ≤ H'.size
  own : ∀ b, b < H.size → Own μ' h' b → Own μ h b
  frame : ∀ b, b < H.size → ¬ Own μ h b → H'[b]? = H[b]?

section
variable {σ : Nat → Int} {μ μ' μ'' : Map} {h h' h'' : AH} {H H' H'' : Array Obj}

theorem Moves.refl (r : HRel σ μ h H) : Moves σ μ h H μ h H :=
  ⟨Ext.refl _, r, Nat.le_refl _, fun _ _ x => x, fun _ _ _ => rfl, Nat.le_refl _, fun _ _ x => x, fun _ _ _ => rfl⟩

theorem Moves.trans (a : Moves σ μ h H μ' h' H') (b : Moves σ μ' h' H' μ'' h'' H'') : Moves σ μ h H μ'' h'' H'' where
  ext := a.ext.trans b.ext
  rel := b.rel
  next := Nat.le_trans a.next b.next
  keptμ := fun id hi hn => b.keptμ id (Nat.lt_of_lt_of_le hi a.next) (a.keptμ id hi hn)
  kept := fun id hi hn => by
    have e := a.kept id hi hn
    rw [← e]
    refine b.kept id (Nat.lt_of_lt_of_le hi a.next) ?_
    rcases hn with hn | hn
    · exact .inl (a.keptμ id hi hn)
    · exact .inr (e.trans hn)
  size := Nat.le_trans a.size b.size
  own := fun x hx ho => a.own x hx (b.own x (Nat.lt_of_lt_of_le hx a.size) ho)
  frame := fun x hx hn => (b.frame x (Nat.lt_of_lt_of_le hx a.size) fun ho => hn (a.own x hx ho)).trans (a.frame x hx hn)

theorem tr_put (h : AH) (id : Nat) (o : AObj) (j : Nat) : (h.put id o).tr.get j = if j = id then some o else h.tr.get j := Tr.get_set _ _ _ _
theorem tr_new (h : AH) (o : AObj) (j : Nat) : (h.new o).tr.get j = if j = h.next then some o else h.tr.get j := Tr.get_set _ _ _ _

theorem AH.get_eq {h : AH} {id : Nat} {o : AObj} (e : h.tr.get id = some o) : h.get id = o := by simp [AH.get, e]
theorem AH.get_live {h : AH} {id : Nat} (e : h.get id ≠ .dead) : h.tr.get id = some (h.get id) := by
  unfold AH.get at *
  cases hx : h.tr.get id with
  | none => rw [hx] at e; exact absurd rfl e
  | some o => rfl

/-- a live block is changed -/
theorem HRel.put (r : HRel σ μ h H) {id : Nat} {loc : Loc} {o o' : AObj} (hm : μ id = some loc) (ho : h.tr.get id = some o) (hl : o.live = true)
    (hs : H'.size = H.size) (hf : ∀ b, b ≠ loc.b → H'[b]? = H[b]?) (hr : ORel σ μ o' loc H'[loc.b]?) : Moves σ μ h H μ (h.put id o') H' where
  ext := Ext.refl _
  rel :=
    { obj := fun j l q hj hq => by
        rw [tr_put] at hq
        by_cases e : j = id
        · rw [if_pos e] at hq
          cases hq
          rw [e, hm] at hj
          cases hj
          exact hr
        · rw [if_neg e] at hq
          by_cases hd : q = .dead
          · rw [hd]; trivial
          · have hb : l.b ≠ loc.b := fun hb => e (r.inj id j loc l hm hj hb.symm (fun x hx => by rw [ho] at hx; cases hx; exact hl) (by rw [hq]; simpa using hd)).symm
            rw [hf _ hb]
            exact r.obj j l q hj hq
      inj := fun i j l l' hi hj hb hdi hdj => by
        rw [tr_put] at hdj
        refine r.inj i j l l' hi hj hb (fun x hx => ?_) ?_
        · by_cases e : i = id
          · rw [e, ho] at hx; cases hx; exact hl
          · exact hdi x (by rw [tr_put, if_neg e]; exact hx)
        · by_cases e : j = id
          · rw [e, ho]; intro hx; cases hx; cases hl
          · rwa [if_neg e] at hdj
      lt := fun j l hj => by rw [hs]; exact r.lt j l hj
      topμ := fun j hj => r.topμ j hj
      toph := fun j hj => by
        rw [tr_put]
        have : j ≠ id := fun e => by rw [e] at hj; have := r.topμ id hj; rw [hm] at this; cases this
        rw [if_neg this]; exact r.toph j hj }
  next := Nat.le_refl _
  keptμ := fun _ _ x => x
  kept := fun j hj hn => by
    rw [tr_put]
    have : j ≠ id := fun e => by
      rcases hn with hn | hn
      · rw [e, hm] at hn; cases hn
      · rw [e, ho] at hn; cases hn
    rw [if_neg this]
  size := Nat.le_of_eq hs.symm
  own := fun b hb ⟨j, l, q, hj, hq, hd, hlb⟩ => by
    rw [tr_put] at hq
    by_cases e : j = id
    · rw [e] at hj; exact ⟨id, l, o, hj, ho, hl, hlb⟩
    · rw [if_neg e] at hq; exact ⟨j, l, q, hj, hq, hd, hlb⟩
  frame := fun b hb hn => hf b fun e => hn ⟨id, loc, o, hm, ho, hl, e.symm⟩

def Map.upd (μ : Map) (id : Nat) (loc : Loc) : Map := fun j => if j = id then some loc else μ j
theorem Map.upd_at (μ : Map) (id : Nat) (loc : Loc) : μ.upd id loc id = some loc := by simp [Map.upd]
theorem Map.upd_other (μ : Map) {id j : Nat} (loc : Loc) (h : j ≠ id) : μ.upd id loc j = μ j := by simp [Map.upd, h]
theorem Map.upd_ext (μ : Map) {id : Nat} (loc : Loc) (h : μ id = none) : Ext μ (μ.upd id loc) := fun j l hj => by
  have : j ≠ id := fun e => by rw [e, h] at hj; cases hj
  rw [Map.upd_other _ _ this]; exact hj

/-- a block is made, at a number that none has -/
theorem HRel.make (r : HRel σ μ h H) {id : Nat} {x : Obj} {o : AObj} {room : Nat} (hn : μ id = none) (hlt : id < h.next)
    (hr : ORel σ (μ.upd id ⟨H.size, 0, room⟩) o ⟨H.size, 0, room⟩ (some x)) (ht : ∀ q, h.tr.get id = some q → q = o) :
    HRel σ (μ.upd id ⟨H.size, 0, room⟩) h (H.push x) where
  obj := fun j l q hj hq => by
    by_cases e : j = id
    · rw [e, Map.upd_at] at hj
      cases hj
      rw [e] at hq
      rw [ht q hq]
      simpa using hr
    · rw [Map.upd_other _ _ e] at hj
      have hl := r.lt j l hj
      rw [Array.getElem?_push_lt hl, ← Array.getElem?_eq_getElem hl]
      exact (r.obj j l q hj hq).ext (Map.upd_ext _ _ hn)
  inj := fun i j l l' hi hj hb hdi hdj => by
    by_cases ei : i = id
    · by_cases ej : j = id
      · rw [ei, ej]
      · rw [ei, Map.upd_at] at hi
        cases hi
        rw [Map.upd_other _ _ ej] at hj
        have := r.lt j l' hj
        simp at hb
        omega
    · rw [Map.upd_other _ _ ei] at hi
      by_cases ej : j = id
      · rw [ej, Map.upd_at] at hj
        cases hj
        have := r.lt i l hi
        simp at hb
        omega
      · rw [Map.upd_other _ _ ej] at hj
        exact r.inj i j l l' hi hj hb hdi hdj
  lt := fun j l hj => by
    by_cases e : j = id
    · rw [e, Map.upd_at] at hj
      cases hj
      simp
    · rw [Map.upd_other _ _ e] at hj
      have := r.lt j l hj
      simp
      omega
  topμ := fun j hj => by
    rw [Map.upd_other _ _ (by omega)]
    exact r.topμ j hj
  toph := r.toph

/-- a block is made, at the next number -/
theorem HRel.new (r : HRel σ μ h H) {x : Obj} {o : AObj} {room : Nat} (hr : ORel σ (μ.upd h.next ⟨H.size, 0, room⟩) o ⟨H.size, 0, room⟩ (some x)) :
    Moves σ μ h H (μ.upd h.next ⟨H.size, 0, room⟩) (h.new o) (H.push x) := by
  have hn := r.topμ h.next (Nat.le_refl _)
  have r1 : HRel σ μ (h.new o) H :=
    { obj := fun j l q hj hq => by
        rw [tr_new] at hq
        have : j ≠ h.next := fun e => by rw [e, hn] at hj; cases hj
        rw [if_neg this] at hq
        exact r.obj j l q hj hq
      inj := fun i j l l' hi hj hb hdi hdj => by
        rw [tr_new] at hdj
        have hi' : i ≠ h.next := fun e => by rw [e, hn] at hi; cases hi
        have hj' : j ≠ h.next := fun e => by rw [e, hn] at hj; cases hj
        rw [if_neg hj'] at hdj
        exact r.inj i j l l' hi hj hb (fun x hx => hdi x (by rw [tr_new, if_neg hi']; exact hx)) hdj
      lt := r.lt
      topμ := fun j hj => r.topμ j (by simp [AH.new] at hj; omega)
      toph := fun j hj => by
        simp [AH.new] at hj
        rw [tr_new, if_neg (by omega)]
        exact r.toph j (by omega) }
  have r2 := r1.make (id := h.next) (x := x) (o := o) (room := room) hn (by simp [AH.new]) hr (fun q hq => by rw [tr_new, if_pos rfl] at hq; cases hq; rfl)
  exact
    { ext := Map.upd_ext _ _ hn
      rel := r2
      next := by simp [AH.new]
      keptμ := fun j hj hx => by rw [Map.upd_other _ _ (by omega)]; exact hx
      kept := fun j hj _ => by rw [tr_new, if_neg (by omega)]
      size := by simp
      own := fun b hb ⟨j, l, q, hj, hq, hd, hlb⟩ => by
        by_cases e : j = h.next
        · rw [e, Map.upd_at] at hj
          cases hj
          simp at hlb
          omega
        · rw [Map.upd_other _ _ e] at hj
          rw [tr_new, if_neg e] at hq
          exact ⟨j, l, q, hj, hq, hd, hlb⟩
      frame := fun b hb _ => by rw [Array.getElem?_push_lt hb, ← Array.getElem?_eq_getElem hb] }

end
end Go.Ev
