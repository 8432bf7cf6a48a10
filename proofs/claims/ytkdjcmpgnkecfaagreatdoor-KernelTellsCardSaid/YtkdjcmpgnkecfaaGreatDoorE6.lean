/-
  What is known of the program; loads and stores.
-/
import Derived.Test.YtkdjcmpgnkecfaaGreatDoorE5
import Derived.Laws.Entries
noncomputable section
namespace Go.Ev
set_option linter.unusedVariables false
set_option linter.unusedSimpArgs false

/-! ### the program -/
def SI.val (σ : Nat → Int) : SI → Int
  | .lit n => n
  | .var e => σ e

def Fact.ok (P : Program) (σ : Nat → Int) : Fact → Prop
  | .num op k x y r => ∀ (t : TypeId) (w : World), (Go.binOp op t (.int k (x.val σ)) (.int k (y.val σ))).run P w = .ok (.int k (r.val σ)) w
  | .test op k x y r => ∀ (t : TypeId) (w : World), (Go.binOp op t (.int k (x.val σ)) (.int k (y.val σ))).run P w = .ok (.bool r) w
  | .fits x k => k.wrap (σ x) = σ x

structure TyOk (P : Program) (σ : Nat → Int) (t : TypeId) (i : TyI) : Prop where
  und : P.underlying t = some i.desc
  info : ∃ inf z, P.info? t = some inf ∧ inf.size = i.size ∧ inf.bytes = i.bytes ∧ inf.zero = some z ∧ (∀ μ, VRel σ μ i.zeroV z) ∧ (∀ μ, VsRel σ μ i.zero z.cells.toList)
  parts : ∀ fs, i.desc = .struct fs → ∀ w, (fs.mapM (fun f => do pure (f.offset, ← sizeOf f.type) : Field → Sem (Nat × Nat))).run P w = .ok i.parts.toArray w
  zlen : i.zero.length = i.size
  scal1 : isAggD i.desc = false → i.size = 1
  plain : i.plain = true → P.stoodInHeld t = false ∧ P.eqGuardType P.depth t = false ∧ ∀ fs, i.desc = .struct fs → ∀ f, f ∈ fs.toList → f.name ≠ "_"

structure EnvOk (P : Program) (E : Env) (σ : Nat → Int) : Prop where
  fn : ∀ f fn, E.fn f = some fn → P.funcs[f]? = some fn ∧ (fn.name == "runtime.NumGoroutine") = false
  ty : ∀ t i, E.ty t = some i → TyOk P σ t i
  facts : ∀ f, f ∈ E.facts → f.ok P σ
  mixed : P.follows .mixedOrders = true

/-! ### rows -/
section
variable {P : Program} {σ : Nat → Int} {μ : Map} {h : AH} {w : World}

theorem cell?_eq (w : World) (b off : Nat) : w.cell? ⟨b, off, none⟩ = match w.heap[b]? with
    | some (.cells c _ _) => c[off]?
    | _ => none := by
  unfold World.cell?
  rfl

theorem frozen?_eq (w : World) (b off : Nat) : w.frozen? ⟨b, off, none⟩ = match w.heap[b]? with
    | some (.cells _ _ fr) => decide (fr.1 ≤ off) && decide (off < fr.2)
    | _ => false := by
  unfold World.frozen?
  simp only
  cases w.heap[b]? with
  | none => rfl
  | some o => cases o <;> rfl

/-- a row, as the model has it -/
theorem ORel.row {o : AObj} {loc : Loc} {x : Option Obj} {size : Nat} {st : Bool} (hr : ORel σ μ o loc x) (h1 : o.row = some (size, st)) : RowRel σ μ o.cell size st loc x := by
  cases o <;> simp only [AObj.row] at h1 <;> first | (cases h1; done) | (cases h1; exact hr)

theorem cell_row {o : AObj} {i : Nat} {v : AV} (hc : o.cell i = some v) : (∃ size st, o.row = some (size, st) ∧ i < size) ∨ (∃ size t, o = .ro size t ∧ i < size) := by
  cases o with
  | cells size st zero t =>
    refine .inl ⟨size, st, rfl, ?_⟩
    by_cases hi : i < size
    · exact hi
    · simp only [AObj.cell, show Nat.blt i size = false by rw [← Bool.not_eq_true, blt_true]; exact hi, cond_false] at hc
      cases hc
  | bytes size st n =>
    refine .inl ⟨size, st, rfl, ?_⟩
    by_cases hi : i < size
    · exact hi
    · simp only [AObj.cell, show Nat.blt i size = false by rw [← Bool.not_eq_true, blt_true]; exact hi, cond_false] at hc
      cases hc
  | ro size t =>
    refine .inr ⟨size, t, rfl, ?_⟩
    by_cases hi : i < size
    · exact hi
    · simp only [AObj.cell, show Nat.blt i size = false by rw [← Bool.not_eq_true, blt_true]; exact hi, cond_false] at hc
      cases hc
  | dead => cases hc
  | map _ _ => cases hc
  | loop _ _ _ _ _ _ _ _ => cases hc
  | deferred => cases hc

theorem ORel.cell {o : AObj} {loc : Loc} {x : Option Obj} {i : Nat} {v : AV} (hr : ORel σ μ o loc x) (hc : o.cell i = some v) :
    ∃ c E fr y, x = some (.cells c E fr) ∧ c[loc.o + i]? = some y ∧ VRel σ μ v y ∧ ∀ j, j < c.size → ¬ (fr.1 ≤ j ∧ j < fr.2) := by
  have key : ∀ size st, RowRel σ μ o.cell size st loc x → i < size → ∃ c E fr y, x = some (.cells c E fr) ∧ c[loc.o + i]? = some y ∧ VRel σ μ v y ∧ ∀ j, j < c.size → ¬ (fr.1 ≤ j ∧ j < fr.2) := by
    intro size st ⟨c, E, fr, h1, h2, h3, h4, h5, h6⟩ hi
    obtain ⟨v', y, p, q, r⟩ := h6 i hi
    rw [hc] at p
    cases p
    exact ⟨c, E, fr, y, h1, q, r, h5⟩
  rcases cell_row hc with ⟨size, st, h1, hi⟩ | ⟨size, t, rfl, hi⟩
  · exact key size st (hr.row h1) hi
  · exact key size true hr.2 hi

theorem read_cell (r : HRel σ μ h w.heap) {id off : Nat} {loc : Loc} {v : AV} (hm : μ id = some loc) (hc : readCell h id off = some v) :
    ∃ x, w.cell? ⟨loc.b, loc.o + off, none⟩ = some x ∧ VRel σ μ v x := by
  unfold readCell at hc
  have hl : h.get id ≠ .dead := fun e => by rw [e] at hc; cases hc
  obtain ⟨c, E, fr, y, h1, h2, h3, _⟩ := (r.obj id loc _ hm (AH.get_live hl)).cell hc
  exact ⟨y, by rw [cell?_eq, h1]; exact h2, h3⟩

theorem AObj.read_spec {o : AObj} : ∀ (k off : Nat) (l : List AV), o.read off k = some l → l.length = k ∧ ∀ j v, l[j]? = some v → o.cell (off + j) = some v
  | 0, off, l, h => by simp only [AObj.read] at h; cases h; simp
  | k + 1, off, l, h => by
    simp only [AObj.read] at h
    cases hc : o.cell off with
    | none => rw [hc] at h; cases h
    | some v =>
      cases hr : o.read (off + 1) k with
      | none => rw [hc, hr] at h; cases h
      | some m =>
        rw [hc, hr] at h
        cases h
        obtain ⟨h1, h2⟩ := AObj.read_spec k (off + 1) m hr
        refine ⟨by simp [h1], fun j u hj => ?_⟩
        cases j with
        | zero => simp at hj; subst hj; exact hc
        | succ j => have := h2 j u (by simpa using hj); rwa [show off + (j + 1) = off + 1 + j by omega]

theorem list_rel {f : Nat → Option Value} : ∀ (l : List AV), (∀ j v, l[j]? = some v → ∃ x, f j = some x ∧ VRel σ μ v x) →
    ∃ xs : List Value, VsRel σ μ l xs ∧ ∀ j x, xs[j]? = some x → f j = some x := by
  intro l
  induction l generalizing f with
  | nil => intro _; exact ⟨[], rfl, fun j x hj => by simp at hj⟩
  | cons a as ih =>
    intro hf
    obtain ⟨x, hx, hr⟩ := hf 0 a rfl
    obtain ⟨xs, h1, h2⟩ := ih (f := fun j => f (j + 1)) fun j v hj => hf (j + 1) v (by simpa using hj)
    refine ⟨x :: xs, ⟨x, xs, rfl, hr, h1⟩, fun j y hj => ?_⟩
    cases j with
    | zero => simp at hj; subst hj; exact hx
    | succ j => exact h2 j y (by simpa using hj)

theorem add_cell (w : World) (b o j : Nat) : w.cell? (Addr.add ⟨b, o, none⟩ j) = w.cell? ⟨b, o + j, none⟩ := by
  unfold Addr.add
  by_cases hj : j = 0
  · rw [if_pos hj, hj, Nat.add_zero]
  · rw [if_neg hj]

theorem read_cells (r : HRel σ μ h w.heap) {id off k : Nat} {loc : Loc} {l : List AV} (hm : μ id = some loc) (hc : readCells h id off k = some l) :
    ∃ xs : List Value, VsRel σ μ l xs ∧ xs.length = k ∧ (loadCells ⟨loc.b, loc.o + off, none⟩ k).run P w = .ok xs.toArray w := by
  obtain ⟨h1, h2⟩ := AObj.read_spec k off l hc
  obtain ⟨xs, p, q⟩ := list_rel (σ := σ) (μ := μ) (f := fun j => w.cell? ⟨loc.b, loc.o + off + j, none⟩) l fun j v hj => by
    have := read_cell r hm (id := id) (off := off + j) (v := v) (h2 j v hj)
    rwa [← Nat.add_assoc] at this
  have hl : xs.length = k := by rw [← p.length, h1]
  refine ⟨xs, p, hl, ?_⟩
  have := run_loadCells_list (P := P) w ⟨loc.b, loc.o + off, none⟩ xs fun j v hj => by rw [add_cell]; exact q j v hj
  rwa [hl] at this

theorem run_und {E : Env} (ok : EnvOk P E σ) {t : TypeId} {i : TyI} (ht : E.ty t = some i) (w : World) : (underlying t).run P w = .ok i.desc w :=
  run_underlying (ok.ty t i ht).und w

theorem run_info {E : Env} (ok : EnvOk P E σ) {t : TypeId} {i : TyI} (ht : E.ty t = some i) :
    ∃ inf z, (∀ w, (typeInfo t).run P w = .ok inf w) ∧ inf.size = i.size ∧ inf.bytes = i.bytes ∧ inf.zero = some z ∧ (∀ μ, VRel σ μ i.zeroV z) ∧ (∀ μ, VsRel σ μ i.zero z.cells.toList) := by
  obtain ⟨inf, z, h1, h2, h3, h4, h5, h6⟩ := (ok.ty t i ht).info
  exact ⟨inf, z, fun w => by simp [typeInfo, h1], h2, h3, h4, h5, h6⟩

theorem run_size {E : Env} (ok : EnvOk P E σ) {t : TypeId} {i : TyI} (ht : E.ty t = some i) (w : World) : (sizeOf t).run P w = .ok i.size w := by
  obtain ⟨inf, z, h1, h2, _⟩ := run_info ok ht
  simp [sizeOf, h1, h2]

theorem run_zero {E : Env} (ok : EnvOk P E σ) {t : TypeId} {i : TyI} (ht : E.ty t = some i) :
    ∃ z, (∀ w, (zeroValue t).run P w = .ok z w) ∧ (∀ μ, VRel σ μ i.zeroV z) ∧ (∀ μ, VsRel σ μ i.zero z.cells.toList) := by
  obtain ⟨inf, z, h1, _, _, h4, h5, h6⟩ := run_info ok ht
  exact ⟨z, fun w => by simp [zeroValue, h1, h4], h5, h6⟩

theorem run_agg {E : Env} (ok : EnvOk P E σ) {t : TypeId} {i : TyI} (ht : E.ty t = some i) (w : World) : (isAgg t).run P w = .ok (isAggD i.desc) w := by
  simp only [isAgg, Sem.run_bind, run_und ok ht, Result.andThen_ok]
  cases i.desc <;> rfl

theorem load_rel {E : Env} (ok : EnvOk P E σ) (r : HRel σ μ h w.heap) {t : TypeId} {id off : Nat} {loc : Loc} {v : AV} (hm : μ id = some loc) (hc : loadT E h t id off = some v) :
    ∃ x, (loadVar t ⟨loc.b, loc.o + off, none⟩).run P w = .ok x w ∧ VRel σ μ v x := by
  unfold loadT at hc
  cases ht : E.ty t with
  | none => rw [ht] at hc; cases hc
  | some i =>
    rw [ht] at hc
    simp only at hc
    unfold loadVar
    simp only [Sem.run_bind, run_agg ok ht, Result.andThen_ok]
    cases hd : isAggD i.desc with
    | true =>
      rw [hd] at hc
      simp only at hc
      cases hl : readCells h id off i.size with
      | none => rw [hl] at hc; cases hc
      | some l =>
        rw [hl] at hc
        cases hc
        obtain ⟨xs, p, q, e⟩ := read_cells (P := P) r hm hl
        exact ⟨.agg xs.toArray, by simp [run_size ok ht, e], ⟨xs.toArray, rfl, by simpa using p⟩⟩
    | false =>
      rw [hd] at hc
      obtain ⟨x, e, p⟩ := read_cell r hm hc
      exact ⟨x, by simp [e], p⟩

/-! ### stores -/
theorem setCell_heap (w : World) (b off : Nat) (v : Value) (j : Nat) : (w.setCell ⟨b, off, none⟩ v).heap[j]? =
    if b = j then (w.heap[j]?).map (fun | .cells c e fr => .cells (c.setIfInBounds off v) e fr | o => o) else w.heap[j]? := by
  unfold World.setCell
  simp only [Array.getElem?_modify]
  rfl

theorem setCell_size (w : World) (a : Addr) (v : Value) : (w.setCell a v).heap.size = w.heap.size := by
  unfold World.setCell
  simp

theorem scal_one {v : AV} {x : Value} (hs : scal v = true) (hv : VRel σ μ v x) : x.oneCell' = true := by
  cases v with
  | undef => cases hs
  | agg _ => cases hs
  | tuple _ => cases hs
  | bool _ => rw [show x = _ from hv]; rfl
  | int _ _ => rw [show x = _ from hv]; rfl
  | sym _ _ => rw [show x = _ from hv]; rfl
  | str _ _ => rw [hv.2]; rfl
  | nilPtr => rw [show x = _ from hv]; rfl
  | ptr _ _ => obtain ⟨_, _, e⟩ := hv; rw [e]; rfl
  | nilSlice => rw [show x = _ from hv]; rfl
  | slice _ _ _ _ _ _ => obtain ⟨_, _, _, _, e, _⟩ := hv; rw [e]; rfl
  | nilMap => rw [show x = _ from hv]; rfl
  | map _ => obtain ⟨_, _, e⟩ := hv; rw [e]; rfl
  | nilFunc => rw [show x = _ from hv]; rfl
  | func _ _ _ => obtain ⟨_, _, e, _⟩ := hv; rw [e]; rfl
  | yield _ => obtain ⟨_, _, e⟩ := hv; rw [e]; rfl
  | nilIface => rw [show x = _ from hv]; rfl
  | iface _ _ => obtain ⟨_, e, _⟩ := hv; rw [e]; rfl

/-- a row of which some places are other values -/
theorem RowRel.put {cell cell' : Nat → Option AV} {size : Nat} {st : Bool} {loc : Loc} {c : Array Value} {E : TypeId} {fr : Nat × Nat} {off : Nat} {v : AV} {x : Value}
    (hr : RowRel σ μ cell size st loc (some (.cells c E fr))) (hv : VRel σ μ v x) (ho : off < size)
    (h1 : cell' off = some v) (h2 : ∀ i, i < size → i ≠ off → cell' i = cell i) : RowRel σ μ cell' size st loc (some (.cells (c.setIfInBounds (loc.o + off) x) E fr)) := by
  obtain ⟨c', E', fr', e, p, q, s, t, u⟩ := hr
  cases e
  refine ⟨_, _, _, rfl, by simpa using p, q, s, by simpa using t, fun i hi => ?_⟩
  by_cases e : i = off
  · rw [e]
    exact ⟨v, x, h1, by rw [Array.getElem?_setIfInBounds_self, if_pos (by omega)], hv⟩
  · obtain ⟨v', y, a, b, d⟩ := u i hi
    exact ⟨v', y, by rw [h2 i hi e]; exact a, by rw [Array.getElem?_setIfInBounds_ne (by omega)]; exact b, d⟩

theorem and_true2 {a b : Bool} (h : (a && b) = true) : a = true ∧ b = true := by simpa using h

theorem write_live {o o' : AObj} {off : Nat} {v : AV} (hw : o.write off v = some o') : o.live = true ∧ o'.live = true ∧ scal v = true := by
  cases o with
  | cells size s zero t =>
    simp only [AObj.write] at hw
    cases hb : (Nat.blt off size && scal v) with
    | false => rw [hb] at hw; cases hw
    | true => rw [hb] at hw; cases hw; exact ⟨rfl, rfl, (and_true2 hb).2⟩
  | bytes size s n =>
    simp only [AObj.write] at hw
    split at hw
    · rename_i b
      cases hb : (Nat.blt off size && Nat.blt b 256) with
      | false => rw [hb] at hw; cases hw
      | true => rw [hb] at hw; cases hw; exact ⟨rfl, rfl, rfl⟩
    · cases hw
  | dead => cases hw
  | ro _ _ => cases hw
  | map _ _ => cases hw
  | loop _ _ _ _ _ _ _ _ => cases hw
  | deferred => cases hw

theorem write_rel {o o' : AObj} {loc : Loc} {off : Nat} {v : AV} {x : Value} {w : World} (hr : ORel σ μ o loc w.heap[loc.b]?) (hw : o.write off v = some o') (hv : VRel σ μ v x) :
    (∃ y, w.cell? ⟨loc.b, loc.o + off, none⟩ = some y) ∧ w.frozen? ⟨loc.b, loc.o + off, none⟩ = false ∧
      ORel σ μ o' loc (w.setCell ⟨loc.b, loc.o + off, none⟩ x).heap[loc.b]? := by
  have key : ∀ (size : Nat) (st : Bool) (cell' : Nat → Option AV), RowRel σ μ o.cell size st loc w.heap[loc.b]? → off < size → cell' off = some v →
      (∀ i, i < size → i ≠ off → cell' i = o.cell i) →
      (∃ y, w.cell? ⟨loc.b, loc.o + off, none⟩ = some y) ∧ w.frozen? ⟨loc.b, loc.o + off, none⟩ = false ∧
      RowRel σ μ cell' size st loc (w.setCell ⟨loc.b, loc.o + off, none⟩ x).heap[loc.b]? := by
    intro size st cell' hr ho h1 h2
    have hr' := hr
    obtain ⟨c, E, fr, e, p, q, s, t, u⟩ := hr
    obtain ⟨_, y, _, b, _⟩ := u off ho
    rw [cell?_eq, frozen?_eq, setCell_heap, e]
    rw [e] at hr'
    refine ⟨⟨y, b⟩, ?_, ?_⟩
    · have := t (loc.o + off) (by omega)
      simp only [Bool.and_eq_false_iff, decide_eq_false_iff_not]
      omega
    · rw [if_pos rfl]
      exact hr'.put hv ho h1 h2
  cases o with
  | cells size s zero t =>
    simp only [AObj.write] at hw
    cases hb : (Nat.blt off size && scal v) with
    | false => rw [hb] at hw; cases hw
    | true =>
      rw [hb] at hw
      cases hw
      have ho := blt_true.1 (and_true2 hb).1
      refine key size s (AObj.cells size s zero (t.set off v)).cell hr ho ?_ ?_
      · simp only [AObj.cell, blt_true.2 ho, cond_true, Tr.get_set, if_pos]
      · intro i hi hne
        simp only [AObj.cell, blt_true.2 hi, cond_true, Tr.get_set, if_neg hne]
  | bytes size s n =>
    simp only [AObj.write] at hw
    split at hw
    · rename_i b
      cases hb : (Nat.blt off size && Nat.blt b 256) with
      | false => rw [hb] at hw; cases hw
      | true =>
        rw [hb] at hw
        cases hw
        have ho := blt_true.1 (and_true2 hb).1
        have hbl := blt_true.1 (and_true2 hb).2
        have hput : ∀ i, byteAt (n - (byteAt n off) <<< (8 * off) + b <<< (8 * off)) i = if i = off then b else byteAt n i := by
          intro i
          have := byteAt_put n off 1 b i (by simpa using hbl)
          have e1 : (n >>> (8 * off)) % 2 ^ (8 * 1) = byteAt n off := rfl
          rw [e1] at this
          rw [this]
          by_cases hi : i = off
          · rw [if_pos (by omega), if_pos hi, hi, Nat.sub_self, byteAt_eq]; simp; omega
          · rw [if_neg (by omega), if_neg hi]
        refine key size s (AObj.bytes size s (n - (byteAt n off) <<< (8 * off) + b <<< (8 * off))).cell hr ho ?_ ?_
        · simp only [AObj.cell, blt_true.2 ho, cond_true, hput, if_pos]
        · intro i hi hne
          simp only [AObj.cell, blt_true.2 hi, cond_true, hput, if_neg hne]
    · cases hw
  | dead => cases hw
  | ro _ _ => cases hw
  | map _ _ => cases hw
  | loop _ _ _ _ _ _ _ _ => cases hw
  | deferred => cases hw

/-- the streams are as they were -/
def Same3 (w w' : World) : Prop := w'.os = w.os ∧ w'.tape = w.tape ∧ w'.output = w.output
theorem Same3.refl (w : World) : Same3 w w := ⟨rfl, rfl, rfl⟩
theorem Same3.trans {a b c : World} (h : Same3 a b) (h' : Same3 b c) : Same3 a c := ⟨h'.1.trans h.1, h'.2.1.trans h.2.1, h'.2.2.trans h.2.2⟩
theorem Same3.setCell (w : World) (a : Addr) (v : Value) : Same3 w (w.setCell a v) := ⟨rfl, rfl, rfl⟩

theorem writes_rel {loc : Loc} : ∀ (vs : List AV) (xs : List Value) (o o' : AObj) (off i : Nat) (w : World), ORel σ μ o loc w.heap[loc.b]? → o.writes (off + i) vs = some o' → VsRel σ μ vs xs →
    ∃ w', (storeCells ⟨loc.b, loc.o + off, none⟩ xs i).run P w = .ok () w' ∧ Same3 w w' ∧ w'.heap.size = w.heap.size ∧ (∀ b, b ≠ loc.b → w'.heap[b]? = w.heap[b]?) ∧ ORel σ μ o' loc w'.heap[loc.b]?
  | [], xs, o, o', off, i, w, hr, hw, hv => by
    rw [VsRel.nil_iff.1 hv]
    simp only [AObj.writes] at hw
    cases hw
    exact ⟨w, by simp [storeCells], Same3.refl _, rfl, fun _ _ => rfl, hr⟩
  | v :: vs, _, o, o', off, i, w, hr, hw, ⟨x, xs, e, hx, hxs⟩ => by
    rw [e]
    simp only [AObj.writes] at hw
    cases h1 : o.write (off + i) v with
    | none => rw [h1] at hw; cases hw
    | some o1 =>
      rw [h1] at hw
      simp only at hw
      obtain ⟨⟨y, hy⟩, hf, hr1⟩ := write_rel (w := w) hr h1 hx
      have hone := scal_one (write_live h1).2.2 hx
      obtain ⟨w', a, b, c, d, f⟩ := writes_rel vs xs o1 o' off (i + 1) (w.setCell ⟨loc.b, loc.o + (off + i), none⟩ x) hr1 (by rwa [Nat.add_assoc] at hw) hxs
      refine ⟨w', ?_, (Same3.setCell _ _ _).trans b, by rw [c, setCell_size], fun j hj => ?_, f⟩
      · have ea : ((⟨loc.b, loc.o + off, none⟩ : Addr).add i) = ⟨loc.b, loc.o + (off + i), none⟩ := by
          unfold Addr.add
          by_cases hi : i = 0
          · simp [hi]
          · rw [if_neg hi, Nat.add_assoc]
        simp only [storeCells, ea, Sem.run_bind, run_store P w _ x .plain hone, hy, hf, Result.andThen_ok]
        exact a
      · rw [d j hj, setCell_heap, if_neg (fun e => hj e.symm)]

theorem writes_live {o' : AObj} : ∀ (vs : List AV) (off : Nat) (o : AObj), vs ≠ [] → o.writes off vs = some o' → o.live = true
  | [], _, _, hn, _ => absurd rfl hn
  | v :: vs, off, o, _, hw => by
    simp only [AObj.writes] at hw
    cases h1 : o.write off v with
    | none => rw [h1] at hw; cases hw
    | some o1 => exact (write_live h1).1

theorem store_cells {E : Env} (r : HRel σ μ h w.heap) {id off : Nat} {loc : Loc} {vs : List AV} {xs : List Value} {h' : AH} (hm : μ id = some loc) (hn : vs ≠ [])
    (hw : writeCells h id off vs = some h') (hv : VsRel σ μ vs xs) :
    ∃ w', (storeCells ⟨loc.b, loc.o + off, none⟩ xs).run P w = .ok () w' ∧ Same3 w w' ∧ Moves σ μ h w.heap μ h' w'.heap := by
  unfold writeCells at hw
  cases h1 : (h.get id).writes off vs with
  | none => rw [h1] at hw; cases hw
  | some o' =>
    rw [h1] at hw
    cases hw
    have hl := writes_live vs off (h.get id) hn h1
    have hnd : h.get id ≠ .dead := fun e => by rw [e] at hl; cases hl
    have ho := AH.get_live hnd
    obtain ⟨w', a, b, c, d, f⟩ := writes_rel (P := P) vs xs (h.get id) o' off 0 w (r.obj id loc _ hm ho) h1 hv
    exact ⟨w', a, b, r.put hm ho hl c d f⟩

theorem cells_rel {v : AV} {x : Value} (hv : VRel σ μ v x) : VsRel σ μ v.cells x.cells.toList := by
  have one : ∀ {u : AV} {y : Value}, VRel σ μ u y → VsRel σ μ [u] [y] := fun h => ⟨_, _, rfl, h, rfl⟩
  cases v with
  | agg cs => obtain ⟨vs, e, p⟩ := hv; rw [e]; exact p
  | undef => have e : x = _ := hv; subst e; exact one hv
  | tuple _ => obtain ⟨vs, e, p⟩ := hv; subst e; exact one ⟨vs, rfl, p⟩
  | bool _ => have e : x = _ := hv; subst e; exact one hv
  | int _ _ => have e : x = _ := hv; subst e; exact one hv
  | sym _ _ => have e : x = _ := hv; subst e; exact one hv
  | str _ _ => have e := hv.2; subst e; exact one hv
  | nilPtr => have e : x = _ := hv; subst e; exact one hv
  | ptr _ _ => have hv' := hv; obtain ⟨_, _, e⟩ := hv; subst e; exact one hv'
  | nilSlice => have e : x = _ := hv; subst e; exact one hv
  | slice _ _ _ _ _ _ => have hv' := hv; obtain ⟨_, _, _, _, e, _⟩ := hv; subst e; exact one hv'
  | nilMap => have e : x = _ := hv; subst e; exact one hv
  | map _ => have hv' := hv; obtain ⟨_, _, e⟩ := hv; subst e; exact one hv'
  | nilFunc => have e : x = _ := hv; subst e; exact one hv
  | func _ _ _ => have hv' := hv; obtain ⟨_, _, e, _⟩ := hv; subst e; exact one hv'
  | yield _ => have hv' := hv; obtain ⟨_, _, e⟩ := hv; subst e; exact one hv'
  | nilIface => have e : x = _ := hv; subst e; exact one hv
  | iface _ _ => have hv' := hv; obtain ⟨_, e, _⟩ := hv; subst e; exact one hv'

theorem store_rel {E : Env} (ok : EnvOk P E σ) (r : HRel σ μ h w.heap) {t : TypeId} {id off : Nat} {loc : Loc} {v : AV} {x : Value} {h' : AH} (hm : μ id = some loc)
    (hw : storeT E h t id off v = some h') (hv : VRel σ μ v x) :
    ∃ w', (storeVar t ⟨loc.b, loc.o + off, none⟩ x).run P w = .ok () w' ∧ Same3 w w' ∧ Moves σ μ h w.heap μ h' w'.heap := by
  unfold storeT at hw
  cases ht : E.ty t with
  | none => rw [ht] at hw; cases hw
  | some i =>
    rw [ht] at hw
    simp only at hw
    cases hb : (Nat.beq v.cells.length i.size && !Nat.beq i.size 0) with
    | false => rw [hb] at hw; cases hw
    | true =>
      rw [hb] at hw
      have hlen := beq_true.1 (and_true2 hb).1
      have hc := cells_rel hv
      have hsz : x.cells.size = i.size := by rw [← hlen, hc.length, Array.length_toList]
      have hn : v.cells ≠ [] := fun e => by
        have := (and_true2 hb).2
        rw [e] at hlen
        rw [← hlen] at this
        cases this
      unfold storeVar
      simp only [Sem.run_bind, run_size ok ht, Result.andThen_ok, hsz, ne_eq, not_true_eq_false, if_false, Sem.run_ite]
      obtain ⟨w', a, b, c⟩ := store_cells (P := P) (E := E) r hm hn hw hc
      exact ⟨w', by simpa using a, b, c⟩
end
end Go.Ev
