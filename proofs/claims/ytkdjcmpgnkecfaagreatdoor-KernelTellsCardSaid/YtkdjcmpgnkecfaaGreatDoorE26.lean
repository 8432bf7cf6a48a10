/-
  Regions that draw their order: each order comes to what the text's order comes to.
-/
import Derived.Test.YtkdjcmpgnkecfaaGreatDoorE25
noncomputable section
namespace Go.Ev
set_option linter.unusedVariables false
set_option linter.unusedSimpArgs false

/-! ### slots, of what has been done -/
def dstAt (ops : Array Oper) (k : Nat) : Option Tmp := (ops[k]?).bind (·.dst)

def regAt (r0 : Regs) (ops : Array Oper) (V : Nat → AV) (D : Nat → Bool) : Nat → Regs
  | 0 => r0
  | k + 1 => bif D k then setD (regAt r0 ops V D k) (dstAt ops k) (V k) else regAt r0 ops V D k

def addD (D : Nat → Bool) (i : Nat) : Nat → Bool := fun j => D j || Nat.beq j i
theorem addD_at (D : Nat → Bool) (i : Nat) : addD D i i = true := by simp [addD, Go.Ev.beq_true.2 rfl]
theorem addD_other (D : Nat → Bool) {i j : Nat} (h : j ≠ i) : addD D i j = D j := by simp [addD, Go.Ev.beq_false.2 h]

section
variable {E : Env} {ops : Array Oper} {bs : List Nat} {r0 : Regs} {V : Nat → AV} {D : Nat → Bool}

structure Order (E : Env) (ops : Array Oper) (bs : List Nat) : Prop where
  pair : ∀ i j x y, ops[i]? = some x → ops[j]? = some y → i < j → bitB (bs.getD j 0) i = true ∨ Apart E ops x y
  edge : ∀ j o, ops[j]? = some o → ∀ e, e ∈ o.after → Region.binds .any e = true → e.on < j
  bits : bs = befores ops.toList []

def Closed (ops : Array Oper) (D : Nat → Bool) : Prop := ∀ j o, ops[j]? = some o → D j = true → ∀ e, e ∈ o.after → Region.binds .any e = true → D e.on = true

def ReadyAt (ops : Array Oper) (D : Nat → Bool) (o : Oper) : Prop := ∀ e, e ∈ o.after → Region.binds .any e = true → D e.on = true

theorem Order.ahead (od : Order E ops bs) (hc : Closed ops D) {i : Nat} {o : Oper} (hi : ops[i]? = some o) (hr : ReadyAt ops D o) {x : Nat} (hb : bitB (bs.getD i 0) x = true) : D x = true := by
  rw [od.bits] at hb
  exact before_done (D := fun x => D x = true) hc od.edge i o x hi hr hb

theorem regs_agree (od : Order E ops bs) (hc : Closed ops D) {i : Nat} {o : Oper} (hi : ops[i]? = some o) (hr : ReadyAt ops D o) (hn : D i = false) :
    Agree ops o (regAt r0 ops V D ops.size) (regAt r0 ops V (fun _ => true) i) := by
  intro t ht
  have h1 : ∀ k, k ≤ i → (regAt r0 ops V D k).get t = (regAt r0 ops V (fun _ => true) k).get t := by
    intro k
    induction k with
    | zero => intro _; rfl
    | succ k ih =>
      intro hk
      have ih := ih (by omega)
      simp only [regAt, cond_true]
      by_cases hd : dstAt ops k = some t
      · have hD : D k = true := by
          obtain ⟨y, hy, hyd⟩ := Option.bind_eq_some_iff.1 hd
          rcases od.pair k i y o hy hi (by omega) with hb | ha
          · exact od.ahead hc hi hr hb
          · exact absurd ht ((apart_spec ha.2).1 t hyd)
        rw [hD, cond_true, setD_get, setD_get, if_pos hd, if_pos hd]
      · cases hD : D k with
        | true => rw [cond_true, setD_get, setD_get, if_neg hd, if_neg hd, ih]
        | false => rw [cond_false, setD_get, if_neg hd, ih]
  have h2 : ∀ m, i + m ≤ ops.size → (regAt r0 ops V D (i + m)).get t = (regAt r0 ops V D i).get t := by
    intro m
    induction m with
    | zero => intro _; rfl
    | succ m ih =>
      intro hm
      have ih := ih (by omega)
      rw [← Nat.add_assoc]
      simp only [regAt]
      cases hD : D (i + m) with
      | false => rw [cond_false, ih]
      | true =>
        rw [cond_true, setD_get]
        by_cases hd : dstAt ops (i + m) = some t
        · obtain ⟨y, hy, hyd⟩ := Option.bind_eq_some_iff.1 hd
          have hm0 : m ≠ 0 := fun e => by subst e; rw [Nat.add_zero, hn] at hD; cases hD
          rcases od.pair i (i + m) o y hi hy (by omega) with hb | ha
          · have := od.ahead hc hy (hc _ _ hy hD) hb
            rw [hn] at this
            cases this
          · exact absurd ht ((apart_spec ha.2).2.2 t hyd)
        · rw [if_neg hd, ih]
  have hlt : i < ops.size := (Array.getElem?_eq_some_iff.1 hi).1
  have := h2 (ops.size - i) (by omega)
  rw [show i + (ops.size - i) = ops.size by omega] at this
  rw [this]
  exact h1 i (Nat.le_refl _)

theorem regs_add (od : Order E ops bs) (hc : Closed ops D) {i : Nat} {o : Oper} (hi : ops[i]? = some o) (hr : ReadyAt ops D o) (hn : D i = false) (t : Nat) :
    (regAt r0 ops V (addD D i) ops.size).get t = (setD (regAt r0 ops V D ops.size) o.dst (V i)).get t := by
  have hdi : dstAt ops i = o.dst := by simp [dstAt, hi]
  have h1 : ∀ k, k ≤ i → regAt r0 ops V (addD D i) k = regAt r0 ops V D k := by
    intro k
    induction k with
    | zero => intro _; rfl
    | succ k ih => intro hk; simp only [regAt, ih (by omega), addD_other D (show k ≠ i by omega)]
  have h2 : ∀ m, i + 1 + m ≤ ops.size → (regAt r0 ops V (addD D i) (i + 1 + m)).get t = (setD (regAt r0 ops V D (i + 1 + m)) o.dst (V i)).get t := by
    intro m
    induction m with
    | zero =>
      intro _
      simp only [Nat.add_zero, regAt, addD_at, cond_true, hn, cond_false, h1 i (Nat.le_refl _), hdi]
    | succ m ih =>
      intro hm
      have ih := ih (by omega)
      rw [← Nat.add_assoc]
      simp only [regAt, addD_other D (show i + 1 + m ≠ i by omega)]
      cases hD : D (i + 1 + m) with
      | false => simpa only [cond_false] using ih
      | true =>
        simp only [cond_true]
        rw [setD_get, ih, setD_get, setD_get, setD_get]
        by_cases hk : dstAt ops (i + 1 + m) = some t
        · have : o.dst ≠ some t := fun hd => by
            obtain ⟨y, hy, hyd⟩ := Option.bind_eq_some_iff.1 hk
            rcases od.pair i (i + 1 + m) o y hi hy (by omega) with hb | ha
            · have := od.ahead hc hy (hc _ _ hy hD) hb
              rw [hn] at this
              cases this
            · exact (apart_spec ha.2).2.1 t hd hyd
          rw [if_pos hk, if_neg this, if_pos hk]
        · rw [if_neg hk, if_neg hk]
  have hlt : i < ops.size := (Array.getElem?_eq_some_iff.1 hi).1
  have := h2 (ops.size - (i + 1)) (by omega)
  rwa [show i + 1 + (ops.size - (i + 1)) = ops.size by omega] at this

theorem regs_all (h : ∀ j, j < ops.size → D j = true) : ∀ k, k ≤ ops.size → regAt r0 ops V D k = regAt r0 ops V (fun _ => true) k := by
  intro k
  induction k with
  | zero => intro _; rfl
  | succ k ih => intro hk; simp only [regAt, ih (by omega), h k (by omega), cond_true]
end

/-! ### memory -/
theorem HRel.fresh {σ : Nat → Int} {μ : Map} {h : AH} {H : Array Obj} (r : HRel σ μ h H) {id : Nat} {ob : AObj} (ht : h.tr.get id = none) (hlt : id < h.next)
    (hm : ∀ loc, μ id = some loc → ORel σ μ ob loc H[loc.b]?) : HRel σ μ (h.put id ob) H where
  obj := fun j l q hj hq => by
    rw [tr_put] at hq
    by_cases e : j = id
    · rw [if_pos e] at hq
      cases hq
      rw [e] at hj
      exact hm l hj
    · rw [if_neg e] at hq
      exact r.obj j l q hj hq
  inj := fun i j l l' hi hj hb hdi hdj => by
    refine r.inj i j l l' hi hj hb (fun o ho => ?_) fun hd => ?_
    · by_cases e : i = id
      · rw [e, ht] at ho; cases ho
      · exact hdi o (by rw [tr_put, if_neg e]; exact ho)
    · by_cases e : j = id
      · rw [e, ht] at hd; cases hd
      · exact hdj (by rw [tr_put, if_neg e]; exact hd)
  lt := r.lt
  topμ := r.topμ
  toph := fun j hj => by
    have : id < j := Nat.lt_of_lt_of_le hlt hj
    rw [tr_put, if_neg (by omega)]
    exact r.toph j hj

section
variable {P : Program} {E : Env} {σ : Nat → Int} {F : Fns} {ops : Array Oper} {bs : List Nat} {S : Nat → St} {V : Nat → AV} {s : St} {μ₀ : Map} {w₀ : World}

/-- what the text's order has shown -/
structure Text (E : Env) (F : Fns) (ops : Array Oper) (bs : List Nat) (s : St) (S : Nat → St) (V : Nat → AV) : Prop where
  od : Order E ops bs
  start : S 0 = { s with h := { s.h with next := s.h.next + ops.size } }
  stp : ∀ k o, ops[k]? = some o → StepOk E F ops s.h.next k o (S k) (S (k + 1)) (V k)
  look : ∀ k o, ops[k]? = some o → kindOf E o.op = .look → guardOk ops (S k).r o = true → lookWin bs k (lookSame E { i := k, o, r := (S k).r, v := V k }) (S ops.size).h (actList E S ops.toList 0) = true

theorem Text.shape (tx : Text E F ops bs s S V) : ∀ k, k ≤ ops.size → (S k).n = s.n ∧ (S k).ds = s.ds ∧ (S k).r = regAt s.r ops V (fun _ => true) k := by
  intro k
  induction k with
  | zero => intro _; rw [tx.start]; exact ⟨rfl, rfl, rfl⟩
  | succ k ih =>
    intro hk
    obtain ⟨h1, h2, h3⟩ := ih (by omega)
    have ho : ops[k]? = some ops[k] := Array.getElem?_eq_getElem (by omega)
    have := (tx.stp k _ ho).regs
    rw [this]
    refine ⟨h1, h2, ?_⟩
    simp only [regAt, cond_true, h3, dstAt, ho, Option.bind_some]

structure J (P : Program) (E : Env) (σ : Nat → Int) (ops : Array Oper) (S : Nat → St) (V : Nat → AV) (s : St) (μ₀ : Map) (w₀ : World) (D : Nat → Bool) (q : Nat) (μ : Map) (w : World) (a : Act) : Prop where
  le : q ≤ ops.size
  acts : ∀ j o, ops[j]? = some o → kindOf E o.op = .act → (D j = true ↔ j < q)
  clo : Closed ops D
  g : GRel E μ
  moves : Moves σ μ₀ s.h w₀.heap μ (S q).h w.heap
  same : Same3 w₀ w
  nxt : s.h.next + ops.size ≤ (S q).h.next
  non : ∀ i, i < ops.size → D i = false → μ (s.h.next + i) = none
  tr : ∀ i o f ob, ops[i]? = some o → kindOf E o.op = .make → guardOk ops (S i).r o = true → newOp E (S i).r o.op = some (f, ob) → D i = false → ∀ x, (S q).h.tr.get (s.h.next + i) = some x → x = ob
  put : ∀ i, q ≤ i → i < ops.size → (S q).h.tr.get (s.h.next + i) = none
  made : ∀ i o f ob, ops[i]? = some o → kindOf E o.op = .make → guardOk ops (S i).r o = true → newOp E (S i).r o.op = some (f, ob) → D i = true →
    ∃ loc, μ (s.h.next + i) = some loc ∧ w₀.heap.size ≤ loc.b ∧ (q ≤ i → ORel σ μ ob loc w.heap[loc.b]?)
  bare : ∀ i loc, i < ops.size → μ (s.h.next + i) = some loc → w₀.heap.size ≤ loc.b
  regs : RRel σ μ s.n (regAt s.r ops V D ops.size) a.tmps
  defs : DsRel μ s.ds a.defers

/-- on in the text, past what is no act -/
theorem J.next (tx : Text E F ops bs s S V) {D : Nat → Bool} {q : Nat} {μ : Map} {w : World} {a : Act} (j : J P E σ ops S V s μ₀ w₀ D q μ w a) {o : Oper} (ho : ops[q]? = some o) (hk : kindOf E o.op ≠ .act) :
    J P E σ ops S V s μ₀ w₀ D (q + 1) μ w a := by
  have hq : q < ops.size := (Array.getElem?_eq_some_iff.1 ho).1
  have st := tx.stp q o ho
  have hacts : ∀ i o, ops[i]? = some o → kindOf E o.op = .act → (D i = true ↔ i < q + 1) := fun i o' hi hki => by
    rw [j.acts i o' hi hki]
    constructor
    · intro h; omega
    · intro h
      have : i ≠ q := fun e => by subst e; rw [ho] at hi; cases hi; exact hk hki
      omega
  have stay : (S (q + 1)).h = (S q).h → J P E σ ops S V s μ₀ w₀ D (q + 1) μ w a := fun e =>
    { le := hq, acts := hacts, clo := j.clo, g := j.g, moves := by rw [e]; exact j.moves, same := j.same, nxt := by rw [e]; exact j.nxt, non := j.non, tr := by rw [e]; exact j.tr
      put := fun i h1 h2 => by rw [e]; exact j.put i (by omega) h2
      made := fun i o f ob h1 h2 h3 h4 h5 => let ⟨loc, a1, a2, a3⟩ := j.made i o f ob h1 h2 h3 h4 h5; ⟨loc, a1, a2, fun h => a3 (by omega)⟩
      bare := j.bare, regs := j.regs, defs := j.defs }
  cases hg : guardOk ops (S q).r o with
  | false => exact stay (st.off hg).2
  | true =>
    cases hko : kindOf E o.op with
    | act => exact absurd hko hk
    | look => exact stay (st.look hko hg).2
    | make =>
      obtain ⟨f, ob, hn, hv, hh⟩ := st.make hko hg
      have ht := j.put q (Nat.le_refl _) hq
      have hlt : s.h.next + q < (S q).h.next := Nat.lt_of_lt_of_le (by omega) j.nxt
      have hor : ∀ loc, μ (s.h.next + q) = some loc → ORel σ μ ob loc w.heap[loc.b]? := fun loc hl => by
        cases hD : D q with
        | false => rw [j.non q hq hD] at hl; cases hl
        | true =>
          obtain ⟨loc', a1, a2, a3⟩ := j.made q o f ob ho hko hg hn hD
          rw [hl] at a1
          cases a1
          exact a3 (Nat.le_refl _)
      exact
        { le := hq, acts := hacts, clo := j.clo, g := j.g, same := j.same
          moves :=
            { ext := j.moves.ext
              rel := by rw [hh]; exact j.moves.rel.fresh ht hlt hor
              next := by rw [hh]; exact j.moves.next
              keptμ := j.moves.keptμ
              kept := fun id hid hx => by rw [hh, tr_put, if_neg (by omega)]; exact j.moves.kept id hid hx
              size := j.moves.size
              own := fun b hb ⟨id, loc, x, h1, h2, h3, h4⟩ => by
                rw [hh, tr_put] at h2
                by_cases e : id = s.h.next + q
                · rw [e] at h1
                  have := j.bare q loc hq h1
                  omega
                · rw [if_neg e] at h2
                  exact j.moves.own b hb ⟨id, loc, x, h1, h2, h3, h4⟩
              frame := j.moves.frame }
          nxt := by rw [hh]; exact j.nxt
          non := j.non
          tr := fun i o' f' ob' h1 h2 h3 h4 h5 x hx => by
            rw [hh, tr_put] at hx
            by_cases e : s.h.next + i = s.h.next + q
            · have : i = q := by omega
              subst this
              rw [if_pos e] at hx
              cases hx
              rw [ho] at h1
              cases h1
              rw [hn] at h4
              cases h4
              rfl
            · rw [if_neg e] at hx
              exact j.tr i o' f' ob' h1 h2 h3 h4 h5 x hx
          put := fun i h1 h2 => by rw [hh, tr_put, if_neg (by omega)]; exact j.put i (by omega) h2
          made := fun i o f ob h1 h2 h3 h4 h5 => let ⟨loc, a1, a2, a3⟩ := j.made i o f ob h1 h2 h3 h4 h5; ⟨loc, a1, a2, fun h => a3 (by omega)⟩
          bare := j.bare, regs := j.regs, defs := j.defs }

theorem J.on (tx : Text E F ops bs s S V) {D : Nat → Bool} {μ : Map} {w : World} {a : Act} : ∀ (m q : Nat), J P E σ ops S V s μ₀ w₀ D q μ w a → q + m ≤ ops.size →
    (∀ i o, ops[i]? = some o → q ≤ i → i < q + m → kindOf E o.op ≠ .act) → J P E σ ops S V s μ₀ w₀ D (q + m) μ w a
  | 0, q, j, _, _ => j
  | m + 1, q, j, hle, hno => by
    have ho : ops[q]? = some ops[q] := Array.getElem?_eq_getElem (by omega)
    have := J.on tx m (q + 1) (j.next tx ho (hno q _ ho (Nat.le_refl _) (by omega))) (by omega) fun i o hi h1 h2 => hno i o hi (by omega) (by omega)
    rwa [show q + 1 + m = q + (m + 1) by omega] at this

theorem RRel.congr {n : Nat} {r r' : Regs} {tmps : Array Value} {μ : Map} (h : ∀ t, r'.get t = r.get t) (hr : RRel σ μ n r tmps) : RRel σ μ n r' tmps := ⟨hr.1, fun i => by rw [h]; exact hr.2 i⟩

/-- an operation that is no making is done -/
theorem J.op (ok : EnvOk P E σ) (fok : FnsOk P E σ F) (tx : Text E F ops bs s S V) {D : Nat → Bool} {p p' i : Nat} {μ : Map} {w : World} {a : Act} (j : J P E σ ops S V s μ₀ w₀ D p μ w a) {o : Oper}
    (hi : ops[i]? = some o) (hn : D i = false) (hr : ReadyAt ops D o)
    (hstep : opStep E F ops o { r := regAt s.r ops V D ops.size, n := s.n, ds := s.ds, h := (S p).h } = some { r := setD (regAt s.r ops V D ops.size) o.dst (V i), n := s.n, ds := s.ds, h := (S p').h })
    (hpp : p ≤ p') (hp' : p' ≤ ops.size) (hacts : ∀ j o, ops[j]? = some o → kindOf E o.op = .act → (addD D i j = true ↔ j < p'))
    (hno : kindOf E o.op = .make → guardOk ops (S i).r o = true → False) (b : Frame) (k : List Item) (cs : List Frame) (rest : List Nat) :
    ∃ μ' w' a', J P E σ ops S V s μ₀ w₀ (addD D i) p' μ' w' a' ∧ Steps P (lone (b.atR a (.inRegion ops (i :: rest) :: k)) cs w) (lone (b.atR a' (.inRegion ops rest :: k)) cs w') := by
  obtain ⟨μ', w', a', m1, m2, m3, m4⟩ := op_steps ok fok hi hstep (a := a) (μ := μ) (w := w) ⟨j.g, j.moves.rel, j.regs, j.defs⟩ b k cs (rest := rest)
  refine ⟨μ', w', a', ?_, m4⟩
  have hlt : ∀ i, i < ops.size → s.h.next + i < (S p).h.next := fun i hi => Nat.lt_of_lt_of_le (by omega) j.nxt
  have hsize := j.moves.size
  exact
    { le := hp', acts := hacts
      clo := fun x ox hx hD e he hb => by
        by_cases ex : x = i
        · subst ex
          rw [hi] at hx
          cases hx
          have := hr e he hb
          simp only [addD, this, Bool.true_or]
        · rw [addD_other D ex] at hD
          have := j.clo x ox hx hD e he hb
          simp only [addD, this, Bool.true_or]
      g := m3.g
      moves := j.moves.trans m1
      same := j.same.trans m2
      nxt := Nat.le_trans j.nxt m1.next
      non := fun x hx hD => by
        have ex : x ≠ i := fun e => by subst e; rw [addD_at] at hD; cases hD
        rw [addD_other D ex] at hD
        exact m1.keptμ _ (hlt x hx) (j.non x hx hD)
      tr := fun x ox f ob h1 h2 h3 h4 h5 y hy => by
        have ex : x ≠ i := fun e => by subst e; rw [addD_at] at h5; cases h5
        rw [addD_other D ex] at h5
        have hx := (Array.getElem?_eq_some_iff.1 h1).1
        have e := m1.kept _ (hlt x hx) (.inl (j.non x hx h5))
        dsimp only at e
        rw [e] at hy
        exact j.tr x ox f ob h1 h2 h3 h4 h5 y hy
      put := fun x h1 h2 => by
        have hx := j.put x (by omega) h2
        have e := m1.kept _ (hlt x h2) (.inr hx)
        dsimp only at e
        rw [e]
        exact hx
      made := fun x ox f ob h1 h2 h3 h4 h5 => by
        have ex : x ≠ i := fun e => by subst e; rw [hi] at h1; cases h1; exact hno h2 h3
        rw [addD_other D ex] at h5
        obtain ⟨loc, a1, a2, a3⟩ := j.made x ox f ob h1 h2 h3 h4 h5
        refine ⟨loc, m1.ext _ _ a1, a2, fun hx => ?_⟩
        have hx' := (Array.getElem?_eq_some_iff.1 h1).1
        have hnone := j.put x (by omega) hx'
        have hb := j.moves.rel.lt _ _ a1
        have hno : ¬ Own μ (S p).h loc.b := by
          rintro ⟨id, l', y, q1, q2, q3, q4⟩
          have := j.moves.rel.inj (s.h.next + x) id loc l' a1 q1 q4.symm (fun z hz => by rw [hnone] at hz; cases hz) (fun hd => by rw [q2] at hd; cases hd; cases q3)
          rw [← this, hnone] at q2
          cases q2
        have ef : w'.heap[loc.b]? = w.heap[loc.b]? := m1.frame loc.b hb hno
        rw [ef]
        exact (a3 (by omega)).ext m1.ext
      bare := fun x loc hx hm => by
        cases hμ : μ (s.h.next + x) with
        | none =>
          have := m1.keptμ _ (hlt x hx) hμ
          rw [hm] at this
          cases this
        | some l' =>
          have := m1.ext _ _ hμ
          rw [hm] at this
          cases this
          exact j.bare x _ hx hμ
      regs := m3.r.congr fun t => regs_add tx.od j.clo hi hr hn t
      defs := m3.d }

/-- a making is done -/
theorem J.new (ok : EnvOk P E σ) (tx : Text E F ops bs s S V) {D : Nat → Bool} {p i : Nat} {μ : Map} {w : World} {a : Act} (j : J P E σ ops S V s μ₀ w₀ D p μ w a) {o : Oper}
    (hi : ops[i]? = some o) (hn : D i = false) (hr : ReadyAt ops D o) (hk : kindOf E o.op = .make) (hg : guardOk ops (S i).r o = true) (b : Frame) (k : List Item) (cs : List Frame) (rest : List Nat) :
    ∃ μ' w' a', J P E σ ops S V s μ₀ w₀ (addD D i) p μ' w' a' ∧ Steps P (lone (b.atR a (.inRegion ops (i :: rest) :: k)) cs w) (lone (b.atR a' (.inRegion ops rest :: k)) cs w') := by
  have hlt := (Array.getElem?_eq_some_iff.1 hi).1
  have st := tx.stp i o hi
  obtain ⟨f, ob, hnew, hv, hh⟩ := st.make hk hg
  obtain ⟨e1, e2, e3⟩ := tx.shape i (by omega)
  have hag := regs_agree (r0 := s.r) (V := V) tx.od j.clo hi hr hn
  rw [← e3] at hag
  have hnew' : newOp E (regAt s.r ops V D ops.size) o.op = some (f, ob) := by rw [newOp_congr o.op hag.operand]; exact hnew
  obtain ⟨x, obj, room, w', h1, h2, h3, h4⟩ := new_sound (P := P) (σ := σ) (μ := μ) ok j.g j.regs.2 hnew' w
  have hμ := j.non i hlt hn
  have hext := Map.upd_ext μ (id := s.h.next + i) ⟨w.heap.size, 0, room⟩ hμ
  obtain ⟨r1, r2⟩ := h4 (μ.upd (s.h.next + i) ⟨w.heap.size, 0, room⟩) (s.h.next + i) hext (Map.upd_at _ _ _)
  refine ⟨μ.upd (s.h.next + i) ⟨w.heap.size, 0, room⟩, w', a.put o.dst x, ?_, ?_⟩
  · have hnl : s.h.next + i < (S p).h.next := Nat.lt_of_lt_of_le (by omega) j.nxt
    have hsize := j.moves.size
    exact
      { le := j.le
        acts := fun y oy hy hky => by
          have : y ≠ i := fun e => by subst e; rw [hi] at hy; cases hy; rw [hk] at hky; cases hky
          rw [addD_other D this]
          exact j.acts y oy hy hky
        clo := fun x ox hx hD e he hb => by
          by_cases ex : x = i
          · subst ex
            rw [hi] at hx
            cases hx
            have := hr e he hb
            simp only [addD, this, Bool.true_or]
          · rw [addD_other D ex] at hD
            have := j.clo x ox hx hD e he hb
            simp only [addD, this, Bool.true_or]
        g := j.g.ext hext
        moves :=
          { ext := j.moves.ext.trans hext
            rel := by rw [h2]; exact j.moves.rel.make hμ hnl r2 fun q hq => j.tr i o f ob hi hk hg hnew hn q hq
            next := j.moves.next
            keptμ := fun id hid hx => by rw [Map.upd_other _ _ (by omega)]; exact j.moves.keptμ id hid hx
            kept := j.moves.kept
            size := by rw [h2, Array.size_push]; omega
            own := fun b hb ⟨id, loc, y, q1, q2, q3, q4⟩ => by
              by_cases e : id = s.h.next + i
              · rw [e, Map.upd_at] at q1
                cases q1
                simp only at q4
                omega
              · rw [Map.upd_other _ _ e] at q1
                exact j.moves.own b hb ⟨id, loc, y, q1, q2, q3, q4⟩
            frame := fun b hb hno => by
              have hb' : b < w.heap.size := Nat.lt_of_lt_of_le hb hsize
              rw [h2, Array.getElem?_push_lt hb', ← Array.getElem?_eq_getElem hb']
              exact j.moves.frame b hb hno }
        same := j.same.trans h3
        nxt := j.nxt
        non := fun y hy hD => by
          have ey : y ≠ i := fun e => by subst e; rw [addD_at] at hD; cases hD
          rw [addD_other D ey] at hD
          rw [Map.upd_other _ _ (by omega)]
          exact j.non y hy hD
        tr := fun y oy f' ob' q1 q2 q3 q4 q5 z hz => by
          have ey : y ≠ i := fun e => by subst e; rw [addD_at] at q5; cases q5
          rw [addD_other D ey] at q5
          exact j.tr y oy f' ob' q1 q2 q3 q4 q5 z hz
        put := j.put
        made := fun y oy f' ob' q1 q2 q3 q4 q5 => by
          by_cases ey : y = i
          · subst ey
            rw [hi] at q1
            cases q1
            rw [hnew] at q4
            cases q4
            exact ⟨_, Map.upd_at _ _ _, hsize, fun _ => by rw [h2]; simpa using r2⟩
          · rw [addD_other D ey] at q5
            obtain ⟨loc, a1, a2, a3⟩ := j.made y oy f' ob' q1 q2 q3 q4 q5
            refine ⟨loc, hext _ _ a1, a2, fun hx => ?_⟩
            have hb := j.moves.rel.lt _ _ a1
            rw [h2, Array.getElem?_push_lt hb, ← Array.getElem?_eq_getElem hb]
            exact (a3 hx).ext hext
        bare := fun y loc hy hm => by
          by_cases ey : y = i
          · subst ey
            rw [Map.upd_at] at hm
            cases hm
            exact hsize
          · rw [Map.upd_other _ _ (by omega)] at hm
            exact j.bare y loc hy hm
        regs := by
          refine RRel.congr (fun t => regs_add tx.od j.clo hi hr hn t) ?_
          have hd := st.dst
          rw [e1] at hd
          rw [hv]
          have base := j.regs.ext hext
          cases hdst : o.dst with
          | none => exact base
          | some d => exact base.put (hd d hdst) r1
        defs := by
          have : (a.put o.dst x).defers = a.defers := by cases o.dst <;> rfl
          rw [this]
          exact j.defs.ext hext }
  · have hw : Region.wanted o (yielded ops a.tmps) = true := by rw [guard_wanted j.regs ops o, hag.guard, hg]
    have hnd : ∀ c, o.op ≠ .defer c := fun c hc => by rw [hc] at hk; cases hk
    have hstepG := stepGR_op (P := P) (b := b) (k := k) (cs := cs) (w := w) (rest := rest) hi hw
    rw [Oper.semAt_eq _ _ _ hnd, eval_atR_opv b a] at hstepG
    have hfin : ∀ v, (b.atR a (.inRegion ops (i :: rest) :: k)).finish v = b.atR (a.put o.dst v) (.inRegion ops rest :: k) := by
      intro v; rw [Frame.finish_atR, hi]; rfl
    refine .one (step_lone_go ?_)
    rw [hstepG, ← hfin]; simp [stepG.apply, h1]
end
end Go.Ev
