/-
  An operation looks at its operands alone.
-/
import Derived.Test.YtkdjcmpgnkecfaaGreatDoorE23
import Derived.Orders
noncomputable section
namespace Go.Ev
set_option linter.unusedVariables false
set_option linter.unusedSimpArgs false

section
variable {E : Env} {r r' : Regs} {h : AH}

theorem evalOperands_congr : ∀ (xs : List Operand), (∀ x, x ∈ xs → evalOperand E r x = evalOperand E r' x) → evalOperands E r xs = evalOperands E r' xs
  | [], _ => rfl
  | x :: xs, H => by
    simp only [evalOperands, H x List.mem_cons_self, evalOperands_congr xs fun y hy => H y (List.mem_cons_of_mem _ hy)]

theorem evalParts_congr : ∀ (xs : List (Nat × Operand)), (∀ x, x ∈ xs.map (·.2) → evalOperand E r x = evalOperand E r' x) → evalParts E r xs = evalParts E r' xs
  | [], _ => rfl
  | (i, x) :: xs, H => by
    simp only [evalParts, H x (by simp), evalParts_congr xs fun y hy => H y (by simp only [List.map_cons]; exact List.mem_cons_of_mem _ hy)]

theorem optInt_congr (x : Option Operand) (H : ∀ y, x = some y → evalOperand E r y = evalOperand E r' y) : optInt E r x = optInt E r' x := by
  cases x with
  | none => rfl
  | some y => simp only [optInt, H y rfl]

theorem lookOp_congr (op : Op) (H : ∀ x, x ∈ op.operands → evalOperand E r x = evalOperand E r' x) : lookOp E r h op = lookOp E r' h op := by
  cases op <;> simp only [Op.operands] at H <;> simp only [lookOp]
  case move x => exact H x (by simp)
  case assign x => exact H x (by simp)
  case pick c a b => rw [H c (by simp), H a (by simp), H b (by simp)]
  case build t ps => rw [evalParts_congr ps.toList fun x hx => H x (by simpa using hx)]
  case load t a => rw [H a (by simp)]
  case nilCheck x => rw [H x (by simp)]
  case binOp op t x y yt => rw [H x (by simp), H y (by simp)]
  case unOp op t x => rw [H x (by simp)]
  case convert s d x => rw [H x (by simp)]
  case makeFunc fn first captured => rw [evalOperands_congr first.toList fun x hx => H x (by simp at hx ⊢; exact .inl hx), evalOperands_congr captured.toList fun x hx => H x (by simp at hx ⊢; exact .inr hx)]
  case slice t x lo hi mx =>
    rw [H x (by simp), optInt_congr lo fun y e => H y (by subst e; simp), optInt_congr hi fun y e => H y (by subst e; simp), optInt_congr mx fun y e => H y (by subst e; simp)]
  case fieldAddr s x f => rw [H x (by simp)]
  case field s x f => rw [H x (by simp)]
  case indexAddr t x ix => rw [H x (by simp), H ix (by simp)]
  case index t x ix => rw [H x (by simp), H ix (by simp)]
  case lookup t x ix b => rw [H x (by simp), H ix (by simp)]
  case extract t i => rw [H t (by simp)]
  case call c => rw [evalOperands_congr c.args.toList fun x hx => H x (by simp [Call.operands] at hx ⊢; exact .inr hx)]

theorem newOp_congr (op : Op) (H : ∀ x, x ∈ op.operands → evalOperand E r x = evalOperand E r' x) : newOp E r op = newOp E r' op := by
  cases op <;> simp only [Op.operands] at H <;> simp only [newOp]
  case box t x => rw [H x (by simp)]
  case buildSlice t len ps => rw [evalParts_congr ps.toList fun x hx => H x (by simpa using hx)]
  case makeSlice t l c => rw [H l (by simp), H c (by simp)]
  case makeMap t rv => cases rv <;> rfl
  case convert s d x => rw [H x (by simp)]

theorem actOp_congr (op : Op) (H : ∀ x, x ∈ op.operands → evalOperand E r x = evalOperand E r' x) : actOp E r h op = actOp E r' h op := by
  cases op <;> simp only [Op.operands] at H <;> simp only [actOp]
  case store t a x => rw [H a (by simp), H x (by simp)]
  case mapUpdate t m k x => rw [H m (by simp), H k (by simp), H x (by simp)]
  case insert t m k x => rw [H m (by simp), H k (by simp), H x (by simp)]
  case call c =>
    obtain ⟨callee, args, ts⟩ := c
    have ha := evalOperands_congr (E := E) (r := r) (r' := r') args.toList fun x hx => H x (by simp [Call.operands] at hx ⊢; exact .inr hx)
    cases callee with
    | builtin b => simp only [ha]
    | value f => simp only [ha, H f (by simp [Call.operands])]
    | invoke _ _ => rfl

theorem opA_congr (op : Op) (H : ∀ x, x ∈ op.operands → evalOperand E r x = evalOperand E r' x) : opA E r h op = opA E r' h op := by
  unfold opA
  rw [lookOp_congr op H, newOp_congr op H, actOp_congr op H]

theorem memB_iff {x : Nat} : ∀ {l : List Nat}, memB x l = true ↔ x ∈ l
  | [] => by simp [memB]
  | y :: ys => by simp only [memB, Bool.or_eq_true, beq_true, memB_iff (l := ys), List.mem_cons]

/-- what an operation looks at -/
def Agree (ops : Array Oper) (o : Oper) (r r' : Regs) : Prop := ∀ t, t ∈ tmpsOf ops o → r.get t = r'.get t

theorem Agree.operand {ops : Array Oper} {o : Oper} (ha : Agree ops o r r') : ∀ x, x ∈ o.op.operands → evalOperand E r x = evalOperand E r' x := by
  intro x hx
  cases x with
  | tmp t =>
    simp only [evalOperand]
    congr 1
    apply ha
    unfold tmpsOf
    apply List.mem_append_left
    rw [List.mem_flatMap]
    exact ⟨.tmp t, by simpa using hx, by simp [tmpOf]⟩
  | _ => rfl

theorem Agree.guard {ops : Array Oper} {o : Oper} (ha : Agree ops o r r') : guardOk ops r o = guardOk ops r' o := by
  unfold guardOk
  cases hg : o.guard with
  | none => rfl
  | some jw =>
    obtain ⟨j, want⟩ := jw
    simp only
    cases hj : ops[j]? with
    | none => rfl
    | some g =>
      simp only
      cases hd : g.dst with
      | none => rfl
      | some d =>
        simp only
        rw [ha d (by unfold tmpsOf; apply List.mem_append_right; simp [hg, hj, hd])]

/-! ### slots, with an operation's value put in -/
def setD (r : Regs) (d : Option Tmp) (v : AV) : Regs := match d with
  | none => r
  | some d => r.set d v

theorem setReg_some {s s' : St} {d : Option Tmp} {v : AV} {g : AH} (he : setReg s d v g = some s') : (∀ t, d = some t → t < s.n) ∧ s' = { s with r := setD s.r d v, h := g } := by
  unfold setReg at he
  cases d with
  | none => cases he; exact ⟨(fun t e => by cases e), rfl⟩
  | some d =>
    simp only at he
    replace he := bif_some he; obtain ⟨hb, he⟩ := he
    cases he
    exact ⟨fun t e => by cases e; exact blt_true.1 hb, rfl⟩

theorem setReg_of {s : St} {d : Option Tmp} (hd : ∀ t, d = some t → t < s.n) (v : AV) (g : AH) : setReg s d v g = some { s with r := setD s.r d v, h := g } := by
  unfold setReg
  cases d with
  | none => rfl
  | some d => simp only [blt_true.2 (hd d rfl), cond_true, setD]

theorem setD_get (r : Regs) (d : Option Tmp) (v : AV) (t : Nat) : (setD r d v).get t = if d = some t then v else r.get t := by
  cases d with
  | none => simp [setD]
  | some d =>
    simp only [setD, Regs.get, Tr.get_set]
    by_cases e : t = d
    · subst e; simp
    · have : ¬ (some d = some t) := fun h => e (Option.some.inj h).symm
      simp only [e, this, if_false]

/-- an operation that ran in the text's order runs so at other slots -/
theorem opStep_congr {F : Fns} {ops : Array Oper} {o : Oper} {s s' : St} (he : opStep E F ops o s = some s') :
    ∃ v, (∀ t, o.dst = some t → t < s.n) ∧ s' = { s with r := setD s.r o.dst v, h := s'.h } ∧ (guardOk ops s.r o = false → v = .undef ∧ s'.h = s.h) ∧
      ∀ r', Agree ops o r' s.r → opStep E F ops o { s with r := r' } = some { s with r := setD r' o.dst v, h := s'.h } := by
  have hop : ∀ r', Agree ops o r' s.r → opA E r' s.h o.op = opA E s.r s.h o.op := fun r' ha => opA_congr o.op ha.operand
  have hgu : ∀ r', Agree ops o r' s.r → guardOk ops r' o = guardOk ops s.r o := fun r' ha => ha.guard
  unfold opStep at he ⊢
  split at he
  · rename_i hg
    obtain ⟨h1, h2⟩ := setReg_some he
    refine ⟨.undef, h1, by rw [h2], fun _ => ⟨rfl, by rw [h2]⟩, fun r' ha => ?_⟩
    simp only [hgu r' ha, hg]
    rw [setReg_of (s := { s with r := r' }) h1, h2]
  · rename_i hg
    have hno : guardOk ops s.r o = false → False := fun h => by rw [hg] at h; cases h
    split at he
    · rename_i v g hv
      obtain ⟨h1, h2⟩ := setReg_some he
      refine ⟨v, h1, by rw [h2], fun h => (hno h).elim, fun r' ha => ?_⟩
      simp only [hgu r' ha, hg, hop r' ha, hv]
      rw [setReg_of (s := { s with r := r' }) h1, h2]
    · rename_i g hv
      obtain ⟨h1, h2⟩ := setReg_some he
      refine ⟨.undef, h1, by rw [h2], fun h => (hno h).elim, fun r' ha => ?_⟩
      simp only [hgu r' ha, hg, hop r' ha, hv]
      rw [setReg_of (s := { s with r := r' }) h1, h2]
    · rename_i f args hv
      split at he
      · rename_i v g hc
        obtain ⟨h1, h2⟩ := setReg_some he
        refine ⟨v, h1, by rw [h2], fun h => (hno h).elim, fun r' ha => ?_⟩
        simp only [hgu r' ha, hg, hop r' ha, hv, hc]
        rw [setReg_of (s := { s with r := r' }) h1, h2]
      · cases he
    · cases he
end
end Go.Ev
