/-
  What lifted code computes is what the evaluator computes: operations, regions without an order to draw.
-/
import Derived.Test.YtkdjcmpgnkecfaaGreatDoorL1
noncomputable section
namespace Go.Ev
set_option linter.unusedVariables false
set_option linter.unusedSimpArgs false

namespace Tr
variable {α : Type}
theorem get_del : ∀ (t : Tr α) (k j : Nat), (t.del k).get j = if j = k then none else t.get j := by
  intro t
  induction t with
  | nil => intro k j; show none = _; simp [get_nil]
  | node l v r ihl ihr =>
    intro k j
    have e : (Tr.node l v r).del k = Bool.rec (Bool.rec (.node l v (r.del (k / 2 - 1))) (.node (l.del (k / 2)) v r) (Nat.beq (k % 2) 1)) (.node l none r) (Nat.beq k 0) := rfl
    rw [e, brec, brec]
    simp only [Go.Ev.beq_true]
    by_cases hk : k = 0
    · subst hk
      simp only [if_true, get_node]
      by_cases hj : j = 0 <;> simp [hj]
    · by_cases hp : k % 2 = 1
      · simp only [hk, hp, if_true, if_false, get_node, ihl]
        by_cases hj : j = 0
        · have : ¬ j = k := by omega
          simp [hj]; intro e; omega
        · by_cases hq : j % 2 = 1
          · have : (j / 2 = k / 2) = (j = k) := by apply propext; omega
            simp [hj, hq, this]
          · have : ¬ j = k := by omega
            simp [hj, hq, this]
      · simp only [hk, hp, if_false, get_node, ihr]
        by_cases hj : j = 0
        · simp [hj]; intro e; omega
        · by_cases hq : j % 2 = 1
          · have : ¬ j = k := by omega
            simp [hj, hq, this]
          · have : (j / 2 - 1 = k / 2 - 1) = (j = k) := by apply propext; omega
            simp [hj, hq, this]
end Tr

/-- what is known of slots -/
def Kno (ρ r : Regs) : Prop := ∀ t v, Tr.get ρ t = some v → Regs.get r t = v
theorem Kno.refl (r : Regs) : Kno r r := fun t v h => by simp [Regs.get, h]
theorem Kno.setD {ρ r : Regs} (h : Kno ρ r) (d : Option Tmp) (v : AV) : Kno (setD ρ d v) (setD r d v) := by
  intro t w ht
  rw [setD_get]
  cases d with
  | none => simpa [Go.Ev.setD] using h t w ht
  | some d =>
    simp only [Go.Ev.setD, Tr.get_set] at ht
    by_cases e : t = d
    · subst e
      rw [if_pos rfl] at ht ⊢
      exact Option.some.inj ht
    · rw [if_neg e] at ht
      have : ¬ (some d = some t) := fun h => e (Option.some.inj h).symm
      rw [if_neg this]
      exact h t w ht
theorem Kno.set {ρ r : Regs} (h : Kno ρ r) {t : Nat} {v : AV} (hv : Regs.get r t = v) : Kno (Tr.set ρ t v) r := by
  intro u w hu
  rw [Tr.get_set] at hu
  by_cases e : u = t
  · subst e
    rw [if_pos rfl] at hu
    rw [hv]
    exact Option.some.inj hu
  · rw [if_neg e] at hu
    exact h u w hu

theorem kill_get : ∀ (ts : List Tmp) (ρ : Regs) (t : Nat) (v : AV), Tr.get (kill ρ ts) t = some v → t ∉ ts ∧ Tr.get ρ t = some v
  | [], ρ, t, v, h => ⟨List.not_mem_nil, h⟩
  | u :: ts, ρ, t, v, h => by
    obtain ⟨h1, h2⟩ := kill_get ts (ρ.del u) t v h
    rw [Tr.get_del] at h2
    by_cases e : t = u
    · rw [if_pos e] at h2; cases h2
    · rw [if_neg e] at h2
      exact ⟨fun hm => by rcases List.mem_cons.1 hm with rfl | hm <;> contradiction, h2⟩

theorem getAll_kno {ρ r : Regs} (hk : Kno ρ r) : ∀ {ts : List Tmp} {vs : List AV}, getAll ρ ts = some vs → vs = ts.map (Regs.get r)
  | [], vs, h => by cases h; rfl
  | t :: ts, vs, h => by
    unfold getAll at h
    split at h
    · rename_i v l h1 h2
      cases h
      rw [List.map_cons, hk t v h1, getAll_kno hk h2]
    · cases h

theorem setAllK_some {K : Regs → Option R0} {res : R0} {r : Regs} : ∀ {ts : List Tmp} {vs : List AV} {ρ : Regs}, setAllK ts vs ρ K = some res → vs = ts.map (Regs.get r) → Kno ρ r → ∃ ρ', Kno ρ' r ∧ K ρ' = some res
  | [], vs, ρ, h, e, hk => by
    subst e
    exact ⟨ρ, hk, h⟩
  | t :: ts, vs, ρ, h, e, hk => by
    subst e
    exact setAllK_some (ts := ts) h rfl (hk.set rfl)

section
variable {E : Env} {p : Prims} {n : Nat}

theorem atomD_ok {ρ r : Regs} (hk : Kno ρ r) {x : Operand} {v : AV} (h : atomD E ρ x = some v) : evalOperand E r x = some v := by
  cases x with
  | tmp t => exact congrArg some (hk t v h)
  | const c => exact h
  | global g => exact h
  | func f => exact h
theorem atomsD_ok {ρ r : Regs} (hk : Kno ρ r) : ∀ {xs : List Operand} {vs : List AV}, atomsD E ρ xs = some vs → evalOperands E r xs = some vs
  | [], vs, h => h
  | x :: xs, vs, h => by
    unfold atomsD at h
    split at h
    · rename_i v l h1 h2
      unfold evalOperands
      rw [atomD_ok hk h1, atomsD_ok hk h2]
      exact h
    · cases h
theorem partsD_ok {ρ r : Regs} (hk : Kno ρ r) : ∀ {xs : List (Nat × Operand)} {vs : List (Nat × AV)}, partsD E ρ xs = some vs → evalParts E r xs = some vs
  | [], vs, h => h
  | (i, x) :: xs, vs, h => by
    unfold partsD at h
    split at h
    · rename_i v l h1 h2
      unfold evalParts
      rw [atomD_ok hk h1, partsD_ok hk h2]
      exact h
    · cases h
theorem optD_ok {ρ r : Regs} (hk : Kno ρ r) {x : Option Operand} {v : Option AV} (h : optD E ρ x = some v) : optInt E r x = intV v := by
  cases x with
  | none => cases h; rfl
  | some x =>
    unfold optD at h
    cases ha : atomD E ρ x with
    | none => simp [ha] at h
    | some a =>
      simp [ha] at h
      subst h
      simp only [optInt, atomD_ok hk ha]
      cases a <;> rfl

theorem a1_some {ρ : Regs} {x : Operand} {k : AV → Option R0} {res : R0} (h : a1 E ρ x k = some res) : ∃ v, atomD E ρ x = some v ∧ k v = some res := by
  unfold a1 at h
  split at h
  · exact ⟨_, by assumption, h⟩
  · cases h
theorem a2_some {ρ : Regs} {x y : Operand} {k : AV → AV → Option R0} {res : R0} (h : a2 E ρ x y k = some res) : ∃ v w, atomD E ρ x = some v ∧ atomD E ρ y = some w ∧ k v w = some res := by
  unfold a2 at h
  split at h
  · exact ⟨_, _, by assumption, by assumption, h⟩
  · cases h
theorem bO_some {α : Type} {o : Option α} {k : α → Option R0} {res : R0} (h : bO o k = some res) : ∃ a, o = some a ∧ k a = some res := by
  unfold bO at h
  split at h
  · exact ⟨_, rfl, h⟩
  · cases h
theorem bP_some {o : Option (AV × AH)} {k : AV → AH → Option R0} {res : R0} (h : bP o k = some res) : ∃ v g, o = some (v, g) ∧ k v g = some res := by
  unfold bP at h
  split at h
  · exact ⟨_, _, rfl, h⟩
  · cases h
theorem bN_some {o : Option ((Nat → AV) × AObj)} {h : AH} {k : AV → AH → Option R0} {res : R0} (hh : bN o h k = some res) : ∃ f ob, o = some (f, ob) ∧ k (f h.next) (h.new ob) = some res := by
  unfold bN at hh
  split at hh
  · exact ⟨_, _, rfl, hh⟩
  · cases hh
theorem bX_some {o : Option R0} {k : AX → List AV → AH → Option R0} {res : R0} (h : bX o k = some res) : ∃ x vs g, o = some (x, vs, g) ∧ k x vs g = some res := by
  unfold bX at h
  split at h
  · exact ⟨_, _, _, rfl, h⟩
  · cases h

/-- what an operation comes to -/
def OpGoes (E : Env) (p : Prims) (r : Regs) (h : AH) (op : Op) (v : AV) (g : AH) : Prop :=
  opA E r h op = .value v g ∨ (opA E r h op = .skip g ∧ v = .undef) ∨ ∃ f args, opA E r h op = .call f args ∧ call E p f args h = some (v, g)

theorem opD_ok {ρ r : Regs} (hk : Kno ρ r) {h : AH} {op : Op} {K : AV → AH → Option R0} {res : R0} (hd : opD E (call E p) ρ h op K = some res) : ∃ v g, OpGoes E p r h op v g ∧ K v g = some res := by
  have look : ∀ {v : AV}, (∃ o, kindOf E op = o ∧ o = .look) → lookOp E r h op = some v → K v h = some res → ∃ v g, OpGoes E p r h op v g ∧ K v g = some res := by
    intro v ⟨o, ho, e⟩ hl hK
    subst e
    exact ⟨v, h, .inl (by unfold opA; rw [ho, hl]; rfl), hK⟩
  have make : ∀ {f : Nat → AV} {ob : AObj}, kindOf E op = .make → newOp E r op = some (f, ob) → K (f h.next) (h.new ob) = some res → ∃ v g, OpGoes E p r h op v g ∧ K v g = some res := by
    intro f ob ho hl hK
    exact ⟨_, _, .inl (by unfold opA; rw [ho, hl]), hK⟩
  cases op <;> simp only [opD] at hd <;> try (cases hd; done)
  case move x =>
    obtain ⟨v, h1, h2⟩ := a1_some hd
    exact look ⟨_, rfl, rfl⟩ (by show evalOperand E r x = _; exact atomD_ok hk h1) h2
  case assign x =>
    obtain ⟨v, h1, h2⟩ := a1_some hd
    exact look ⟨_, rfl, rfl⟩ (by show evalOperand E r x = _; exact atomD_ok hk h1) h2
  case pick c a b =>
    split at hd
    · rename_i vc va vb hc ha hb
      obtain ⟨v, h1, h2⟩ := bO_some hd
      refine look (v := v) ⟨_, rfl, rfl⟩ ?_ h2
      simp only [lookOp, atomD_ok hk hc, atomD_ok hk ha, atomD_ok hk hb]
      unfold pickV at h1
      split at h1 <;> first | exact h1 | cases h1
    · cases hd
  case alloc t =>
    obtain ⟨f, ob, h1, h2⟩ := bN_some hd
    exact make rfl h1 h2
  case box t x =>
    obtain ⟨v, h1, h2⟩ := a1_some hd
    obtain ⟨f, ob, h3, h4⟩ := bN_some h2
    refine make rfl ?_ h4
    unfold boxN at h3
    simp only [newOp, atomD_ok hk h1]
    split at h3
    · rename_i i hi; rw [hi]; exact h3
    · cases h3
  case build t ps =>
    split at hd
    · rename_i l hp
      obtain ⟨v, h1, h2⟩ := bO_some hd
      refine look (v := v) ⟨_, rfl, rfl⟩ ?_ h2
      simp only [lookOp, partsD_ok hk hp]
      unfold buildV at h1
      cases ht : E.ty t with
      | none => rw [ht] at h1; cases h1
      | some i => rw [ht] at h1; exact h1
    · cases hd
  case buildSlice t len ps =>
    split at hd
    · rename_i l hp
      obtain ⟨f, ob, h1, h2⟩ := bN_some hd
      refine make rfl ?_ h2
      simp only [newOp, partsD_ok hk hp]
      unfold buildSliceN at h1
      cases ht : E.ty t with
      | none => rw [ht] at h1; cases h1
      | some i => rw [ht] at h1; exact h1
    · cases hd
  case makeMap t rv =>
    cases rv with
    | none =>
      obtain ⟨f, ob, h1, h2⟩ := bN_some hd
      cases h1
      exact make rfl rfl h2
    | some x => cases hd
  case makeSlice t l c =>
    obtain ⟨a, b, h1, h2, h3⟩ := a2_some hd
    obtain ⟨f, ob, h4, h5⟩ := bN_some h3
    refine make rfl ?_ h5
    simp only [newOp, atomD_ok hk h1, atomD_ok hk h2]
    exact h4
  case load t a =>
    obtain ⟨v, h1, h2⟩ := a1_some hd
    obtain ⟨w, h3, h4⟩ := bO_some h2
    refine look (v := w) ⟨_, rfl, rfl⟩ ?_ h4
    simp only [lookOp, atomD_ok hk h1]
    unfold loadV at h3
    split at h3
    · exact h3
    · cases h3
  case store t a x =>
    obtain ⟨v, w, h1, h2, h3⟩ := a2_some hd
    obtain ⟨g, h4, h5⟩ := bO_some h3
    refine ⟨.undef, g, .inr (.inl ⟨?_, rfl⟩), h5⟩
    unfold opA
    rw [show kindOf E (.store t a x) = .act from rfl]
    simp only [actOp, atomD_ok hk h1, atomD_ok hk h2]
    unfold storeV at h4
    split at h4
    · simp only [h4]; rfl
    · cases h4
  case nilCheck x =>
    obtain ⟨v, h1, h2⟩ := a1_some hd
    obtain ⟨w, h3, h4⟩ := bO_some h2
    refine look (v := w) ⟨_, rfl, rfl⟩ ?_ h4
    simp only [lookOp, atomD_ok hk h1]
    unfold nilV at h3
    split at h3 <;> first | exact h3 | cases h3
  case binOp op t x y u =>
    obtain ⟨v, w, h1, h2, h3⟩ := a2_some hd
    obtain ⟨z, h4, h5⟩ := bO_some h3
    refine look (v := z) ⟨_, rfl, rfl⟩ ?_ h5
    simp only [lookOp, atomD_ok hk h1, atomD_ok hk h2]
    exact h4
  case unOp op t x =>
    obtain ⟨v, h1, h2⟩ := a1_some hd
    obtain ⟨z, h4, h5⟩ := bO_some h2
    refine look (v := z) ⟨_, rfl, rfl⟩ ?_ h5
    simp only [lookOp, atomD_ok hk h1]
    exact h4
  case convert s d x =>
    obtain ⟨v, h1, h2⟩ := a1_some hd
    cases hb : isSliceTy E d with
    | true =>
      rw [hb] at h2
      dsimp only [cond] at h2
      split at h2
      · rename_i i hi
        obtain ⟨f, ob, h3, h4⟩ := bN_some h2
        refine make (by simp only [kindOf, hb, cond]) ?_ h4
        simp only [newOp, atomD_ok hk h1, hi]
        unfold convN at h3
        split at h3
        · rename_i he; rw [he]; exact h3
        · cases h3
      · cases h2
    | false =>
      rw [hb] at h2
      dsimp only [cond] at h2
      obtain ⟨z, h4, h5⟩ := bO_some h2
      refine look (v := z) ⟨_, rfl, by simp only [kindOf, hb, cond]⟩ ?_ h5
      simp only [lookOp, atomD_ok hk h1]
      exact h4
  case makeFunc fn first cap =>
    cases fn <;> try (cases hd; done)
    rename_i f
    dsimp only at hd
    split at hd
    · rename_i a b ha hb
      refine look (v := .func f a b) ⟨_, rfl, rfl⟩ ?_ hd
      simp only [lookOp, atomsD_ok hk ha, atomsD_ok hk hb]
    · cases hd
  case slice t x lo hi mx =>
    obtain ⟨v, h1, h2⟩ := a1_some hd
    split at h2
    · rename_i l h m hl hh hm
      obtain ⟨z, h4, h5⟩ := bO_some h2
      refine look (v := z) ⟨_, rfl, rfl⟩ ?_ h5
      simp only [lookOp, atomD_ok hk h1, optD_ok hk hl, optD_ok hk hh, optD_ok hk hm]
      unfold sliceV at h4
      split at h4
      · rename_i e1 e2 e3; rw [e1, e2, e3]; exact h4
      · cases h4
    · cases h2
  case fieldAddr s x f =>
    obtain ⟨v, h1, h2⟩ := a1_some hd
    obtain ⟨z, h4, h5⟩ := bO_some h2
    refine look (v := z) ⟨_, rfl, rfl⟩ ?_ h5
    simp only [lookOp, atomD_ok hk h1]
    exact h4
  case field s x f =>
    obtain ⟨v, h1, h2⟩ := a1_some hd
    obtain ⟨z, h4, h5⟩ := bO_some h2
    refine look (v := z) ⟨_, rfl, rfl⟩ ?_ h5
    simp only [lookOp, atomD_ok hk h1]
    exact h4
  case indexAddr t x i =>
    obtain ⟨v, w, h1, h2, h3⟩ := a2_some hd
    obtain ⟨z, h4, h5⟩ := bO_some h3
    refine look (v := z) ⟨_, rfl, rfl⟩ ?_ h5
    simp only [lookOp, atomD_ok hk h1, atomD_ok hk h2]
    exact h4
  case index t x i =>
    obtain ⟨v, w, h1, h2, h3⟩ := a2_some hd
    obtain ⟨z, h4, h5⟩ := bO_some h3
    refine look (v := z) ⟨_, rfl, rfl⟩ ?_ h5
    simp only [lookOp, atomD_ok hk h1, atomD_ok hk h2]
    exact h4
  case lookup t x i b =>
    obtain ⟨v, w, h1, h2, h3⟩ := a2_some hd
    obtain ⟨z, h4, h5⟩ := bO_some h3
    refine look (v := z) ⟨_, rfl, rfl⟩ ?_ h5
    simp only [lookOp, atomD_ok hk h1, atomD_ok hk h2]
    exact h4
  case extract x i =>
    obtain ⟨v, h1, h2⟩ := a1_some hd
    obtain ⟨z, h4, h5⟩ := bO_some h2
    refine look (v := z) ⟨_, rfl, rfl⟩ ?_ h5
    simp only [lookOp, atomD_ok hk h1]
    unfold extractV at h4
    split at h4
    · exact h4
    · cases h4
  case mapUpdate t m k x =>
    split at hd
    · rename_i a b c ha hb hc
      obtain ⟨g, h4, h5⟩ := bO_some hd
      refine ⟨.undef, g, .inr (.inl ⟨?_, rfl⟩), h5⟩
      unfold opA
      rw [show kindOf E (.mapUpdate t m k x) = .act from rfl]
      simp only [actOp, atomD_ok hk ha, atomD_ok hk hb, atomD_ok hk hc, h4]
      rfl
    · cases hd
  case insert t m k x =>
    split at hd
    · rename_i a b c ha hb hc
      obtain ⟨g, h4, h5⟩ := bO_some hd
      refine ⟨.undef, g, .inr (.inl ⟨?_, rfl⟩), h5⟩
      unfold opA
      rw [show kindOf E (.insert t m k x) = .act from rfl]
      simp only [actOp, atomD_ok hk ha, atomD_ok hk hb, atomD_ok hk hc, h4]
      rfl
    · cases hd
  case call c =>
    obtain ⟨callee, args, ts⟩ := c
    unfold callD at hd
    dsimp only at hd
    split at hd
    · cases hd
    · rename_i vs hvs
      have hvs := atomsD_ok hk hvs
      cases callee with
      | value f =>
        dsimp only at hd
        obtain ⟨vf, h1, h2⟩ := a1_some hd
        obtain ⟨v, g, h3, h4⟩ := bP_some h2
        refine ⟨v, g, .inr (.inr ⟨vf, vs, ?_, h3⟩), h4⟩
        unfold opA
        rw [show kindOf E (.call ⟨.value f, args, ts⟩) = .act from rfl]
        simp only [actOp, hvs, atomD_ok hk h1]
      | invoke _ _ => cases hd
      | builtin b =>
        dsimp only at hd
        split at hd
        · split at hd
          · rename_i ht
            obtain ⟨z, h4, h5⟩ := bO_some hd
            refine look (v := z) ⟨_, rfl, rfl⟩ ?_ h5
            simp only [lookOp, hvs, ht]
            exact h4
          · cases hd
        · split at hd
          · rename_i ht
            obtain ⟨z, h4, h5⟩ := bO_some hd
            refine look (v := z) ⟨_, rfl, rfl⟩ ?_ h5
            simp only [lookOp, hvs, ht]
            exact h4
          · cases hd
        · obtain ⟨z, h4, h5⟩ := bO_some hd
          refine look (v := z) ⟨_, rfl, rfl⟩ ?_ h5
          simp only [lookOp, hvs]
          exact h4
        · obtain ⟨z, h4, h5⟩ := bO_some hd
          refine look (v := z) ⟨_, rfl, rfl⟩ ?_ h5
          simp only [lookOp, hvs]
          exact h4
        · split at hd
          · rename_i ht hu
            obtain ⟨v, g, h4, h5⟩ := bP_some hd
            refine ⟨v, g, .inl ?_, h5⟩
            unfold opA
            rw [show kindOf E (.call ⟨.builtin .append, args, ts⟩) = .act from rfl]
            simp only [actOp, hvs, ht, hu, h4]
            rfl
          · cases hd
        · split at hd
          · rename_i ht
            obtain ⟨v, g, h4, h5⟩ := bP_some hd
            refine ⟨v, g, .inl ?_, h5⟩
            unfold opA
            rw [show kindOf E (.call ⟨.builtin .copy, args, ts⟩) = .act from rfl]
            simp only [actOp, hvs, ht, h4]
            rfl
          · cases hd
        · split at hd
          · rename_i ht
            obtain ⟨g, h4, h5⟩ := bO_some hd
            refine ⟨.undef, g, .inl ?_, h5⟩
            unfold opA
            rw [show kindOf E (.call ⟨.builtin .clear, args, ts⟩) = .act from rfl]
            simp only [actOp, hvs, ht, h4]
            rfl
          · cases hd
        · split at hd
          · rename_i ht
            obtain ⟨g, h4, h5⟩ := bO_some hd
            refine ⟨.undef, g, .inl ?_, h5⟩
            unfold opA
            rw [show kindOf E (.call ⟨.builtin .delete, args, ts⟩) = .act from rfl]
            simp only [actOp, hvs, ht, h4]
            rfl
          · cases hd
        · cases hd

theorem OpGoes.step {v : AV} {g : AH} {ops : Array Oper} {o : Oper} {s : St} (ho : OpGoes E p s.r s.h o.op v g) (hg : guardOk ops s.r o = true) (hd : ∀ t, o.dst = some t → t < s.n) :
    ∃ m, ∀ k, m ≤ k → opStep E (fns E p k) ops o s = some { s with r := setD s.r o.dst v, h := g } := by
  unfold opStep
  rw [hg]
  rcases ho with h | ⟨h, rfl⟩ | ⟨f, args, h, hc⟩
  · exact ⟨0, fun k _ => by simp only [h]; exact setReg_of hd _ _⟩
  · exact ⟨0, fun k _ => by simp only [h]; exact setReg_of hd _ _⟩
  · obtain ⟨m, hm⟩ := call_some.1 hc
    refine ⟨m, fun k hk => ?_⟩
    simp only [h, (fns_le E p hk).call _ _ _ _ hm]
    exact setReg_of hd _ _
end
end Go.Ev
