/-
  What lifted code computes is what the evaluator computes: code, functions.
-/
import Derived.Test.YtkdjcmpgnkecfaaGreatDoorL4
noncomputable section
namespace Go.Ev
set_option linter.unusedVariables false
set_option linter.unusedSimpArgs false

section
variable {E : Env} {p : Prims} {n : Nat}
/-! ### code -/
structure Went (E : Env) (p : Prims) (ro : Option Nat) (c : Code) (s : St) (x : AX) (s' : St) : Prop where
  goes : Goes E p ro c s x s'
  n : s'.n = s.n
  ds : s'.ds = s.ds
  other : ∀ t, t ∉ asg c → Regs.get s'.r t = Regs.get s.r t

theorem exI_some {k : Nat → Option R0} {res : R0} : ∀ {ids : List Nat} {i : Nat}, exI ids i k = some res → k i = some res
  | [], i, h => by cases h
  | j :: js, i, h => by
    unfold exI at h
    cases hb : Nat.beq i j with
    | true => rw [hb] at h; rw [beq_true.1 hb]; exact h
    | false => rw [hb] at h; exact exI_some h

theorem goes_of {ro : Option Nat} {c : Code} {s s' : St} {x : AX} (h : ∃ k, codeStep E (fns E p k) ro c s = some (x, s')) : Goes E p ro c s x s' := by
  obtain ⟨k, hk⟩ := h
  exact ⟨k + 1, hk⟩

theorem went_seq {ro : Option Nat} {a b : Code} {s s1 s2 : St} {x : AX} (h1 : Went E p ro a s .normal s1) (h2 : Went E p ro b s1 x s2) : Went E p ro (.seq a b) s x s2 where
  goes := by
    obtain ⟨m1, g1⟩ := h1.goes
    obtain ⟨m2, g2⟩ := h2.goes
    refine goes_of ⟨max m1 m2, ?_⟩
    unfold codeStep
    dsimp only
    rw [(fns_le E p (Nat.le_max_left m1 m2)).code _ _ _ _ g1]
    exact (fns_le E p (Nat.le_max_right m1 m2)).code _ _ _ _ g2
  n := h2.n.trans h1.n
  ds := h2.ds.trans h1.ds
  other := fun t ht => by
    simp only [asg, List.mem_append, not_or] at ht
    rw [h2.other t ht.2, h1.other t ht.1]

theorem went_seq' {ro : Option Nat} {a b : Code} {s s1 : St} {x : AX} (h1 : Went E p ro a s x s1) (hx : x ≠ .normal) : Went E p ro (.seq a b) s x s1 where
  goes := by
    obtain ⟨m1, g1⟩ := h1.goes
    refine goes_of ⟨m1, ?_⟩
    unfold codeStep
    dsimp only
    rw [g1]
    cases x <;> first | rfl | contradiction
  n := h1.n
  ds := h1.ds
  other := fun t ht => by
    simp only [asg, List.mem_append, not_or] at ht
    exact h1.other t ht.1

theorem loop_ok {ro : Option Nat} {c : Code} {outs : List Tmp} {f : List AV → AH → Option R0} {r0 : Regs} {nn : Nat} {ds : List Nat}
    (hf : ∀ vs h x vs' h' s, f vs h = some (x, vs', h') → s.n = nn → s.ds = ds → s.h = h → vs = outs.map (Regs.get s.r) → (∀ t, t ∉ asg c → Regs.get s.r t = Regs.get r0 t) → ∃ s', Went E p ro c s x s' ∧ s'.h = h' ∧ vs' = outs.map (Regs.get s'.r)) :
    ∀ (i : Nat) vs h x vs' h' s, loopD i f vs h = some (x, vs', h') → s.n = nn → s.ds = ds → s.h = h → vs = outs.map (Regs.get s.r) → (∀ t, t ∉ asg c → Regs.get s.r t = Regs.get r0 t) →
      ∃ s' m, (∀ k, m ≤ k → loopN i ((fns E p k).code ro c) s = some (x, s')) ∧ s'.n = nn ∧ s'.ds = ds ∧ s'.h = h' ∧ vs' = outs.map (Regs.get s'.r) ∧ (∀ t, t ∉ asg c → Regs.get s'.r t = Regs.get r0 t)
  | 0, vs, h, x, vs', h', s, hl, h1, h2, h3, h4, h5 => by
    obtain ⟨s', w, e1, e2⟩ := hf vs h x vs' h' s hl h1 h2 h3 h4 h5
    obtain ⟨m, g⟩ := w.goes
    exact ⟨s', m, fun k hk => (fns_le E p hk).code _ _ _ _ g, w.n.trans h1, w.ds.trans h2, e1, e2, fun t ht => (w.other t ht).trans (h5 t ht)⟩
  | i + 1, vs, h, x, vs', h', s, hl, h1, h2, h3, h4, h5 => by
    unfold loopD at hl
    cases hq : loopD i f vs h with
    | none => rw [hq] at hl; cases hl
    | some q =>
      obtain ⟨y, ws, g⟩ := q
      obtain ⟨s1, m1, a1, a2, a3, a4, a5, a6⟩ := loop_ok hf i vs h y ws g s hq h1 h2 h3 h4 h5
      rw [hq] at hl
      by_cases hy : y = .normal
      · subst hy
        dsimp only at hl
        obtain ⟨s', m2, b1, b2, b3, b4, b5, b6⟩ := loop_ok hf i ws g x vs' h' s1 hl a2 a3 a4 a5 a6
        refine ⟨s', max m1 m2, fun k hk => ?_, b2, b3, b4, b5, b6⟩
        unfold loopN
        rw [a1 k (by omega)]
        exact b1 k (by omega)
      · have hl' : (some ((y, ws, g) : R0)) = some (x, vs', h') := by cases y <;> first | exact hl | contradiction
        cases hl'
        refine ⟨s1, m1, fun k hk => ?_, a2, a3, a4, a5, a6⟩
        unfold loopN
        rw [a1 k hk]
        cases x <;> first | rfl | contradiction

theorem den_ok (ro : Option Nat) : ∀ (a : An) (c : Code) (K : KT) (ρ : Regs) (s : St) (res : R0), den E (call E p) n a c K ρ s.h = some res → Kno ρ s.r → s.n = n →
    ∃ x s' ρ', Went E p ro c s x s' ∧ Kno ρ' s'.r ∧ K x ρ' s'.h = some res := by
  intro a
  induction a with
  | leaf =>
    intro c K ρ s res h hk hn
    unfold den at h
    cases c <;> try (cases h; done)
    · exact ⟨.normal, s, ρ, ⟨goes_of ⟨0, rfl⟩, rfl, rfl, fun _ _ => rfl⟩, hk, h⟩
    · exact ⟨.exit _, s, ρ, ⟨goes_of ⟨0, rfl⟩, rfl, rfl, fun _ _ => rfl⟩, hk, h⟩
    · exact ⟨.normal, s, ρ, ⟨goes_of ⟨0, rfl⟩, rfl, rfl, fun _ _ => rfl⟩, hk, h⟩
    · exact ⟨.ret, s, ρ, ⟨goes_of ⟨0, rfl⟩, rfl, rfl, fun _ _ => rfl⟩, hk, h⟩
  | reg os =>
    intro c K ρ s res h hk hn
    unfold den at h
    cases c <;> try (cases h; done)
    rename_i i ops dr
    cases dr with
    | true => cases h
    | false =>
      dsimp only at h
      obtain ⟨e1, e2⟩ := grps_spec ops.toList
      obtain ⟨s', ρ', d, hk', hK⟩ := regD_ok (ops := ops) h e2 hk hn
      rw [e1] at d
      obtain ⟨m, hm⟩ := d.runs
      exact ⟨.normal, s', ρ', ⟨goes_of ⟨m, by unfold codeStep; dsimp only; rw [hm m (Nat.le_refl m)]⟩, d.n, d.ds, d.other⟩, hk', hK⟩
  | seq a b iha ihb =>
    intro c K ρ s res h hk hn
    unfold den at h
    cases c <;> try (cases h; done)
    rename_i c d
    dsimp only at h
    obtain ⟨x, s1, ρ1, w1, hk1, hK1⟩ := iha _ _ _ _ _ h hk hn
    unfold seqX at hK1
    cases x with
    | normal =>
      obtain ⟨y, s2, ρ2, w2, hk2, hK2⟩ := ihb _ _ _ _ _ hK1 hk1 (w1.n.trans hn)
      exact ⟨y, s2, ρ2, went_seq w1 w2, hk2, hK2⟩
    | exit i => exact ⟨_, s1, ρ1, went_seq' w1 (fun e => by cases e), hk1, hK1⟩
    | ret => exact ⟨_, s1, ρ1, went_seq' w1 (fun e => by cases e), hk1, hK1⟩
    | goto l => cases hK1
  | cond a b iha ihb =>
    intro c K ρ s res h hk hn
    unfold den at h
    cases c <;> try (cases h; done)
    rename_i t c d
    dsimp only at h
    obtain ⟨v, hv, h⟩ := a1_some h
    have hv := atomD_ok hk hv
    unfold onT at h
    split at h
    · obtain ⟨x, s1, ρ1, w1, hk1, hK1⟩ := iha _ _ _ _ _ h hk hn
      obtain ⟨m, g⟩ := w1.goes
      exact ⟨x, s1, ρ1, ⟨goes_of ⟨m, by unfold codeStep; dsimp only; rw [hv]; exact g⟩, w1.n, w1.ds, fun t ht => w1.other t fun hm => ht (by simp only [asg]; exact List.mem_append_left _ hm)⟩, hk1, hK1⟩
    · obtain ⟨x, s1, ρ1, w1, hk1, hK1⟩ := ihb _ _ _ _ _ h hk hn
      obtain ⟨m, g⟩ := w1.goes
      exact ⟨x, s1, ρ1, ⟨goes_of ⟨m, by unfold codeStep; dsimp only; rw [hv]; exact g⟩, w1.n, w1.ds, fun t ht => w1.other t fun hm => ht (by simp only [asg]; exact List.mem_append_right _ hm)⟩, hk1, hK1⟩
    · cases h
  | blk a iha =>
    intro c K ρ s res h hk hn
    unfold den at h
    cases c <;> try (cases h; done)
    rename_i id c
    dsimp only at h
    obtain ⟨x, s1, ρ1, w1, hk1, hK1⟩ := iha _ _ _ _ _ h hk hn
    obtain ⟨m, g⟩ := w1.goes
    have fin : ∀ y, codeStep E (fns E p m) ro (.block id c) s = some (y, s1) → K y ρ1 s1.h = some res → ∃ x s' ρ', Went E p ro (.block id c) s x s' ∧ Kno ρ' s'.r ∧ K x ρ' s'.h = some res :=
      fun y hy hK => ⟨y, s1, ρ1, ⟨goes_of ⟨m, hy⟩, w1.n, w1.ds, w1.other⟩, hk1, hK⟩
    unfold blkX at hK1
    cases x with
    | normal => exact fin .normal (by unfold codeStep; dsimp only; rw [g]) hK1
    | ret => exact fin .ret (by unfold codeStep; dsimp only; rw [g]) hK1
    | goto l => cases hK1
    | exit i =>
      dsimp only at hK1
      cases hb : Nat.beq i id with
      | true => rw [hb] at hK1; exact fin .normal (by unfold codeStep; dsimp only; rw [g]; dsimp only; rw [hb]; rfl) hK1
      | false => rw [hb] at hK1; exact fin (.exit i) (by unfold codeStep; dsimp only; rw [g]; dsimp only; rw [hb]; rfl) hK1
  | scp a iha =>
    intro c K ρ s res h hk hn
    unfold den at h
    cases c <;> try (cases h; done)
    rename_i c
    dsimp only at h
    obtain ⟨x, s1, ρ1, w1, hk1, hK1⟩ := iha _ _ _ _ _ h hk hn
    obtain ⟨m, g⟩ := w1.goes
    have hx : ∀ l, x ≠ .goto l := fun l e => by subst e; cases hK1
    refine ⟨x, s1, ρ1, ⟨goes_of ⟨m, ?_⟩, w1.n, w1.ds, w1.other⟩, hk1, ?_⟩
    · unfold codeStep
      dsimp only
      unfold scopeN
      rw [g]
      cases x <;> first | rfl | exact absurd rfl (hx _)
    · unfold scpX at hK1
      cases x <;> first | exact hK1 | exact absurd rfl (hx _)
  | cut outs ids a iha =>
    intro c K ρ s res h hk hn
    unfold den at h
    obtain ⟨x, vs, g, h1, h2⟩ := bX_some h
    obtain ⟨y, s1, ρ1, w1, hk1, hK1⟩ := iha _ _ _ _ _ h1 hk hn
    obtain ⟨vs', e1, e2⟩ := outK_some hK1
    cases e2
    obtain ⟨ρ2, hk2, hK2⟩ := setAllK_some h2 (getAll_kno hk1 e1) (kno_kill hk w1.other)
    unfold endX at hK2
    cases x with
    | normal => exact ⟨_, s1, ρ2, w1, hk2, hK2⟩
    | ret => exact ⟨_, s1, ρ2, w1, hk2, hK2⟩
    | exit i => exact ⟨_, s1, ρ2, w1, hk2, exI_some hK2⟩
    | goto l => cases hK2
  | loop outs ids a iha =>
    intro c K ρ s res h hk hn
    unfold den at h
    cases c <;> try (cases h; done)
    rename_i id c
    cases c <;> try (cases h; done)
    rename_i c
    dsimp only at h
    split at h
    · cases h
    · rename_i vs0 hv0
      obtain ⟨x, vs, g, h1, h2⟩ := bX_some h
      obtain ⟨s', m, a1, a2, a3, a4, a5, a6⟩ := loop_ok (E := E) (p := p) (ro := ro) (c := c) (outs := outs) (r0 := s.r) (nn := n) (ds := s.ds)
        (fun vs h x vs' h' q hf b1 b2 b3 b4 b5 => by
          subst b3
          obtain ⟨ρq, hkq, hKq⟩ := setAllK_some hf b4 (kno_kill hk b5)
          obtain ⟨y, s1, ρ1, w1, hk1, hK1⟩ := iha _ _ _ _ _ hKq hkq b1
          obtain ⟨vs2, e1, e2⟩ := outK_some hK1
          cases e2
          exact ⟨s1, w1, rfl, getAll_kno hk1 e1⟩) 14 vs0 s.h x vs g s h1 hn rfl rfl (getAll_kno hk hv0) (fun _ _ => rfl)
      subst a4
      obtain ⟨ρ2, hk2, hK2⟩ := setAllK_some h2 a5 (kno_kill hk a6)
      have hloop : x ≠ .normal → codeStep E (fns E p m) ro (.loop c) s = some (x, s') := fun hx => by
        unfold codeStep
        dsimp only
        rw [a1 m (Nat.le_refl m)]
        cases x <;> first | rfl | contradiction
      have fin : ∀ y, x ≠ .normal → (match some (x, s') with
          | some (.exit id', s') => bif Nat.beq id' id then some (.normal, s') else some (.exit id', s')
          | r => r) = some (y, s') → K y ρ2 s'.h = some res → ∃ x s' ρ', Went E p ro (.block id (.loop c)) s x s' ∧ Kno ρ' s'.r ∧ K x ρ' s'.h = some res := fun y hx hy hK =>
        ⟨y, s', ρ2, ⟨goes_of ⟨m + 1, by
          unfold codeStep
          dsimp only
          rw [show (fns E p (m + 1)).code ro (.loop c) s = some (x, s') from hloop hx]
          exact hy⟩, a2.trans hn.symm, a3, a6⟩, hk2, hK⟩
      unfold endB at hK2
      cases x with
      | normal => cases hK2
      | goto l => cases hK2
      | ret => exact fin .ret (fun e => by cases e) rfl hK2
      | exit i =>
        dsimp only at hK2
        cases hb : Nat.beq i id with
        | true => rw [hb] at hK2; exact fin .normal (fun e => by cases e) (by dsimp only; rw [hb]; rfl) hK2
        | false => rw [hb] at hK2; exact fin (.exit i) (fun e => by cases e) (by dsimp only; rw [hb]; rfl) (exI_some hK2)
  | drawn =>
    intro c K ρ s res h hk hn
    unfold den at h
    cases c <;> try (cases h; done)
    rename_i i ops dr
    cases dr with
    | false => cases h
    | true =>
      dsimp only at h
      obtain ⟨s', ρ', m, hm, h1, h2, h3, hk', hK⟩ := drawD_ok h hk hn
      exact ⟨.normal, s', ρ', ⟨goes_of ⟨m, by unfold codeStep; dsimp only; rw [hm m (Nat.le_refl m)]⟩, h1, h2, h3⟩, hk', hK⟩

/-! ### functions -/
theorem resD_ok {r ρ : Regs} (hk : Kno ρ r) {h : AH} : ∀ {rs : List ResultVar} {k : List AV → Option R0} {res : R0}, resD E ρ h rs k = some res → ∃ vs, resultsA E r h rs = some vs ∧ k vs = some res
  | [], k, res, hr => ⟨[], rfl, hr⟩
  | .tmp t :: rest, k, res, hr => by
    unfold resD at hr
    split at hr
    · rename_i v hv
      obtain ⟨vs, h1, h2⟩ := resD_ok hk hr
      exact ⟨v :: vs, by unfold resultsA; rw [h1, hk t v hv], h2⟩
    · cases hr
  | .cell a t :: rest, k, res, hr => by
    unfold resD at hr
    split at hr
    · rename_i q hq
      obtain ⟨v, h0, hr⟩ := bO_some hr
      obtain ⟨vs, h1, h2⟩ := resD_ok hk hr
      refine ⟨v :: vs, ?_, h2⟩
      unfold resultsA
      rw [h1, hk a q hq]
      unfold loadV at h0
      split at h0
      · simp only [h0]
      · cases h0
    · cases hr

theorem fnD_ok {f : FuncId} {fn : Func} (hf : E.fn f = some fn) (hp : p f = none) {a : An} {args : List AV} {h g : AH} {x : AX} {vs : List AV} (hd : fnD E (call E p) fn a args h = some (x, vs, g))
    {first mid cap : List AV} (he : first ++ mid ++ cap = args) : call E p (.func f first cap) mid h = some (resV vs, g) := by
  unfold fnD at hd
  split at hd
  · rename_i c hc
    obtain ⟨y, s', ρ', w, hk, hK⟩ := den_ok none a c _ _ { r := regsOf args 0 .nil, n := max fn.ntmps args.length, ds := [], h } _ hd (Kno.refl _) rfl
    obtain ⟨m, hg⟩ := w.goes
    have hfin : (y = .normal ∨ y = .ret) ∧ resD E ρ' s'.h fn.results.toList (fun vs => some (.ret, vs, s'.h)) = some (x, vs, g) := by
      unfold finK at hK
      cases y <;> first | exact ⟨.inl rfl, hK⟩ | exact ⟨.inr rfl, hK⟩ | cases hK
    obtain ⟨hy, hK⟩ := hfin
    obtain ⟨vs', h1, h2⟩ := resD_ok hk hK
    simp only [Option.some.injEq, Prod.mk.injEq] at h2
    obtain ⟨_, rfl, rfl⟩ := h2
    refine call_some.2 ⟨m + 1, ?_⟩
    have hstep : callStep E (fns E p m) (.func f first cap) mid h = some (resV vs', s'.h) := by
      unfold callStep
      dsimp only
      rw [hf]
      dsimp only
      rw [hc]
      dsimp only
      rw [he, hg]
      dsimp only
      have hx : (match y with | .normal | .ret => true | _ => false) = true := by rcases hy with rfl | rfl <;> rfl
      have hds : s'.ds = [] := w.ds
      cases y <;> first | (rcases hy with h | h <;> cases h; done) | skip
      all_goals
        dsimp only
        rw [hds]
        dsimp only [drops]
        rw [h1]
        rcases vs' with _ | ⟨v1, _ | ⟨v2, l⟩⟩ <;> rfl
    show callPrim E p (fns E p m) (.func f first cap) mid h = _
    unfold callPrim
    split
    · rename_i q e
      injection e with e1 e2 e3
      subst e1
      rw [hp]
      subst e2 e3
      exact hstep
    · exact hstep
  · cases hd
end
end Go.Ev
