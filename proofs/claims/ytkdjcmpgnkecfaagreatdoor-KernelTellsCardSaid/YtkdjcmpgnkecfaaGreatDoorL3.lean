/-
  What lifted code computes is what the evaluator computes: regions, and code.
-/
import Derived.Test.YtkdjcmpgnkecfaaGreatDoorL2
noncomputable section
namespace Go.Ev
set_option linter.unusedVariables false
set_option linter.unusedSimpArgs false

def guardV (ops : Array Oper) (r : Regs) (g : Option (Nat × Bool)) : Bool :=
  match g with
  | none => true
  | some (j, want) => match ops[j]? with
    | some g => match g.dst with
      | some d => match r.get d with
        | .bool b => b == want
        | _ => false
      | none => false
    | none => false
theorem guardOk_eq (ops : Array Oper) (r : Regs) (o : Oper) : guardOk ops r o = guardV ops r o.guard := rfl

/-- none of these slots is the test's -/
def Stable (ops : Array Oper) (gd : Option (Nat × Bool)) (ds : List Tmp) : Prop :=
  ∀ j w g d, gd = some (j, w) → ops[j]? = some g → g.dst = some d → d ∉ ds

theorem guardV_same {ops : Array Oper} {gd : Option (Nat × Bool)} {r r' : Regs} {ds : List Tmp} (hs : Stable ops gd ds) (he : ∀ t, t ∉ ds → Regs.get r' t = Regs.get r t) : guardV ops r' gd = guardV ops r gd := by
  unfold guardV
  cases gd with
  | none => rfl
  | some q =>
    obtain ⟨j, w⟩ := q
    dsimp only
    cases hj : ops[j]? with
    | none => rfl
    | some g =>
      dsimp only
      cases hd : g.dst with
      | none => rfl
      | some d => dsimp only; rw [he d (hs j w g d rfl hj hd)]

theorem setD_other {r : Regs} {o : Oper} {v : AV} {t : Tmp} (h : t ∉ dstL [o]) : Regs.get (setD r o.dst v) t = Regs.get r t := by
  rw [setD_get]
  cases hd : o.dst with
  | none => simp
  | some d =>
    simp only [dstL, hd, List.mem_singleton] at h
    rw [if_neg fun e => h (Option.some.inj e).symm]

theorem dstL_cons (o : Oper) (l : List Oper) : dstL (o :: l) = dstL [o] ++ dstL l := by
  simp only [dstL]
  cases o.dst <;> rfl

theorem dstOk_lt {n : Nat} {o : Oper} (h : dstOk n o = true) : ∀ t, o.dst = some t → t < n := by
  intro t e
  unfold dstOk at h
  rw [e] at h
  exact blt_true.1 h

theorem evOps_append {E : Env} {F : Fns} {ops : Array Oper} : ∀ (l1 l2 : List Oper) (s : St), evOps E F ops (l1 ++ l2) s = match evOps E F ops l1 s with
    | some s' => evOps E F ops l2 s'
    | none => none
  | [], l2, s => rfl
  | o :: l1, l2, s => by
    simp only [List.cons_append, evOps]
    cases opStep E F ops o s with
    | none => rfl
    | some s1 => exact evOps_append l1 l2 s1

theorem eqGuard_eq {a b : Option (Nat × Bool)} (h : eqGuard a b = true) : a = b := by
  unfold eqGuard at h
  split at h
  · rfl
  · simp only [Bool.and_eq_true] at h
    obtain ⟨h1, h2⟩ := h
    rw [beq_true.1 h1]
    split at h2 <;> first | rfl | cases h2
  · cases h

theorem grps_spec : ∀ l : List Oper, (grps l).flatMap (·.2) = l ∧ ∀ g, g ∈ grps l → ∀ o, o ∈ g.2 → o.guard = g.1
  | [] => ⟨rfl, fun g h => by cases h⟩
  | o :: rest => by
    obtain ⟨h1, h2⟩ := grps_spec rest
    unfold grps
    split
    · rename_i g l gs hg
      rw [hg] at h1 h2
      cases he : eqGuard o.guard g with
      | true =>
        dsimp only [cond]
        refine ⟨by simpa using h1, fun q hq x hx => ?_⟩
        rcases List.mem_cons.1 hq with rfl | hq
        · rcases List.mem_cons.1 hx with rfl | hx
          · exact eqGuard_eq he
          · exact h2 (g, l) List.mem_cons_self x hx
        · exact h2 q (List.mem_cons_of_mem _ hq) x hx
      | false =>
        dsimp only [cond]
        refine ⟨by simpa using h1, fun q hq x hx => ?_⟩
        rcases List.mem_cons.1 hq with rfl | hq
        · rcases List.mem_cons.1 hx with rfl | hx
          · rfl
          · cases hx
        · exact h2 q hq x hx
    · rename_i hg
      rw [hg] at h1
      refine ⟨by simpa using h1, fun q hq x hx => ?_⟩
      rcases List.mem_cons.1 hq with rfl | hq
      · rcases List.mem_cons.1 hx with rfl | hx
        · rfl
        · cases hx
      · cases hq

theorem subB_spec : ∀ {a b : List Tmp}, subB a b = true → ∀ t, t ∈ a → t ∈ b
  | [], b, h, t, ht => by cases ht
  | u :: a, b, h, t, ht => by
    simp only [subB, Bool.and_eq_true] at h
    rcases List.mem_cons.1 ht with rfl | ht
    · exact memB_iff.1 h.1
    · exact subB_spec h.2 t ht

section
variable {E : Env} {p : Prims} {n : Nat}

/-- what a piece of a region has done -/
structure Done (E : Env) (p : Prims) (ops : Array Oper) (l : List Oper) (s s' : St) : Prop where
  runs : ∃ m, ∀ k, m ≤ k → evOps E (fns E p k) ops l s = some s'
  n : s'.n = s.n
  ds : s'.ds = s.ds
  other : ∀ t, t ∉ dstL l → Regs.get s'.r t = Regs.get s.r t

theorem Done.nil (ops : Array Oper) (s : St) : Done E p ops [] s s := ⟨⟨0, fun _ _ => rfl⟩, rfl, rfl, fun _ _ => rfl⟩
theorem Done.append {ops : Array Oper} {l1 l2 : List Oper} {s s1 s2 : St} (a : Done E p ops l1 s s1) (b : Done E p ops l2 s1 s2) (hd : dstL (l1 ++ l2) = dstL l1 ++ dstL l2) : Done E p ops (l1 ++ l2) s s2 where
  runs := by
    obtain ⟨m1, h1⟩ := a.runs
    obtain ⟨m2, h2⟩ := b.runs
    refine ⟨max m1 m2, fun k hk => ?_⟩
    rw [evOps_append, h1 k (by omega)]
    exact h2 k (by omega)
  n := b.n.trans a.n
  ds := b.ds.trans a.ds
  other := fun t ht => by
    rw [hd] at ht
    rw [b.other t fun h => ht (List.mem_append_right _ h), a.other t fun h => ht (List.mem_append_left _ h)]
theorem dstL_append : ∀ (l1 l2 : List Oper), dstL (l1 ++ l2) = dstL l1 ++ dstL l2
  | [], l2 => rfl
  | o :: l1, l2 => by
    rw [List.cons_append, dstL_cons, dstL_append l1 l2, dstL_cons o l1, List.append_assoc]

theorem opsD_ok {ops : Array Oper} {gd : Option (Nat × Bool)} {K : Regs → AH → Option R0} {res : R0} : ∀ {l : List Oper} {ρ : Regs} {s : St}, opsD E (call E p) n l K ρ s.h = some res →
    (∀ o, o ∈ l → o.guard = gd) → Stable ops gd (dstL l) → guardV ops s.r gd = true → Kno ρ s.r → s.n = n →
    ∃ s' ρ', Done E p ops l s s' ∧ Kno ρ' s'.r ∧ K ρ' s'.h = some res
  | [], ρ, s, h, _, _, _, hk, _ => ⟨s, ρ, Done.nil ops s, hk, h⟩
  | o :: l, ρ, s, h, hg, hst, hv, hk, hn => by
    unfold opsD at h
    cases hdo : dstOk n o with
    | false => rw [hdo] at h; cases h
    | true =>
      rw [hdo] at h
      dsimp only [cond] at h
      obtain ⟨v, g, ho, hK⟩ := opD_ok hk h
      have hd := dstOk_lt hdo
      have hgo : o.guard = gd := hg o List.mem_cons_self
      obtain ⟨m, hm⟩ := ho.step (ops := ops) (o := o) (s := s) (by rw [guardOk_eq, hgo]; exact hv) (fun t e => by rw [hn]; exact hd t e)
      have d1 : Done E p ops [o] s { s with r := setD s.r o.dst v, h := g } := ⟨⟨m, fun k hk => by simp only [evOps, hm k hk]⟩, rfl, rfl, fun t ht => setD_other ht⟩
      have hst1 : Stable ops gd (dstL [o]) := fun j w q d e1 e2 e3 hm => hst j w q d e1 e2 e3 (by rw [dstL_cons]; exact List.mem_append_left _ hm)
      obtain ⟨s', ρ', d2, hk2, hK2⟩ := opsD_ok (l := l) (s := { s with r := setD s.r o.dst v, h := g }) hK (fun x hx => hg x (List.mem_cons_of_mem _ hx))
        (fun j w q d e1 e2 e3 hm => hst j w q d e1 e2 e3 (by rw [dstL_cons]; exact List.mem_append_right _ hm)) (by rw [guardV_same hst1 (fun t ht => setD_other ht)]; exact hv) (hk.setD o.dst v) hn
      exact ⟨s', ρ', d1.append d2 (dstL_append _ _), hk2, hK2⟩

theorem opsSkip {ops : Array Oper} {gd : Option (Nat × Bool)} : ∀ {l : List Oper} {s : St}, dstsOk n l = true → (∀ o, o ∈ l → o.guard = gd) → Stable ops gd (dstL l) → guardV ops s.r gd = false → s.n = n →
    ∃ s', Done E p ops l s s' ∧ s'.h = s.h ∧ ∀ t, t ∈ dstL l → Regs.get s'.r t = .undef
  | [], s, _, _, _, _, _ => ⟨s, Done.nil ops s, rfl, fun t h => by cases h⟩
  | o :: l, s, hok, hg, hst, hv, hn => by
    simp only [dstsOk, Bool.and_eq_true] at hok
    have hd := dstOk_lt hok.1
    have hgo : o.guard = gd := hg o List.mem_cons_self
    have hgo' : guardOk ops s.r o = false := by rw [guardOk_eq, hgo]; exact hv
    have d1 : Done E p ops [o] s { s with r := setD s.r o.dst .undef } := ⟨⟨0, fun k hk => by
      simp only [evOps, opStep, hgo']
      rw [setReg_of (fun t e => by rw [hn]; exact hd t e)]⟩, rfl, rfl, fun t ht => setD_other ht⟩
    have hst1 : Stable ops gd (dstL [o]) := fun j w q d e1 e2 e3 hm => hst j w q d e1 e2 e3 (by rw [dstL_cons]; exact List.mem_append_left _ hm)
    obtain ⟨s', d2, e2, h2⟩ := opsSkip (l := l) (s := { s with r := setD s.r o.dst .undef }) hok.2 (fun x hx => hg x (List.mem_cons_of_mem _ hx))
        (fun j w q d e1 e2 e3 hm => hst j w q d e1 e2 e3 (by rw [dstL_cons]; exact List.mem_append_right _ hm)) (by rw [guardV_same hst1 (fun t ht => setD_other ht)]; exact hv) hn
    refine ⟨s', d1.append d2 (dstL_append _ _), e2, fun t ht => ?_⟩
    by_cases hl : t ∈ dstL l
    · exact h2 t hl
    · rw [d2.other t hl]
      rw [dstL_cons] at ht
      rcases List.mem_append.1 ht with ht | ht
      · rw [setD_get]
        cases hdd : o.dst with
        | none => simp [dstL, hdd] at ht
        | some d => simp [dstL, hdd] at ht; subst ht; simp
      · contradiction

theorem undefs_map : ∀ {ts : List Tmp} {r : Regs}, (∀ t, t ∈ ts → Regs.get r t = .undef) → undefs ts = ts.map (Regs.get r)
  | [], r, h => rfl
  | t :: ts, r, h => by
    rw [List.map_cons, h t List.mem_cons_self, ← undefs_map fun u hu => h u (List.mem_cons_of_mem _ hu)]
    rfl

theorem kno_kill {ρ r r' : Regs} {ts : List Tmp} (hk : Kno ρ r) (he : ∀ t, t ∉ ts → Regs.get r' t = Regs.get r t) : Kno (kill ρ ts) r' := fun t v h => by
  obtain ⟨h1, h2⟩ := kill_get ts ρ t v h
  rw [he t h1]
  exact hk t v h2

theorem outK_some {outs : List Tmp} {x : AX} {ρ : Regs} {h : AH} {res : R0} (ho : outK outs x ρ h = some res) : ∃ vs, getAll ρ outs = some vs ∧ res = (x, vs, h) := by
  unfold outK at ho
  split at ho
  · rename_i vs hv
    exact ⟨vs, hv, (Option.some.inj ho).symm⟩
  · cases ho

theorem regD_ok {ops : Array Oper} {K : Regs → AH → Option R0} {res : R0} : ∀ {gs : List Grp} {os : List (List Tmp)} {ρ : Regs} {s : St}, regD E (call E p) n ops gs os K ρ s.h = some res →
    (∀ g, g ∈ gs → ∀ o, o ∈ g.2 → o.guard = g.1) → Kno ρ s.r → s.n = n →
    ∃ s' ρ', Done E p ops (gs.flatMap (·.2)) s s' ∧ Kno ρ' s'.r ∧ K ρ' s'.h = some res
  | [], os, ρ, s, h, _, hk, _ => by
    unfold regD at h
    exact ⟨s, ρ, Done.nil ops s, hk, h⟩
  | (none, l) :: gs, os, ρ, s, h, hg, hk, hn => by
    unfold regD at h
    obtain ⟨s1, ρ1, d1, hk1, hK1⟩ := opsD_ok (gd := none) h (hg (none, l) List.mem_cons_self) (fun j w q d e => by cases e) rfl hk hn
    obtain ⟨s', ρ', d2, hk2, hK2⟩ := regD_ok (gs := gs) hK1 (fun g hgm => hg g (List.mem_cons_of_mem _ hgm)) hk1 (d1.n.trans hn)
    exact ⟨s', ρ', d1.append d2 (dstL_append _ _), hk2, hK2⟩
  | (some (j, w), l) :: gs, os, ρ, s, h, hg, hk, hn => by
    unfold regD at h
    split at h
    · rename_i outs os g hj
      split at h
      · rename_i d hd
        replace h := bif_some h
        obtain ⟨hb, h⟩ := h
        simp only [Bool.and_eq_true, Bool.not_eq_true'] at hb
        obtain ⟨⟨hsub, hnd⟩, hdk⟩ := hb
        have hsub := subB_spec hsub
        have hnd : d ∉ dstL l := fun hm => by rw [memB_iff.2 hm] at hnd; cases hnd
        split at h
        · rename_i v hv
          have hrv : Regs.get s.r d = v := hk d v hv
          obtain ⟨x, vs, g1, h1, h2⟩ := bX_some h
          have hst : Stable ops (some (j, w)) (dstL l) := fun j' w' q d' e1 e2 e3 hm => by
            cases e1
            rw [hj] at e2
            cases e2
            rw [hd] at e3
            cases e3
            exact hnd hm
          have gv : ∀ b, v = .bool b → guardV ops s.r (some (j, w)) = (b == w) := fun b e => by
            subst e
            simp only [guardV, hj, hd, hrv]
          have key : ∃ s1, Done E p ops l s s1 ∧ s1.h = g1 ∧ vs = outs.map (Regs.get s1.r) := by
            have yes : (guardV ops s.r (some (j, w)) = true) → opsD E (call E p) n l (outK outs .normal) ρ s.h = some (x, vs, g1) → ∃ s1, Done E p ops l s s1 ∧ s1.h = g1 ∧ vs = outs.map (Regs.get s1.r) := by
              intro hv hr
              obtain ⟨s1, ρ1, d1, hk1, hK1⟩ := opsD_ok (gd := some (j, w)) hr (hg (some (j, w), l) List.mem_cons_self) hst hv hk hn
              obtain ⟨vs', e1, e2⟩ := outK_some hK1
              cases e2
              exact ⟨s1, d1, rfl, getAll_kno hk1 e1⟩
            have no : (guardV ops s.r (some (j, w)) = false) → (some ((.normal, undefs outs, s.h) : R0)) = some (x, vs, g1) → ∃ s1, Done E p ops l s s1 ∧ s1.h = g1 ∧ vs = outs.map (Regs.get s1.r) := by
              intro hv hr
              cases hr
              obtain ⟨s1, d1, e1, e2⟩ := opsSkip (E := E) (p := p) (gd := some (j, w)) hdk (hg (some (j, w), l) List.mem_cons_self) hst hv hn
              exact ⟨s1, d1, e1, undefs_map fun t ht => e2 t (hsub t ht)⟩
            cases w with
            | true =>
              dsimp only at h1
              unfold onT at h1
              split at h1
              · exact yes (gv true rfl) h1
              · exact no (gv false rfl) h1
              · cases h1
            | false =>
              dsimp only at h1
              unfold onT at h1
              split at h1
              · exact no (gv true rfl) h1
              · exact yes (gv false rfl) h1
              · cases h1
          obtain ⟨s1, d1, e1, e2⟩ := key
          subst e1
          obtain ⟨ρ1, hk1, hK1⟩ := setAllK_some h2 e2 (kno_kill hk d1.other)
          obtain ⟨s', ρ', d2, hk2, hK2⟩ := regD_ok (gs := gs) hK1 (fun g hgm => hg g (List.mem_cons_of_mem _ hgm)) hk1 (d1.n.trans hn)
          exact ⟨s', ρ', d1.append d2 (dstL_append _ _), hk2, hK2⟩
        · cases h
      · cases h
    · cases h

end
end Go.Ev
