/-
  Calls in the machine; the evaluator is sound.
-/
import Derived.Test.YtkdjcmpgnkecfaaGreatDoorE21
noncomputable section
namespace Go.Ev
set_option linter.unusedVariables false
set_option linter.unusedSimpArgs false

section
variable {P : Program} {E : Env} {σ : Nat → Int} {μ : Map} {h h' : AH} {w : World}

/-! ### leaving a function -/
theorem step_take {fr : Frame} {cs : List Frame} {blk : Nat} {ds : List Deferred} (hm : fr.mode = .returning) (hd : fr.defers = { target := .collected blk, args := #[] } :: ds)
    (hx : w.heap[blk]? = some (.deferred (some []))) :
    step P (lone fr cs w) = .next (lone { fr with defers := ds } cs { w with heap := w.heap.setIfInBounds blk (.deferred none) }) := by
  have e : (Instr.takeDeferred blk).run P w = .ok [] { w with heap := w.heap.setIfInBounds blk (.deferred none) } := by
    have h2 : (setObj blk (.deferred none)).run P w = .ok () { w with heap := w.heap.setIfInBounds blk (.deferred none) } := by simp [setObj, Sem.run, hx]
    simp only [Instr.takeDeferred, Sem.run_bind, getObj_at hx rfl, Result.andThen_ok, Sem.run_pure, h2]
  exact step_lone_go (by simp [stepG, unwind, hm, hd, Sem.runT_eq, e, GStep.bare_after])

theorem drops_steps : ∀ (ds : List Nat) (h h' : AH), drops ds h = some h' → ∀ (μ : Map) (w : World) (fr : Frame) (cs : List Frame), HRel σ μ h w.heap → DsRel μ ds fr.defers → fr.mode = .returning →
    ∃ w', Moves σ μ h w.heap μ h' w'.heap ∧ Same3 w w' ∧ Steps P (lone fr cs w) (lone { fr with defers := [] } cs w')
  | [], h, h', he, μ, w, fr, cs, rel, hd, hm => by
    simp only [drops] at he
    cases he
    have e : fr.defers = [] := hd
    refine ⟨w, Moves.refl rel, Same3.refl _, ?_⟩
    rw [← e]
    exact .refl _ _
  | d :: ds, h, h', he, μ, w, fr, cs, rel, ⟨loc, ds', e, hl, hd⟩, hm => by
    simp only [drops] at he
    split at he
    · rename_i hg
      have hx : w.heap[loc.b]? = some (.deferred (some [])) := by
        have := rel.obj d loc _ hl (AH.get_live (by rw [hg]; simp))
        rw [hg] at this
        exact this
      obtain ⟨p1, p2⟩ := put_obj (P := P) rel hl hg rfl (o' := .dead) (x := .deferred none) trivial hx rfl
      obtain ⟨w', m1, m2, m3⟩ := drops_steps ds (h.put d .dead) h' he μ { w with heap := w.heap.setIfInBounds loc.b (.deferred none) } { fr with defers := ds' } cs p2.rel hd hm
      refine ⟨w', p2.trans m1, ?_, .head (step_take hm e hx) m3⟩
      have : Same3 w { w with heap := w.heap.setIfInBounds loc.b (.deferred none) } := ⟨rfl, rfl, rfl⟩
      exact this.trans m2
    · cases he

theorem results_list (ok : EnvOk P E σ) (rel : HRel σ μ h w.heap) {r : Regs} {tmps : Array Value} (hr : ∀ i, VRel σ μ (r.get i) (tmps.getD i undef)) : ∀ (rs : List ResultVar) (vs : List AV), resultsA E r h rs = some vs →
    ∃ us, (rs.mapM fun | .tmp t => pure (tmps.getD t undef) | .cell a t => do loadVar t (← asAddr (tmps.getD a undef)) : Sem (List Value)).run P w = .ok us w ∧ VsRel σ μ vs us
  | [], vs, he => by
    simp only [resultsA] at he
    cases he
    exact ⟨[], by simp, rfl⟩
  | .tmp t :: rs, vs, he => by
    simp only [resultsA] at he
    split at he
    · rename_i l hl
      cases he
      obtain ⟨us, h1, h2⟩ := results_list ok rel hr rs l hl
      exact ⟨tmps.getD t undef :: us, by rw [List.mapM_cons]; simp only [Sem.run_bind, Sem.run_pure, Result.andThen_ok, h1], _, _, rfl, hr t, h2⟩
    · cases he
  | .cell a t :: rs, vs, he => by
    simp only [resultsA] at he
    split at he
    · rename_i id off l ha hl
      split at he
      · rename_i v hv
        cases he
        have hp := hr a
        rw [ha] at hp
        obtain ⟨loc, hm, e⟩ := hp
        obtain ⟨x, h3, h4⟩ := load_rel (P := P) ok rel hm hv
        obtain ⟨us, h1, h2⟩ := results_list ok rel hr rs l hl
        have e2 : (asAddr (tmps.getD a undef) : Sem Addr) = pure ⟨loc.b, loc.o + off, none⟩ := by rw [e]; rfl
        exact ⟨x :: us, by rw [List.mapM_cons]; simp only [e2, Sem.run_bind, Sem.run_pure, Result.andThen_ok, h1, h3], _, _, rfl, h4, h2⟩
      · cases he
    · cases he

theorem results_rel (ok : EnvOk P E σ) (rel : HRel σ μ h w.heap) {r : Regs} {tmps : Array Value} (hr : ∀ i, VRel σ μ (r.get i) (tmps.getD i undef)) {fn : Func} {v : AV}
    (he : (match resultsA E r h fn.results.toList with
      | some [v] => some v
      | some [] => some .undef
      | some vs => some (.tuple vs)
      | none => none) = some v) : ∃ q, (results fn tmps).run P w = .ok q w ∧ VRel σ μ v q := by
  cases hvs : resultsA E r h fn.results.toList with
  | none => rw [hvs] at he; cases he
  | some vs =>
    obtain ⟨us, h1, h2⟩ := results_list (P := P) ok rel hr _ _ hvs
    rw [hvs] at he
    have hrun : ∀ q, (if h : us.toArray.size = 1 then us.toArray[0] else Value.tuple us.toArray) = q → (results fn tmps).run P w = .ok q w := by
      intro q hq
      unfold results
      rw [Array.mapM_eq_mapM_toList]
      simp only [Sem.run_bind, map_eq_pure_bind]
      refine (congrArg (fun z : Result (List Value) => (z.andThen fun a w' => Sem.run P (pure a.toArray) w').andThen fun (a : Array Value) w' => Sem.run P (pure (if h : a.size = 1 then a[0] else Value.tuple a)) w') h1).trans ?_
      simp only [Result.andThen_ok, Sem.run_pure, hq]
    cases vs with
    | nil =>
      have e' := VsRel.nil_iff.1 h2
      subst e'
      cases he
      exact ⟨_, hrun _ rfl, rfl⟩
    | cons a vs =>
      obtain ⟨u, us', e, ha, hn⟩ := h2
      cases vs with
      | nil =>
        have e' := VsRel.nil_iff.1 hn
        subst e'
        subst e
        cases he
        exact ⟨_, hrun _ rfl, ha⟩
      | cons b vs =>
        obtain ⟨u2, us2, e2, hb, hn⟩ := hn
        subst e2
        subst e
        cases he
        refine ⟨_, hrun _ rfl, ?_⟩
        rw [dif_neg (by simp)]
        exact ⟨_, rfl, _, _, rfl, ha, _, _, rfl, hb, hn⟩

/-! ### entering one -/
theorem regsOf_get : ∀ (as : List AV) (i : Nat) (r : Regs) (j : Nat), Regs.get (regsOf as i r) j = if i ≤ j ∧ j < i + as.length then (as[j - i]?).getD .undef else Regs.get r j
  | [], i, r, j => by rw [if_neg (by simp only [List.length_nil]; omega)]; rfl
  | a :: as, i, r, j => by
    simp only [regsOf]
    rw [regsOf_get as (i + 1) _ j]
    by_cases h1 : i + 1 ≤ j ∧ j < i + 1 + as.length
    · rw [if_pos h1, if_pos (by simp only [List.length_cons]; omega)]
      obtain ⟨m, rfl⟩ : ∃ m, j = i + 1 + m := ⟨j - i - 1, by omega⟩
      rw [show i + 1 + m - (i + 1) = m by omega, show i + 1 + m - i = m + 1 by omega, List.getElem?_cons_succ]
    · rw [if_neg h1]
      by_cases e : j = i
      · subst e
        rw [if_pos (by simp only [List.length_cons]; omega)]
        simp [Regs.get, Tr.get_set]
      · rw [if_neg (by simp only [List.length_cons]; omega)]
        simp [Regs.get, Tr.get_set, e]

theorem enter_rel {as : List AV} {us : Array Value} (hu : VsRel σ μ as us.toList) (n : Nat) :
    RRel σ μ (max n as.length) (regsOf as 0 .nil) (us ++ Array.replicate (n - us.size) undef) := by
  have hl : as.length = us.size := by rw [hu.length, Array.length_toList]
  refine ⟨by simp; omega, fun j => ?_⟩
  rw [regsOf_get]
  by_cases hj : j < as.length
  · rw [if_pos (by omega)]
    obtain ⟨v, hv⟩ : ∃ v, as[j]? = some v := ⟨as[j], List.getElem?_eq_getElem hj⟩
    obtain ⟨x, hx, rx⟩ := hu.get j v hv
    have e : (us ++ Array.replicate (n - us.size) undef).getD j undef = x := by
      have h1 : us[j]? = some x := by simpa using hx
      simp [Array.getElem?_append_left (show j < us.size by omega), h1]
    rw [e, Nat.sub_zero, hv]
    exact rx
  · rw [if_neg (by omega)]
    have e : (us ++ Array.replicate (n - us.size) undef).getD j undef = undef := by
      rw [Array.getD_eq_getD_getElem?, Array.getElem?_append_right (by omega), Array.getElem?_replicate]
      split <;> rfl
    rw [e]
    have : Regs.get (Tr.nil : Regs) j = .undef := by simp [Regs.get, Tr.get_nil]
    rw [this]
    rfl

theorem func_sound {F : Fns} (ok : EnvOk P E σ) (fok : FnsOk P E σ F) {f : FuncId} {first captured args : List AV} {v : AV} (he : callStep E F (.func f first captured) args h = some (v, h'))
    (hg : GRel E μ) (rel : HRel σ μ h w.heap) {u : Value} {us : Array Value} (hu : VRel σ μ (.func f first captured) u) (ha : VsRel σ μ args us.toList) : CallRel P σ μ h w u us v h' := by
  obtain ⟨x, y, e, hx, hy⟩ := hu
  subst e
  delta callStep at he
  dsimp only at he
  split at he
  · cases he
  rename_i fn hfn
  split at he
  · cases he
  rename_i body hbody
  obtain ⟨hpf, hname⟩ := ok.fn f fn hfn
  split at he
  · rename_i ax s1 hcode
    split at he
    · rename_i hax
      split at he
      · cases he
      rename_i h2 hdrop
      refine .inl ⟨f, x ++ us ++ y, ?_, fun cs => ?_⟩
      · simp only [inv, Deferred.ofValue, Sem.run_bind, Sem.run_pure, Result.andThen_ok, invoke, callFunc, run_program, hpf, hname, hbody, Option.isNone_some, Bool.false_eq_true, if_false]
      · have hargs : VsRel σ μ (first ++ args ++ captured) (x ++ us ++ y).toList := by
          rw [Array.toList_append, Array.toList_append]
          exact (hx.append ha).append hy
        have hent := enter_rel hargs fn.ntmps
        let b : Frame := { fn := f, tmps := #[], todo := [], defers := [], mode := .run, kind := .normal }
        let a0 : Act := { tmps := (x ++ us ++ y) ++ Array.replicate (fn.ntmps - (x ++ us ++ y).size) undef, defers := [] }
        have hfr : Frame.enter P f (x ++ us ++ y) .normal = b.atR a0 [.code body] := by
          simp [Frame.enter, hpf, hbody, Frame.atR, b, a0]
        have srel : SRel E σ μ { r := regsOf (first ++ args ++ captured) 0 .nil, n := max fn.ntmps (first ++ args ++ captured).length, ds := [], h } a0 w := ⟨hg, rel, hent, rfl⟩
        obtain ⟨μ1, w1, a1, m1, m2, m3, m4⟩ := fok.code _ _ _ _ _ hcode μ w a0 b [] cs srel rfl
        have hret : ∃ k, Steps P (lone (Frame.enter P f (x ++ us ++ y) .normal) cs w) (lone { b.atR a1 k with mode := .returning } cs w1) := by
          rw [hfr]
          cases ax with
          | normal => exact ⟨_, Steps.trans m4 (.one (stepR_end rfl))⟩
          | ret => obtain ⟨k₁, m4⟩ := m4; exact ⟨_, m4.trans (.one (stepR_ret rfl))⟩
          | exit id => cases hax
          | goto l => cases hax
        obtain ⟨k, hret⟩ := hret
        obtain ⟨w2, d1, d2, d3⟩ := drops_steps (P := P) (σ := σ) _ _ _ hdrop μ1 w1 { b.atR a1 k with mode := .returning } cs m3.h m3.d rfl
        have hres : ∃ q, (results fn a1.tmps).run P w2 = .ok q w2 ∧ VRel σ μ1 v q ∧ h2 = h' := by
          have key : ∀ v', (match resultsA E s1.r h2 fn.results.toList with
              | some [v] => some v
              | some [] => some .undef
              | some vs => some (.tuple vs)
              | none => none) = some v' → ∃ q, (results fn a1.tmps).run P w2 = .ok q w2 ∧ VRel σ μ1 v' q := fun v' hv' => results_rel ok d1.rel m3.r.2 hv'
          revert key he
          generalize resultsA E s1.r h2 fn.results.toList = rs
          intro he key
          match rs with
          | none => cases he
          | some [] => cases he; obtain ⟨q, k1, k2⟩ := key _ rfl; exact ⟨q, k1, k2, rfl⟩
          | some [a] => cases he; obtain ⟨q, k1, k2⟩ := key _ rfl; exact ⟨q, k1, k2, rfl⟩
          | some (a :: b :: c) => cases he; obtain ⟨q, k1, k2⟩ := key _ rfl; exact ⟨q, k1, k2, rfl⟩
        obtain ⟨q, r1, r2, r3⟩ := hres
        subst r3
        exact ⟨{ b.atR a1 k with mode := .returning, defers := [] }, q, w2, μ1, hret.trans d3, rfl, ⟨rfl, rfl, rfl, fn, hpf, r1⟩, m2.trans d2, m1.trans d1, r2⟩
    · cases he
  · cases he
end
end Go.Ev
