/-
  Rounds of a range over a function; known functions; the evaluator is sound.
-/
import Derived.Test.YtkdjcmpgnkecfaaGreatDoorE22
noncomputable section
namespace Go.Ev
set_option linter.unusedVariables false
set_option linter.unusedSimpArgs false

section
variable {P : Program} {E : Env} {σ : Nat → Int} {μ : Map} {h h' : AH} {w : World}

theorem params_rel : ∀ (ts : List Tmp) (args : List AV) (us : List Value) (n : Nat) (r r' : Regs) (tmps : Array Value), setParams ts args n r = some r' → VsRel σ μ args us → RRel σ μ n r tmps →
    ts.length = us.length ∧ RRel σ μ n r' ((ts.zip us).foldl (fun (tmps : Array Value) (p : Tmp × Value) => tmps.setIfInBounds p.1 p.2) tmps)
  | [], [], us, n, r, r', tmps, he, hu, hr => by
    rw [VsRel.nil_iff.1 hu]
    simp only [setParams] at he
    cases he
    exact ⟨rfl, hr⟩
  | t :: ts, v :: vs, _, n, r, r', tmps, he, ⟨u, us, e, hv, hvs⟩, hr => by
    subst e
    simp only [setParams] at he
    replace he := bif_some he; obtain ⟨hb, he⟩ := he
    obtain ⟨h1, h2⟩ := params_rel ts vs us n _ r' (tmps.setIfInBounds t u) he hvs (hr.put (blt_true.1 hb) hv)
    exact ⟨by simp [h1], h2⟩
  | [], _ :: _, _, _, _, _, _, he, _, _ => by cases he
  | _ :: _, [], _, _, _, _, _, he, _, _ => by cases he

theorem yield_sound {F : Fns} (ok : EnvOk P E σ) (fok : FnsOk P E σ F) {l : Nat} {args : List AV} {v : AV} (he : callStep E F (.yield l) args h = some (v, h'))
    (hg : GRel E μ) (rel : HRel σ μ h w.heap) {u : Value} {us : Array Value} (hu : VRel σ μ (.yield l) u) (ha : VsRel σ μ args us.toList) : CallRel P σ μ h w u us v h' := by
  obtain ⟨loc, hl, e⟩ := hu
  subst e
  delta callStep at he
  dsimp only at he
  split at he
  · rename_i pd n r params assign body d hget
    obtain ⟨fn, tmps, ld, hobj, hd, hr⟩ := loop_obj rel hl hget
    split at he
    · cases he
    rename_i r' hpar
    obtain ⟨hlen, hr2⟩ := params_rel _ _ _ _ _ _ tmps hpar ha hr
    have hsz : us.size = params.size := by simpa using hlen.symm
    refine .inr (.inl ⟨loc.b, fn, (params.toList.zip us.toList).foldl (fun (tmps : Array Value) (p : Tmp × Value) => tmps.setIfInBounds p.1 p.2) tmps, assign, body, ?_, fun c cs => ?_⟩)
    · have e1 : (params.zip us).foldl (fun (tmps : Array Value) (p : Tmp × Value) => tmps.setIfInBounds p.1 p.2) tmps =
          (params.toList.zip us.toList).foldl (fun (tmps : Array Value) (p : Tmp × Value) => tmps.setIfInBounds p.1 p.2) tmps := by
        rw [← Array.foldl_toList, Array.toList_zip]
      simp only [inv, Deferred.ofValue, Sem.run_bind, Sem.run_pure, Result.andThen_ok, invoke, Instr.yield, Instr.getLoop, getObj_at hobj rfl, Array.empty_append, hsz, ne_eq, not_true_eq_false, if_false]
      rw [← e1]
    · let b : Frame := { fn := fn, tmps := #[], todo := [], defers := [], mode := .run, kind := .normal, roundOf := some loc.b }
      let a0 : Act := { tmps := (params.toList.zip us.toList).foldl (fun (tmps : Array Value) (p : Tmp × Value) => tmps.setIfInBounds p.1 p.2) tmps, defers := [] }
      have hfr : Frame.round loc.b fn a0.tmps assign body .normal = b.atR a0 [.code assign, .beginRound, .code body] := rfl
      have srel : SRel E σ μ { r := r', n, ds := [], h } a0 w := ⟨hg, rel, hr2, rfl⟩
      have hro : RoRel μ (some l) b := ⟨loc, hl, rfl⟩
      split at he
      · rename_i s1 hassign
        obtain ⟨μ1, w1, a1, m1, m2, m3, m4⟩ := fok.code _ _ _ _ _ hassign μ w a0 b [.beginRound, .code body] (c :: cs) srel hro
        split at he
        · rename_i pd1 n1 r1 params1 assign1 body1 d1 hget1
          obtain ⟨fn1, tmps1, ld1, hobj1, hd1, hr1⟩ := loop_obj m3.h (m1.ext _ _ hl) hget1
          obtain ⟨p1, p2⟩ := put_obj (P := P) (w := w1) m3.h (m1.ext _ _ hl) hget1 rfl (o' := .loop .busy pd1 n1 r1 params1 assign1 body1 d1)
            (x := .loop { state := .busy, pending := pd1, fn := fn1, tmps := tmps1, params := params1, assign := assign1, body := body1, defers := ld1.b }) ⟨fn1, tmps1, ld1, rfl, hd1, hr1⟩ hobj1 rfl
          have hbegin : (Instr.beginRound loc.b).run P w1 = .ok () { w1 with heap := w1.heap.setIfInBounds loc.b (.loop { state := .busy, pending := pd1, fn := fn1, tmps := tmps1, params := params1, assign := assign1, body := body1, defers := ld1.b }) } := by
            simp only [Instr.beginRound, Instr.getLoop, Sem.run_bind, getObj_at hobj1 rfl, Result.andThen_ok, Sem.run_pure, p1]
          have st1 := Steps.trans m4 (.one (stepR_beginRound rfl hbegin))
          have hsame1 : Same3 w { w1 with heap := w1.heap.setIfInBounds loc.b (.loop { state := .busy, pending := pd1, fn := fn1, tmps := tmps1, params := params1, assign := assign1, body := body1, defers := ld1.b }) } :=
            m2.trans ⟨rfl, rfl, rfl⟩
          have srel1 : SRel E σ μ1 { s1 with h := s1.h.put l (.loop .busy pd1 n1 r1 params1 assign1 body1 d1) } a1
              { w1 with heap := w1.heap.setIfInBounds loc.b (.loop { state := .busy, pending := pd1, fn := fn1, tmps := tmps1, params := params1, assign := assign1, body := body1, defers := ld1.b }) } :=
            ⟨m3.g, p2.rel, m3.r, m3.d⟩
          have mv1 : Moves σ μ h w.heap μ1 (s1.h.put l (.loop .busy pd1 n1 r1 params1 assign1 body1 d1)) ({ w1 with heap := w1.heap.setIfInBounds loc.b (.loop { state := .busy, pending := pd1, fn := fn1, tmps := tmps1, params := params1, assign := assign1, body := body1, defers := ld1.b }) } : World).heap := m1.trans p2
          clear m2 m4 hbegin p1
          generalize ({ w1 with heap := w1.heap.setIfInBounds loc.b (.loop { state := .busy, pending := pd1, fn := fn1, tmps := tmps1, params := params1, assign := assign1, body := body1, defers := ld1.b }) } : World) = w2 at *
          split at he
          · rename_i ax s2 hbody
            obtain ⟨μ2, w3, a2, k1, k2, k3, k4⟩ := fok.code _ _ _ _ _ hbody μ1 w2 a1 b [] (c :: cs) srel1 (hro.ext m1.ext)
            split at he
            · rename_i st3 pd3 n3 r3 params3 assign3 body3 d3 hget3 hds
              have hl2 := k1.ext _ _ (m1.ext _ _ hl)
              obtain ⟨fn3, tmps3, ld3, hobj3, hd3, hr3⟩ := loop_obj k3.h hl2 hget3
              have fin : ∀ (jump : Option Code), (∃ m', Steps P (lone (Frame.round loc.b fn a0.tmps assign body .normal) (c :: cs) w) m' ∧
                  ∀ q w', (Instr.endRound loc.b jump).run P w3 = .ok q w' → step P m' = .next (lone (c.finish q) cs w')) →
                  some (AV.bool jump.isNone, s2.h.put l (.loop (if jump.isNone then .ready else .done) jump n3 r3 params3 assign3 body3 d3)) = some (v, h') →
                  ∃ q w' μ', Steps P (lone (Frame.round loc.b fn a0.tmps assign body .normal) (c :: cs) w) (lone (c.finish q) cs w') ∧ Same3 w w' ∧ Moves σ μ h w.heap μ' h' w'.heap ∧ VRel σ μ' v q := by
                intro jump ⟨m', hs, hst⟩ heq
                cases heq
                obtain ⟨p1, p2⟩ := put_obj (P := P) (w := w3) k3.h hl2 hget3 rfl (o' := .loop (if jump.isNone then .ready else .done) jump n3 r3 params3 assign3 body3 d3)
                  (x := .loop { state := if jump.isNone then .ready else .done, pending := jump, fn := fn3, tmps := tmps3, params := params3, assign := assign3, body := body3, defers := ld3.b }) ⟨fn3, tmps3, ld3, rfl, hd3, hr3⟩ hobj3 rfl
                have hend : (Instr.endRound loc.b jump).run P w3 = .ok (.bool jump.isNone) { w3 with heap := w3.heap.setIfInBounds loc.b (.loop { state := if jump.isNone then .ready else .done, pending := jump, fn := fn3, tmps := tmps3, params := params3, assign := assign3, body := body3, defers := ld3.b }) } := by
                  simp only [Instr.endRound, Instr.getLoop, Sem.run_bind, getObj_at hobj3 rfl, Result.andThen_ok, Sem.run_pure, p1]
                refine ⟨_, _, μ2, hs.trans (.one (hst _ _ hend)), ?_, mv1.trans (k1.trans p2), rfl⟩
                exact (hsame1.trans k2).trans ⟨rfl, rfl, rfl⟩
              have st1' : Steps P (lone (Frame.round loc.b fn a0.tmps assign body .normal) (c :: cs) w) (lone (b.atR a1 [.code body]) (c :: cs) w2) := by rw [hfr]; exact st1
              cases ax with
              | normal => exact fin none ⟨_, st1'.trans k4, fun q w' hq => stepR_round_end rfl rfl hq⟩ he
              | exit id =>
                obtain ⟨k₁, e, k4⟩ := k4
                exact fin (some (.exit id)) ⟨_, st1'.trans k4, fun q w' hq => stepR_round_exit rfl rfl (by rw [e]; rfl) hq⟩ he
              | goto g =>
                obtain ⟨k₁, e, k4⟩ := k4
                exact fin (some (.goto g)) ⟨_, st1'.trans k4, fun q w' hq => stepR_round_goto rfl rfl (by rw [e]; rfl) hq⟩ he
              | ret =>
                obtain ⟨k₁, k4⟩ := k4
                exact fin (some .ret) ⟨_, st1'.trans k4, fun q w' hq => stepR_round_ret rfl rfl hq⟩ he
            · cases he
          · cases he
        · cases he
      · cases he
  · cases he

/-- what is known of functions holds -/
def PrimsOk (P : Program) (E : Env) (σ : Nat → Int) (p : Prims) : Prop :=
  ∀ g q, p g = some q → ∀ args h v h', q args h = some (v, h') → ∀ μ w (us : Array Value), GRel E μ → HRel σ μ h w.heap → VsRel σ μ args us.toList →
    CallRel P σ μ h w (.func (.func g) #[] #[]) us v h'

theorem call_sound {F : Fns} (ok : EnvOk P E σ) (fok : FnsOk P E σ F) (f : AV) (args : List AV) (h : AH) (v : AV) (h' : AH) (he : callStep E F f args h = some (v, h'))
    (μ : Map) (w : World) (u : Value) (us : Array Value) (hg : GRel E μ) (rel : HRel σ μ h w.heap) (hu : VRel σ μ f u) (ha : VsRel σ μ args us.toList) : CallRel P σ μ h w u us v h' := by
  cases f with
  | func f first captured => exact func_sound ok fok he hg rel hu ha
  | yield l => exact yield_sound ok fok he hg rel hu ha
  | _ => cases he

theorem step_ok {F : Fns} {p : Prims} (ok : EnvOk P E σ) (pok : PrimsOk P E σ p) (fok : FnsOk P E σ F) (dok : DrawnOk P E σ F) : FnsOk P E σ (fnsStep E p F) where
  code := fun ro c s x s' he μ w a b k cs rel hro => code_sound ok fok dok ro c s x s' he μ w a b k cs rel hro
  call := fun f args h v h' he μ w u us hg rel hu ha => by
    have he' : callPrim E p F f args h = some (v, h') := he
    unfold callPrim at he'
    split at he'
    · rename_i g
      split at he'
      · rename_i q hq
        split at he'
        · rename_i r hr
          cases he'
          obtain ⟨x, y, e, hx, hy⟩ := hu
          have ex : x = #[] := by have := VsRel.nil_iff.1 hx; exact Array.toList_eq_nil_iff.1 this
          have ey : y = #[] := by have := VsRel.nil_iff.1 hy; exact Array.toList_eq_nil_iff.1 this
          subst e ex ey
          exact pok g q hq args h v h' hr μ w us hg rel ha
        · exact call_sound ok fok _ args h v h' he' μ w u us hg rel hu ha
      · exact call_sound ok fok _ args h v h' he' μ w u us hg rel hu ha
    · exact call_sound ok fok _ args h v h' he' μ w u us hg rel hu ha
end
end Go.Ev
