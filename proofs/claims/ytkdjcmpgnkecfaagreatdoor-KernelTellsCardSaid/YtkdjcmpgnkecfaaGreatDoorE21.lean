/-
  Code and calls in the machine.
-/
import Derived.Test.YtkdjcmpgnkecfaaGreatDoorE20
noncomputable section
namespace Go.Ev
set_option linter.unusedVariables false
set_option linter.unusedSimpArgs false

section
variable {P : Program} {E : Env} {σ : Nat → Int} {μ : Map} {h h' : AH} {w : World}

theorem run_newObj' (x : Obj) : (newObj x).run P w = .ok w.heap.size { w with heap := w.heap.push x } := by simp

theorem range_sound {F : Fns} (ok : EnvOk P E σ) (fok : FnsOk P E σ F) {ro : Option Nat} {f : Operand} {params : Array Tmp} {assign body : Code} {s s' : St} {x : AX}
    (he : codeStep E F ro (.rangeFunc f params assign body) s = some (x, s')) {a : Act} (b : Frame) (k : List Item) (cs : List Frame) (rel : SRel E σ μ s a w) (hro : RoRel μ ro b) :
    Ends P E σ b μ s.h w (lone (b.atR a (.code (.rangeFunc f params assign body) :: k)) cs w) k cs x s' := by
  delta codeStep at he; dsimp only at he
  split at he
  · cases he
  rename_i fv hfv
  have hf : VRel σ μ fv (opv a.tmps f) := opd_rel rel.g rel.r.2 hfv
  split at he
  · cases he
  rename_i d s1 hst
  cases ro with
  | none =>
    have hb : b.roundOf = none := hro
    have hdef : Moves σ μ s.h w.heap (μ.upd s.h.next ⟨w.heap.size, 0, 0⟩) (s.h.new .deferred) (w.heap.push (.deferred (some []))) := rel.h.new rfl
    have rel' : SRel E σ (μ.upd s.h.next ⟨w.heap.size, 0, 0⟩) { s with h := s.h.new .deferred, ds := s.h.next :: s.ds }
        { a with defers := [{ target := .collected w.heap.size, args := #[] }] ++ a.defers } { w with heap := w.heap.push (.deferred (some [])) } :=
      ⟨rel.g.ext hdef.ext, hdef.rel, rel.r.ext hdef.ext, ⟨_, _, rfl, Map.upd_at _ _ _, rel.d.ext hdef.ext⟩⟩
    simp only [rangeStart] at hst
    cases hst
    have hent : (Instr.enterLoop b.fn a.tmps params assign body b.roundOf).run P w = .ok ((w.heap.push (.deferred (some []))).size, [{ target := .collected w.heap.size, args := #[] }])
        { w with heap := (w.heap.push (.deferred (some []))).push (.loop { state := .ready, pending := none, fn := b.fn, tmps := a.tmps, params, assign, body, defers := w.heap.size }) } := by
      rw [hb]
      simp only [Instr.enterLoop, Sem.run_bind, run_newObj', Sem.run_pure, Result.andThen_ok]
    have := range_rest (ro := none) fok b k cs rel' hb (Map.upd_at _ _ _) (VRel.ext hdef.ext _ _ hf) hent he
    exact this.after (w₁ := { w with heap := w.heap.push (.deferred (some [])) }) hdef ⟨rfl, rfl, rfl⟩ (.refl _ _)
  | some l =>
    obtain ⟨loc, hl, hb⟩ := hro
    simp only [rangeStart] at hst
    split at hst
    · rename_i st pend n r ps as bd d' hg
      cases hst
      obtain ⟨fn', tmps', ld, hobj, hd', hr'⟩ := loop_obj rel.h hl hg
      have rel' : SRel E σ μ s { a with defers := [] ++ a.defers } w := ⟨rel.g, rel.h, rel.r, rel.d⟩
      have hent : (Instr.enterLoop b.fn a.tmps params assign body b.roundOf).run P w = .ok (w.heap.size, [])
          { w with heap := w.heap.push (.loop { state := .ready, pending := none, fn := b.fn, tmps := a.tmps, params, assign, body, defers := ld.b }) } := by
        rw [hb]
        simp only [Instr.enterLoop, Instr.getLoop, Sem.run_bind, getObj_at hobj rfl, run_newObj', Sem.run_pure, Result.andThen_ok]
      exact range_rest (ro := some l) fok b k cs rel' ⟨loc, hl, hb⟩ hd' hf hent he
    · cases hst

theorem code_sound {F : Fns} (ok : EnvOk P E σ) (fok : FnsOk P E σ F) (dok : DrawnOk P E σ F) (ro : Option Nat) (c : Code) (s : St) (x : AX) (s' : St) (he : codeStep E F ro c s = some (x, s'))
    (μ : Map) (w : World) (a : Act) (b : Frame) (k : List Item) (cs : List Frame) (rel : SRel E σ μ s a w) (hro : RoRel μ ro b) :
    Ends P E σ b μ s.h w (lone (b.atR a (.code c :: k)) cs w) k cs x s' := by
  cases c with
  | skip => cases he; exact ⟨μ, w, a, Moves.refl rel.h, Same3.refl _, rel, .one stepR_skip⟩
  | label l => cases he; exact ⟨μ, w, a, Moves.refl rel.h, Same3.refl _, rel, .one stepR_label⟩
  | seq c1 c2 =>
    delta codeStep at he; dsimp only at he
    split at he
    · rename_i s1 h1
      obtain ⟨μ1, w1, a1, m1, m2, m3, m4⟩ := fok.code _ _ _ _ _ h1 μ w a b (.code c2 :: k) cs rel hro
      exact (fok.code _ _ _ _ _ he μ1 w1 a1 b k cs m3 (hro.ext m1.ext)).after m1 m2 (.head stepR_seq m4)
    · rename_i hne
      obtain ⟨μ1, w1, a1, m1, m2, m3, m4⟩ := fok.code _ _ _ _ _ he μ w a b (.code c2 :: k) cs rel hro
      exact ⟨μ1, w1, a1, m1, m2, m3, (m4.pass rfl fun hx => hne s' (by rw [he, hx])).of_steps (.one stepR_seq)⟩
  | cond o c1 c2 =>
    delta codeStep at he; dsimp only at he
    split at he
    · rename_i ho
      have e : a.eval o = .bool true := by rw [eval_atR_opv b]; exact opd_rel rel.g rel.r.2 ho
      exact (fok.code _ _ _ _ _ he μ w a b k cs rel hro).of_steps (.one (stepR_cond e))
    · rename_i ho
      have e : a.eval o = .bool false := by rw [eval_atR_opv b]; exact opd_rel rel.g rel.r.2 ho
      exact (fok.code _ _ _ _ _ he μ w a b k cs rel hro).of_steps (.one (stepR_cond e))
    · cases he
  | block id c =>
    delta codeStep at he; dsimp only at he
    split at he
    · rename_i id' s1 h1
      obtain ⟨μ1, w1, a1, m1, m2, m3, k₁, e, m4⟩ := fok.code _ _ _ _ _ h1 μ w a b (.inBlock id :: k) cs rel hro
      cases hb : Nat.beq id' id with
      | true =>
        rw [hb] at he
        cases he
        have e1 := beq_true.1 hb
        subst e1
        exact ⟨μ1, w1, a1, m1, m2, m3, .head stepR_block (m4.trans (.one (stepR_exit (by rw [e]; simp [exitTo]))))⟩
      | false =>
        rw [hb] at he
        cases he
        have e1 : (id == id') = false := by simp; exact fun e => beq_false.1 hb e.symm
        exact ⟨μ1, w1, a1, m1, m2, m3, k₁, by rw [e]; simp [exitTo, e1], .head stepR_block m4⟩
    · rename_i hne
      obtain ⟨μ1, w1, a1, m1, m2, m3, m4⟩ := fok.code _ _ _ _ _ he μ w a b (.inBlock id :: k) cs rel hro
      refine ⟨μ1, w1, a1, m1, m2, m3, ?_⟩
      cases x with
      | normal => exact .head stepR_block (Steps.trans m4 (.one stepR_inBlock))
      | exit id' => exact absurd he (hne id' s')
      | goto l => obtain ⟨k₁, e, m4⟩ := m4; exact ⟨k₁, e.trans (by simp [gotoIn]), .head stepR_block m4⟩
      | ret => obtain ⟨k₁, m4⟩ := m4; exact ⟨k₁, .head stepR_block m4⟩
  | loop c =>
    delta codeStep at he; dsimp only at he
    split at he
    · cases he
    · rename_i hne
      obtain ⟨μ1, w1, a1, m1, m2, m3, _, m4⟩ := loop_steps fok ro b c k cs 14 s s' x he μ w a rel hro
      exact ⟨μ1, w1, a1, m1, m2, m3, (m4 fun hx => hne s' (by rw [he, hx])).of_steps (.one stepR_loop)⟩
  | exit id => cases he; exact ⟨μ, w, a, Moves.refl rel.h, Same3.refl _, rel, k, rfl, .refl _ _⟩
  | goto l => cases he; exact ⟨μ, w, a, Moves.refl rel.h, Same3.refl _, rel, k, rfl, .refl _ _⟩
  | ret => cases he; exact ⟨μ, w, a, Moves.refl rel.h, Same3.refl _, rel, k, .refl _ _⟩
  | scope c =>
    delta codeStep at he; dsimp only at he
    exact (scope_steps fok ro b c k cs 9 c s s' x he μ w a rel hro).of_steps (.one stepR_scope)
  | refuse m => cases he
  | region id ops dr =>
    delta codeStep at he; dsimp only at he
    cases dr with
    | false =>
      simp only at he
      split at he
      · rename_i s1 h1
        cases he
        exact region_steps ok fok b k cs h1 rel id
      · cases he
    | true =>
      simp only at he
      split at he
      · rename_i s1 h1
        cases he
        exact dok _ _ _ h1 μ w a b id k cs rel
      · cases he
  | rangeFunc f params assign body => exact range_sound ok fok he b k cs rel hro
end
end Go.Ev
