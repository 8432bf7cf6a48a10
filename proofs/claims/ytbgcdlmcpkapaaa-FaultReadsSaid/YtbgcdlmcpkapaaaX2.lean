/-
  What the laws of a region, an entry and what is asked come to, for all flags and by questions on the numbers.
-/
import Derived.Test.YtbgcdlmcpkapaaaX1
noncomputable section
namespace Go.Proofs.Ytbgcdlmcpkapaaa
open Go.Ev Go.RowKit
set_option linter.unusedVariables false
set_option linter.unusedSimpArgs false

noncomputable def argsL (sub : List (Nat × Int)) (h w c o t : Bool) : List AV :=
  [.agg [.sym .i64 5, .sym .i64 6, .sym .i64 0, subAV sub .i64 4, .sym .i64 7, .sym .i64 8], mayArg h w c o, .agg [.bool t, subAV sub .i64 1, .sym .i64 2, .sym .i64 9, .sym .i64 10]]

noncomputable def runL (f : FuncId) (m h w c o t : Bool) (fs : List Fact) (sub : List (Nat × Int)) : Bool :=
  match (NS fs (primsOf [(9, pure1 awakeG), (10, pure1 (mayG h w c o m))])).call (.func f [] []) (argsL sub h w c o t) AH.none with
  | some (.bool b, _) => b
  | _ => false

noncomputable def maysL (h w c o : Bool) : List Bool := bif (h != o) && (!w || !c) then [true, false] else [false]

noncomputable def chk (f : FuncId) (plan : Bool → Bool → Bool → Bool → Bool → Plan) (h w c : Bool) : Bool :=
  bools.all fun o => bools.all fun t => (maysL h w c o).all fun m => checkPlan qs (runL f m h w c o t) (plan t (m && h) (m && w) (m && c) (m && o)) [] []

theorem chk_all {f : FuncId} {plan : Bool → Bool → Bool → Bool → Bool → Plan} (hc : ∀ h w c, chk f plan h w c = true) (h w c o t n : Bool) :
    checkPlan qs (runL f (mayIs h w c o n) h w c o t) (plan t (mayIs h w c o n && h) (mayIs h w c o n && w) (mayIs h w c o n && c) (mayIs h w c o n && o)) [] [] = true := by
  have := hc h w c
  unfold chk at this
  simp only [List.all_eq_true] at this
  have := this o (mem_bools o) t (mem_bools t) (mayIs h w c o n) (by
    unfold maysL mayIs
    cases h <;> cases w <;> cases c <;> cases o <;> cases n <;> decide)
  exact this

/-- **a law of a region, an entry, and what is asked** -/
theorem law3 {f : FuncId} {fn : Func} (hfn : ∀ fs, (env fs).fn f = some fn) (hb : fn.body = some (fn.body.getD .skip)) {plan : Bool → Bool → Bool → Bool → Bool → Plan} (hc : ∀ h w c, chk f plan h w c = true)
    (σ : Nat → Int) (h w c o t : Bool) (wd : World) :
    Calls Try.prog f #[.agg #[.int .i64 (σ 5), .int .i64 (σ 6), .int .i64 (σ 0), .int .i64 (σ 4), .int .i64 (σ 7), .int .i64 (σ 8)],
      .agg #[.bool h, .bool w, .bool c, .bool o, .int .i64 (σ 3)], .agg #[.bool t, .int .i64 (σ 1), .int .i64 (σ 2), .int .i64 (σ 9), .int .i64 (σ 10)]] wd
      fun e w' => e = .returned (.bool true) ∧ Below wd.heap.size wd w' := by
  obtain ⟨fs, sub, h1, h2, h3⟩ := checkPlan_sound (P := Try.prog) (qs_holds σ) _ _ _ (chk_all hc h w c o t (nOk σ)) (facts_nil σ) (sub_nil σ)
  unfold runL at h3
  split at h3
  · rename_i b h' hcall
    subst h3
    have ok := env_ok fs σ h1
    have pok : PrimsOk Try.prog (env fs) σ (primsOf [(9, pure1 awakeG), (10, pure1 (mayG h w c o (mayIs h w c o (nOk σ))))]) :=
      prims_cons (awake_ok fs σ h1) (prims_cons (may_ok fs σ h1 h w c o) prims_nil)
    refine (calls_none ok (fns_ok ok pok 60) rfl (hfn fs) hb hcall (w := wd) ?_).mono fun e w' ⟨q, μ', a1, a2, a3⟩ => ⟨by rw [a1, show q = _ from a2], a3⟩
    refine ⟨_, _, rfl, ⟨_, rfl, _, _, rfl, rfl, _, _, rfl, rfl, _, _, rfl, rfl, _, _, rfl, subAV_rel h2 _ _, _, _, rfl, rfl, _, _, rfl, rfl, rfl⟩, _, _, rfl,
      ⟨_, rfl, _, _, rfl, rfl, _, _, rfl, rfl, _, _, rfl, rfl, _, _, rfl, rfl, _, _, rfl, rfl, rfl⟩, _, _, rfl,
      ⟨_, rfl, _, _, rfl, rfl, _, _, rfl, subAV_rel h2 _ _, _, _, rfl, rfl, _, _, rfl, rfl, _, _, rfl, rfl, rfl⟩, rfl⟩
  · cases h3

/-- what must be asked ahead of 'Steps': is there a region; an entry's flags -/
noncomputable def planUse (u : Nat) (h w c o : Bool) : Plan :=
  let e : Plan := bif Nat.beq u 2 then .run else .ask 2 [.run, .run]
  bif o then e else bif h then (bif Nat.beq u 2 && !w then .ask 5 [.run, .run] else .run) else .ask 4 [e, e]
noncomputable def planS (t h w c o : Bool) : Plan :=
  bif t then .ask 0 [.ask 1 [.run, planUse 1 h w c o], .ask 2 [.run, planUse 2 h w c o], .ask 3 [.run, planUse 3 h w c o], .run, .run] else .ask 0 [.ask 1 [.run, .run], .ask 2 [.run, .run], .ask 3 [.run, .run], .run, .run]
/-- .. of 'FaultEnds' -/
noncomputable def planE (t h w c o : Bool) : Plan :=
  bif t then .ask 0 [.ask 1 [.run, planUse 1 h w c o], .ask 2 [.run, planUse 2 h w c o], .ask 3 [.run, planUse 3 h w c o], .run, .run] else .run
/-- .. of 'FaultReads' -/
noncomputable def planR (t h w c o : Bool) : Plan :=
  let e : Plan := .ask 2 [.run, .run]
  let y : Plan := bif o then e else bif h then .run else .ask 4 [e, e]
  .ask 1 [.ask 3 [y, y], .ask 3 [y, y]]
end Go.Proofs.Ytbgcdlmcpkapaaa
