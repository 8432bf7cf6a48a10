/-
  The law KernelNil: of no kernel nothing comes; proved for every process number.
-/
import Derived.Test.YtkdjcmpgnkecfaaGreatDoorKNC
import Derived.Test.YtkdjcmpgnkecfaaGreatDoorKNF
import Derived.Test.YtkdjcmpgnkecfaaGreatDoorTie
import Derived.Test.YtkdjcmpgnkecfaaGreatDoorCards
import Derived.SevenTiedAt
noncomputable section
namespace Go.Proofs.YtkdjcmpgnkecfaaGreatDoor.kernelNil
open Go.Proofs.YtkdjcmpgnkecfaaGreatDoor Go.Ev Go.ChangeShapes Go.WideShapes Go.ChangeAt Go.RowKit Go.Deep
set_option linter.unusedVariables false

theorem plain : ∀ t, t ∈ Tryz.f19.params.toList → plainT Tryz.prog 3 t = true := by
  rw [Tryz.params19]
  intro t ht
  simp only [List.mem_cons, List.not_mem_nil, or_false] at ht
  rcases ht with rfl
  kernel_rfl

theorem fn19' : (env []).fn 19 = some Tryz.f19 := by kernel_rfl

theorem walk (pid : Int) (W : World) (hW : laidMetH Tryz.prog laidL W) : Calls Tryz.prog 19 #[.int .i64 pid] W fun e W' => e = .returned (.bool true) ∧ Below W.heap.size W W' := by
  have h := nil_ev
  unfold run at h
  cases hr : (fns (env []) PV 300).call (.func 19 [] []) [.sym .i64 0] hL with
  | none => rw [hr] at h; cases h
  | some r =>
    obtain ⟨v, h'⟩ := r
    rw [hr] at h
    simp only [Option.map_some, Option.some.injEq] at h
    subst h
    refine (law_calls (σ := fun _ => pid) (fun f hf => by cases hf) fn19' (by kernel_rfl) hr (us := #[.int .i64 pid]) (fun μ => ⟨_, _, rfl, rfl, rfl⟩) hW).mono fun e W' ⟨⟨μ, q, h1, h2⟩, h3⟩ => ⟨by rw [h1, show q = _ from h2], h3⟩

set_option maxRecDepth 100000 in
theorem lifted (os : Os) (started : os.Started) (H : Type) (enc : TypeId × Value → H) :
    ReturnsInHanded {} Tryz.checked os 19 .any (fun w args => (Rows.kernelNilSpec.pre enc Tryz.prog Tryz.f19 [] false w args ∧ laidMetH Tryz.prog laidL w) ∧ sizedMet enc Tryz.prog Tryz.f19 (OpenSpec.ofChange Rows.kernelNilSpec) false w args)
      (Rows.kernelNilSpec.post enc Tryz.prog Tryz.f19 false true false false) := by
  refine returnsInHanded_of_change_and (C := Tryz.checked) (X := fun w _ => laidMetH Tryz.prog laidL w) (fun _ _ _ hh h => h.of_heap hh) own started (by kernel_rfl) Tryz.func19
    (ChangeSpec.witness_shaped (enc := enc) (C := Tryz.checked) (os := os) (X := fun w _ => laidMetH Tryz.prog laidL w) false (World.doorLaid Tryz.prog 400 os) #[.int .i64 0] 8 rfl (World.shaped_of_RefB (by kernel_rfl) (by kernel_rfl)) (by kernel_rfl) (by kernel_rfl) (by kernel_rfl) (door_met os _)) ?_
  intro W base args ds gs before hval0 hW _ _ hLd _
  have hval : ∀ (j : Nat) t v, Tryz.f19.params[j]? = some t → args[j]? = some v → Value.okWide Tryz.prog W .any base t v := hval0
  obtain ⟨p, q, hA0, hV, rfl, hfz, hnd⟩ := hW
  have hA1 : DataW.TrodAll enc Tryz.prog W 0 (fun _ => true) true Tryz.f19.params.toList args.toList ds p := hA0
  have hA := hA1
  rw [Tryz.params19] at hA hval
  obtain ⟨v0, vs0, d0, ds0, p0, q0, hargs, rfl, rfl, h0, r0⟩ := trodAll_cons hA
  obtain ⟨rfl, rfl, rfl⟩ := trodAll_nil r0
  obtain rfl : args = #[v0] := by cases args; simp_all
  obtain ⟨rfl, rfl⟩ := trodVars_none hV
  obtain ⟨x0, rfl, rfl, _, _⟩ := open_int Tryz.underlying3 (hval 0 3 v0 rfl rfl) h0
  refine (walk x0 W hLd).mono fun e W' ⟨he, hb⟩ => ?_
  subst he
  exact ⟨_, rfl, post_plain (bt := 4) hA1 plain rfl (by kernel_rfl) Tryz.underlying4 ⟨rfl, rfl, rfl⟩ hb⟩

theorem over : Rows.KernelNilSaid :=
  OpenClaim.holds_of_wide 19 Tryz.f19 rfl rfl rfl rfl rfl rfl rfl ⟨rfl, rfl, rfl, rfl, rfl⟩ rfl rfl rfl rfl rfl a11 Tryz.func19 closed
    (of_decide_eq_true (by kernel_rfl)) (by unfold Func.isWrapper; first | (rw [if_pos (by decide +kernel)]; kernel_rfl) | (rw [if_neg (by decide +kernel)]; exact ⟨rfl, rfl⟩))
    (fun os started H enc _ => lifted os started H enc)

theorem stand3 : Tryz.prog.wantsStandIn 3 = false := by kernel_rfl

theorem proved : Rows.KernelNilCardSaid :=
  Claim7.holds_tied_plain_at .later [] [.data] true (true, "06c809cf3dd6a07f4563166201490ca0eb765c932b78d3ffd1eecd1398c2f928") false
    over (fun _ h => by cases h) a9 (fun _ h => by cases h) kernelNil_row_tie rfl ⟨rfl, rfl⟩ main_is rfl
    (fun f fn hf hfn => by
      obtain rfl : f = 19 := Option.some.inj (a11.symm.trans hf) |>.symm
      obtain rfl : fn = Tryz.f19 := (Option.some.inj (Tryz.func19.symm.trans hfn)).symm
      refine ⟨looks_no, fun j t ht => ?_⟩
      rw [Tryz.params19] at ht
      have hm : t ∈ [3] := by simpa using Array.mem_of_getElem? ht
      obtain rfl := List.mem_singleton.1 hm
      exact stand3)
    a10
#print axioms proved
end Go.Proofs.YtkdjcmpgnkecfaaGreatDoor.kernelNil
