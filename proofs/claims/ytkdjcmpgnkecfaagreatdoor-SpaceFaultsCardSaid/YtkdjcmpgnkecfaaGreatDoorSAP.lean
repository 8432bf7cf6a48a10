/-
  The law SpaceFaults: proved for every input.
-/
import Derived.Test.YtkdjcmpgnkecfaaGreatDoorYSAP2
import Derived.Test.YtkdjcmpgnkecfaaGreatDoorTie
import Derived.Test.YtkdjcmpgnkecfaaGreatDoorCards
import Derived.SevenTiedAt
noncomputable section
namespace Go.Proofs.YtkdjcmpgnkecfaaGreatDoor.spaceFaults
open Go.Proofs.YtkdjcmpgnkecfaaGreatDoor Go.a8 Go.ChangeShapes Go.WideShapes Go.ChangeAt Go.RowKit Go.Deep
set_option linter.unusedVariables false

theorem plain : ∀ t, t ∈ Tryz.f5.params.toList → o5 Tryz.prog 3 t = true := by
  rw [Tryz.params5]
  intro t aW
  simp only [List.mem_cons, List.not_mem_nil, or_false] at aW
  rcases aW with rfl | rfl | rfl
  all_goals kernel_rfl

theorem fn' (fs : List Fact) : (env fs).fn 5 = some Tryz.f5 := by kernel_rfl

theorem walk (gz bU eY : Int) (W : World) (nZ : laidMetH Tryz.prog lR W) : Calls Tryz.prog 5 #[.int .i64 gz, .int .i64 bU, .int .i64 eY] W fun e j' => e = .returned (.bool true) ∧ Below W.heap.size W j' := by
  obtain ⟨g, e⟩ := adY gz bU eY
  obtain ⟨N, e6⟩ := pe.1 e
  refine (GL (fs := []) (σ := fun _ => 0) (fun f aJ => by cases aJ) Ho (fn' []) (by kernel_rfl) e6 (us := #[.int .i64 gz, .int .i64 bU, .int .i64 eY]) (fun μ => ⟨_, _, rfl, rfl, _, _, rfl, rfl, _, _, rfl, rfl, rfl⟩) nZ).mono fun e j' ⟨⟨μ, q, h1, ab⟩, al⟩ => ⟨by rw [h1, show q = _ from ab], al⟩

set_option maxRecDepth 100000 in
theorem lifted (os : Os) (started : os.Started) (H : Type) (enc : TypeId × Value → H) :
    ReturnsInHanded {} Tryz.checked os 5 .any (fun w args => (Rows.spaceFaultsSpec.pre enc Tryz.prog Tryz.f5 [] false w args ∧ laidMetH Tryz.prog lR w) ∧ sizedMet enc Tryz.prog Tryz.f5 (OpenSpec.ofChange Rows.spaceFaultsSpec) false w args)
      (Rows.spaceFaultsSpec.post enc Tryz.prog Tryz.f5 false true false false) := by
  refine returnsInHanded_of_change_and (C := Tryz.checked) (X := fun w _ => laidMetH Tryz.prog lR w) (fun _ _ _ aD h => h.of_heap aD) own started (by kernel_rfl) Tryz.func5
    (ChangeSpec.witness_shaped (enc := enc) (C := Tryz.checked) (os := os) (X := fun w _ => laidMetH Tryz.prog lR w) false (World.doorLaid Tryz.prog 400 os) #[.int .i64 0, .int .i64 0, .int .i64 0] 8 rfl (World.shaped_of_RefB (by kernel_rfl) (by kernel_rfl)) (by kernel_rfl) (by kernel_rfl) (by kernel_rfl) (Fb os _)) ?_
  intro W base args ds gs before xY nZ _ _ xz _
  have lO : ∀ (j : Nat) t v, Tryz.f5.params[j]? = some t → args[j]? = some v → Value.okWide Tryz.prog W .any base t v := xY
  obtain ⟨p, q, xy, xA, rfl, Cf, db⟩ := nZ
  have qt : DataW.TrodAll enc Tryz.prog W 0 (fun _ => true) true Tryz.f5.params.toList args.toList ds p := xy
  have h6 := qt
  rw [Tryz.params5] at h6 lO
  obtain ⟨v0, vs0, d0, JV, Hk, Ax, KE, rfl, rfl, h0, r0⟩ := trodAll_cons h6
  obtain ⟨v1, yV, d1, JW, g', eA, KF, rfl, rfl, h1, cS⟩ := trodAll_cons r0
  obtain ⟨v2, Bk, d2, adi, gO, gr, ae5, rfl, rfl, ab, dm⟩ := trodAll_cons cS
  obtain ⟨rfl, rfl, rfl⟩ := trodAll_nil dm
  obtain rfl : args = #[v0, v1, v2] := by cases args; simp_all
  obtain ⟨rfl, rfl⟩ := trodVars_none xA
  obtain ⟨gz, rfl, rfl, _, _⟩ := open_int Tryz.underlying3 (lO 0 3 v0 rfl rfl) h0
  obtain ⟨bU, rfl, rfl, _, _⟩ := open_int Tryz.underlying3 (lO 1 3 v1 rfl rfl) h1
  obtain ⟨eY, rfl, rfl, _, _⟩ := open_int Tryz.underlying3 (lO 2 3 v2 rfl rfl) ab
  refine (walk gz bU eY W xz).mono fun e j' ⟨he, aj⟩ => ?_
  subst he
  exact ⟨_, rfl, Hp (bt := 4) qt plain rfl (by kernel_rfl) Tryz.underlying4 ⟨rfl, rfl, rfl⟩ aj⟩

theorem over : Rows.SpaceFaultsSaid :=
  OpenClaim.holds_of_wide 5 Tryz.f5 rfl rfl rfl rfl rfl rfl rfl ⟨rfl, rfl, rfl, rfl, rfl⟩ rfl rfl rfl rfl rfl rh Tryz.func5 closed
    (of_decide_eq_true (by kernel_rfl)) (by unfold Func.isWrapper; first | (rw [if_pos (by decide +kernel)]; kernel_rfl) | (rw [if_neg (by decide +kernel)]; exact ⟨rfl, rfl⟩))
    (fun os started H enc _ => lifted os started H enc)

theorem stand3 : Tryz.prog.wantsStandIn 3 = false := by kernel_rfl

theorem proved : Rows.SpaceFaultsCardSaid :=
  Claim7.holds_tied_plain_at .later [] [.data] true (true, "06c809cf3dd6a07f4563166201490ca0eb765c932b78d3ffd1eecd1398c2f928") false
    over (fun _ h => by cases h) a9 (fun _ h => by cases h) spaceFaults_row_tie rfl ⟨rfl, rfl⟩ GQ rfl
    (fun f fn aJ iD => by
      obtain rfl : f = 5 := Option.some.inj (rh.symm.trans aJ) |>.symm
      obtain rfl : fn = Tryz.f5 := (Option.some.inj (Tryz.func5.symm.trans iD)).symm
      refine ⟨GO, fun j t aW => ?_⟩
      rw [Tryz.params5] at aW
      have hm : t ∈ [3, 3, 3] := by simpa using Array.mem_of_getElem? aW
      obtain rfl : t = 3 := by simpa using hm
      exact stand3)
    w9
#print axioms proved
end Go.Proofs.YtkdjcmpgnkecfaaGreatDoor.spaceFaults
