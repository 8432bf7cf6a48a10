/-
  The law KernelTells: proved for every call's number and every process number.
-/
import Derived.Test.YtkdjcmpgnkecfaaGreatDoorE29
import Derived.Test.YtkdjcmpgnkecfaaGreatDoorKT1
import Derived.Test.YtkdjcmpgnkecfaaGreatDoorKT2
import Derived.Test.YtkdjcmpgnkecfaaGreatDoorKT3
import Derived.Test.YtkdjcmpgnkecfaaGreatDoorKTF
import Derived.Test.YtkdjcmpgnkecfaaGreatDoorTie
import Derived.Test.YtkdjcmpgnkecfaaGreatDoorCards
import Derived.SevenTiedAt
noncomputable section
namespace Go.Proofs.YtkdjcmpgnkecfaaGreatDoor.kernelTells
open Go.Proofs.YtkdjcmpgnkecfaaGreatDoor Go.Ev Go.ChangeShapes Go.WideShapes Go.ChangeAt Go.RowKit Go.Deep
set_option linter.unusedVariables false

theorem plain : ∀ t, t ∈ Tryz.f13.params.toList → plainT Tryz.prog 3 t = true := by
  rw [Tryz.params13]
  intro t ht
  simp only [List.mem_cons, List.not_mem_nil, or_false] at ht
  rcases ht with rfl | rfl
  all_goals kernel_rfl

theorem fn13' (fs : List Fact) : (env fs).fn 13 = some Tryz.f13 := by kernel_rfl

/-- named numbers: 0 the call, 1 the process -/
def sg (op pid : Int) : Nat → Int := fun n => if n = 0 then op else pid

theorem walk_of {fs : List Fact} {op pid : Int} {a : AV} (hfs : ∀ f, f ∈ fs → f.ok Tryz.prog (sg op pid)) (ha : ∀ μ, VRel (sg op pid) μ a (.int .i64 op)) (h : run fs a = some (.bool true))
    {W : World} (hW : laidMetH Tryz.prog laidL W) : Calls Tryz.prog 13 #[.int .i64 op, .int .i64 pid] W fun e W' => e = .returned (.bool true) ∧ Below W.heap.size W W' := by
  unfold run at h
  cases hr : (fns (env fs) PK 300).call (.func 13 [] []) [a, .sym .i64 1] hL with
  | none => rw [hr] at h; cases h
  | some r =>
    obtain ⟨v, h'⟩ := r
    rw [hr] at h
    simp only [Option.map_some, Option.some.injEq] at h
    subst h
    refine (law_calls_with (σ := sg op pid) hfs pk_ok (fn13' fs) (by kernel_rfl) hr (us := #[.int .i64 op, .int .i64 pid]) (fun μ => ⟨_, _, rfl, ha μ, _, _, rfl, rfl, rfl⟩) hW).mono fun e W' ⟨⟨μ, q, h1, h2⟩, h3⟩ => ⟨by rw [h1, show q = _ from h2], h3⟩

theorem fp1_ok {op pid : Int} (h : pid = 1) : ∀ f, f ∈ fp1 → f.ok Tryz.prog (sg op pid) := by
  intro f hf
  simp only [fp1, List.mem_cons, List.not_mem_nil, or_false] at hf
  subst hf
  exact fact_eql (decide_eq_true h)
theorem fp2_ok {op pid : Int} (h : pid = 2) : ∀ f, f ∈ fp2 → f.ok Tryz.prog (sg op pid) := by
  intro f hf
  simp only [fp2, List.mem_cons, List.not_mem_nil, or_false] at hf
  rcases hf with rfl | rfl
  · exact fact_eql (decide_eq_false (show ¬ pid = 1 by omega))
  · exact fact_eql (decide_eq_true h)
theorem fp3_ok {op pid : Int} (h1 : pid ≠ 1) (h2 : pid ≠ 2) : ∀ f, f ∈ fp3 → f.ok Tryz.prog (sg op pid) := by
  intro f hf
  simp only [fp3, List.mem_cons, List.not_mem_nil, or_false] at hf
  rcases hf with rfl | rfl
  · exact fact_eql (decide_eq_false h1)
  · exact fact_eql (decide_eq_false h2)
theorem fo1_ok {op pid : Int} (h : op < 1) : ∀ f, f ∈ fo1 → f.ok Tryz.prog (sg op pid) := by
  intro f hf
  simp only [fo1, List.mem_cons, List.not_mem_nil, or_false] at hf
  rcases hf with rfl | rfl | rfl | rfl | rfl | rfl | rfl | rfl | rfl | rfl | rfl | rfl
  iterate 11 exact fact_eql (decide_eq_false (fun (e : op = _) => by simp only [SI.val] at e; omega))
  exact fact_geq (decide_eq_false (show ¬ (1 : Int) ≤ op by omega))
theorem fo2_ok {op pid : Int} (h : 11 < op) : ∀ f, f ∈ fo2 → f.ok Tryz.prog (sg op pid) := by
  intro f hf
  simp only [fo2, List.mem_cons, List.not_mem_nil, or_false] at hf
  rcases hf with rfl | rfl | rfl | rfl | rfl | rfl | rfl | rfl | rfl | rfl | rfl | rfl | rfl
  iterate 11 exact fact_eql (decide_eq_false (fun (e : op = _) => by simp only [SI.val] at e; omega))
  · exact fact_geq (decide_eq_true (show (1 : Int) ≤ op by omega))
  · exact fact_leq (decide_eq_false (show ¬ op ≤ 11 by omega))

theorem both {fs gs : List Fact} {σ : Nat → Int} (h1 : ∀ f, f ∈ fs → f.ok Tryz.prog σ) (h2 : ∀ f, f ∈ gs → f.ok Tryz.prog σ) : ∀ f, f ∈ fs ++ gs → f.ok Tryz.prog σ := by
  intro f hf
  rcases List.mem_append.1 hf with h | h
  · exact h1 f h
  · exact h2 f h

theorem walk (op pid : Int) (W : World) (hW : laidMetH Tryz.prog laidL W) : Calls Tryz.prog 13 #[.int .i64 op, .int .i64 pid] W fun e W' => e = .returned (.bool true) ∧ Below W.heap.size W W' := by
  have hop : op = 1 ∨ op = 2 ∨ op = 3 ∨ op = 4 ∨ op = 5 ∨ op = 6 ∨ op = 7 ∨ op = 8 ∨ op = 9 ∨ op = 10 ∨ op = 11 ∨ op < 1 ∨ 11 < op := by omega
  by_cases h1 : pid = 1
  · rcases hop with rfl | rfl | rfl | rfl | rfl | rfl | rfl | rfl | rfl | rfl | rfl | h | h
    · exact walk_of (op := 1) (a := .int .i64 1) (fp1_ok h1) (fun μ => rfl) r1_1 hW
    · exact walk_of (op := 2) (a := .int .i64 2) (fp1_ok h1) (fun μ => rfl) r1_2 hW
    · exact walk_of (op := 3) (a := .int .i64 3) (fp1_ok h1) (fun μ => rfl) r1_3 hW
    · exact walk_of (op := 4) (a := .int .i64 4) (fp1_ok h1) (fun μ => rfl) r1_4 hW
    · exact walk_of (op := 5) (a := .int .i64 5) (fp1_ok h1) (fun μ => rfl) r1_5 hW
    · exact walk_of (op := 6) (a := .int .i64 6) (fp1_ok h1) (fun μ => rfl) r1_6 hW
    · exact walk_of (op := 7) (a := .int .i64 7) (fp1_ok h1) (fun μ => rfl) r1_7 hW
    · exact walk_of (op := 8) (a := .int .i64 8) (fp1_ok h1) (fun μ => rfl) r1_8 hW
    · exact walk_of (op := 9) (a := .int .i64 9) (fp1_ok h1) (fun μ => rfl) r1_9 hW
    · exact walk_of (op := 10) (a := .int .i64 10) (fp1_ok h1) (fun μ => rfl) r1_10 hW
    · exact walk_of (op := 11) (a := .int .i64 11) (fp1_ok h1) (fun μ => rfl) r1_11 hW
    · exact walk_of (a := .sym .i64 0) (both (fo1_ok h) (fp1_ok h1)) (fun μ => rfl) u1_1 hW
    · exact walk_of (a := .sym .i64 0) (both (fo2_ok h) (fp1_ok h1)) (fun μ => rfl) u1_2 hW
  by_cases h2 : pid = 2
  · rcases hop with rfl | rfl | rfl | rfl | rfl | rfl | rfl | rfl | rfl | rfl | rfl | h | h
    · exact walk_of (op := 1) (a := .int .i64 1) (fp2_ok h2) (fun μ => rfl) r2_1 hW
    · exact walk_of (op := 2) (a := .int .i64 2) (fp2_ok h2) (fun μ => rfl) r2_2 hW
    · exact walk_of (op := 3) (a := .int .i64 3) (fp2_ok h2) (fun μ => rfl) r2_3 hW
    · exact walk_of (op := 4) (a := .int .i64 4) (fp2_ok h2) (fun μ => rfl) r2_4 hW
    · exact walk_of (op := 5) (a := .int .i64 5) (fp2_ok h2) (fun μ => rfl) r2_5 hW
    · exact walk_of (op := 6) (a := .int .i64 6) (fp2_ok h2) (fun μ => rfl) r2_6 hW
    · exact walk_of (op := 7) (a := .int .i64 7) (fp2_ok h2) (fun μ => rfl) r2_7 hW
    · exact walk_of (op := 8) (a := .int .i64 8) (fp2_ok h2) (fun μ => rfl) r2_8 hW
    · exact walk_of (op := 9) (a := .int .i64 9) (fp2_ok h2) (fun μ => rfl) r2_9 hW
    · exact walk_of (op := 10) (a := .int .i64 10) (fp2_ok h2) (fun μ => rfl) r2_10 hW
    · exact walk_of (op := 11) (a := .int .i64 11) (fp2_ok h2) (fun μ => rfl) r2_11 hW
    · exact walk_of (a := .sym .i64 0) (both (fo1_ok h) (fp2_ok h2)) (fun μ => rfl) u2_1 hW
    · exact walk_of (a := .sym .i64 0) (both (fo2_ok h) (fp2_ok h2)) (fun μ => rfl) u2_2 hW
  · rcases hop with rfl | rfl | rfl | rfl | rfl | rfl | rfl | rfl | rfl | rfl | rfl | h | h
    · exact walk_of (op := 1) (a := .int .i64 1) (fp3_ok h1 h2) (fun μ => rfl) r3_1 hW
    · exact walk_of (op := 2) (a := .int .i64 2) (fp3_ok h1 h2) (fun μ => rfl) r3_2 hW
    · exact walk_of (op := 3) (a := .int .i64 3) (fp3_ok h1 h2) (fun μ => rfl) r3_3 hW
    · exact walk_of (op := 4) (a := .int .i64 4) (fp3_ok h1 h2) (fun μ => rfl) r3_4 hW
    · exact walk_of (op := 5) (a := .int .i64 5) (fp3_ok h1 h2) (fun μ => rfl) r3_5 hW
    · exact walk_of (op := 6) (a := .int .i64 6) (fp3_ok h1 h2) (fun μ => rfl) r3_6 hW
    · exact walk_of (op := 7) (a := .int .i64 7) (fp3_ok h1 h2) (fun μ => rfl) r3_7 hW
    · exact walk_of (op := 8) (a := .int .i64 8) (fp3_ok h1 h2) (fun μ => rfl) r3_8 hW
    · exact walk_of (op := 9) (a := .int .i64 9) (fp3_ok h1 h2) (fun μ => rfl) r3_9 hW
    · exact walk_of (op := 10) (a := .int .i64 10) (fp3_ok h1 h2) (fun μ => rfl) r3_10 hW
    · exact walk_of (op := 11) (a := .int .i64 11) (fp3_ok h1 h2) (fun μ => rfl) r3_11 hW
    · exact walk_of (a := .sym .i64 0) (both (fo1_ok h) (fp3_ok h1 h2)) (fun μ => rfl) u3_1 hW
    · exact walk_of (a := .sym .i64 0) (both (fo2_ok h) (fp3_ok h1 h2)) (fun μ => rfl) u3_2 hW

set_option maxRecDepth 100000 in
theorem lifted (os : Os) (started : os.Started) (H : Type) (enc : TypeId × Value → H) :
    ReturnsInHanded {} Tryz.checked os 13 .any (fun w args => (Rows.kernelTellsSpec.pre enc Tryz.prog Tryz.f13 [] false w args ∧ laidMetH Tryz.prog laidL w) ∧ sizedMet enc Tryz.prog Tryz.f13 (OpenSpec.ofChange Rows.kernelTellsSpec) false w args)
      (Rows.kernelTellsSpec.post enc Tryz.prog Tryz.f13 false true false false) := by
  refine returnsInHanded_of_change_and (C := Tryz.checked) (X := fun w _ => laidMetH Tryz.prog laidL w) (fun _ _ _ hh h => h.of_heap hh) own started (by kernel_rfl) Tryz.func13
    (ChangeSpec.witness_shaped (enc := enc) (C := Tryz.checked) (os := os) (X := fun w _ => laidMetH Tryz.prog laidL w) false (World.doorLaid Tryz.prog 400 os) #[.int .i64 0, .int .i64 0] 8 rfl (World.shaped_of_RefB (by kernel_rfl) (by kernel_rfl)) (by kernel_rfl) (by kernel_rfl) (by kernel_rfl) (door_met os _)) ?_
  intro W base args ds gs before hval0 hW _ _ hLd _
  have hval : ∀ (j : Nat) t v, Tryz.f13.params[j]? = some t → args[j]? = some v → Value.okWide Tryz.prog W .any base t v := hval0
  obtain ⟨p, q, hA0, hV, rfl, hfz, hnd⟩ := hW
  have hA1 : DataW.TrodAll enc Tryz.prog W 0 (fun _ => true) true Tryz.f13.params.toList args.toList ds p := hA0
  have hA := hA1
  rw [Tryz.params13] at hA hval
  obtain ⟨v0, vs0, d0, ds0, p0, q0, hargs, rfl, rfl, h0, r0⟩ := trodAll_cons hA
  obtain ⟨v1, vs1, d1, ds1, p1, q1, hargs1, rfl, rfl, h1, r1⟩ := trodAll_cons r0
  obtain ⟨rfl, rfl, rfl⟩ := trodAll_nil r1
  obtain rfl : args = #[v0, v1] := by cases args; simp_all
  obtain ⟨rfl, rfl⟩ := trodVars_none hV
  obtain ⟨x0, rfl, rfl, _, _⟩ := open_int Tryz.underlying3 (hval 0 3 v0 rfl rfl) h0
  obtain ⟨x1, rfl, rfl, _, _⟩ := open_int Tryz.underlying3 (hval 1 3 v1 rfl rfl) h1
  refine (walk x0 x1 W hLd).mono fun e W' ⟨he, hb⟩ => ?_
  subst he
  exact ⟨_, rfl, post_plain (bt := 4) hA1 plain rfl (by kernel_rfl) Tryz.underlying4 ⟨rfl, rfl, rfl⟩ hb⟩

theorem over : Rows.KernelTellsSaid :=
  OpenClaim.holds_of_wide 13 Tryz.f13 rfl rfl rfl rfl rfl rfl rfl ⟨rfl, rfl, rfl, rfl, rfl⟩ rfl rfl rfl rfl rfl a11 Tryz.func13 closed
    (of_decide_eq_true (by kernel_rfl)) (by unfold Func.isWrapper; first | (rw [if_pos (by decide +kernel)]; kernel_rfl) | (rw [if_neg (by decide +kernel)]; exact ⟨rfl, rfl⟩))
    (fun os started H enc _ => lifted os started H enc)

theorem stand3 : Tryz.prog.wantsStandIn 3 = false := by kernel_rfl

theorem proved : Rows.KernelTellsCardSaid :=
  Claim7.holds_tied_plain_at .later [] [.data] true (true, "06c809cf3dd6a07f4563166201490ca0eb765c932b78d3ffd1eecd1398c2f928") false
    over (fun _ h => by cases h) a9 (fun _ h => by cases h) kernelTells_row_tie rfl ⟨rfl, rfl⟩ main_is rfl
    (fun f fn hf hfn => by
      obtain rfl : f = 13 := Option.some.inj (a11.symm.trans hf) |>.symm
      obtain rfl : fn = Tryz.f13 := (Option.some.inj (Tryz.func13.symm.trans hfn)).symm
      refine ⟨looks_no, fun j t ht => ?_⟩
      rw [Tryz.params13] at ht
      have hm : t ∈ [3, 3] := by simpa using Array.mem_of_getElem? ht
      obtain rfl : t = 3 := by simpa using hm
      exact stand3)
    a10
#print axioms proved
end Go.Proofs.YtkdjcmpgnkecfaaGreatDoor.kernelTells
