/-
  The laws of numbers: FaultPerms, FaultKinds, FaultShares: the kernel's checks, and the calls.
-/
import Derived.Test.YtbgcdlmcpkapaaaX3
noncomputable section
namespace Go.Proofs.Ytbgcdlmcpkapaaa
open Go.Ev Go.RowKit
set_option linter.unusedVariables false
set_option linter.unusedSimpArgs false

/-! ### bits put in, taken out -/
theorem bv_or_and (x y : BitVec 64) : (x ||| y) &&& y = y := by
  apply BitVec.eq_of_getLsbD_eq
  intro i hi
  simp only [BitVec.getLsbD_and, BitVec.getLsbD_or]
  cases x.getLsbD i <;> cases y.getLsbD i <;> rfl
theorem bv_andNot_and (x y : BitVec 64) : (x &&& ~~~y) &&& y = 0#64 := by
  apply BitVec.eq_of_getLsbD_eq
  intro i hi
  simp only [BitVec.getLsbD_and, BitVec.getLsbD_not, BitVec.getLsbD_zero, hi, decide_true, Bool.true_and]
  cases x.getLsbD i <;> cases y.getLsbD i <;> rfl

theorem or_and (p : Int) (b : Nat) (hb : b < 128) : andS .i64 (orS .i64 p b) b = b := by
  unfold andS orS
  rw [show IntKind.i64.bits = 64 from rfl, ofInt_wrap, bv_or_and, BitVec.ofInt_natCast, BitVec.toNat_ofNat, Nat.mod_eq_of_lt (by omega)]
  exact Go.Ev.wrap_small .i64 b (by simp only [limK]; omega)
theorem andNot_and (p : Int) (b : Nat) : andS .i64 (andNotS .i64 p b) b = 0 := by
  unfold andS andNotS
  rw [show IntKind.i64.bits = 64 from rfl, ofInt_wrap, bv_andNot_and]
  rfl
theorem and_small (p : Int) (b : Nat) (hb : b < 128) : 0 ≤ andS .i64 p b ∧ andS .i64 p b ≤ b := by
  unfold andS
  rw [show IntKind.i64.bits = 64 from rfl, BitVec.ofInt_natCast, BitVec.toNat_and, BitVec.toNat_ofNat, Nat.mod_eq_of_lt (by omega)]
  have h : (BitVec.ofInt 64 p).toNat &&& b ≤ b := Nat.and_le_right
  have := Go.Ev.wrap_small .i64 ((BitVec.ofInt 64 p).toNat &&& b) (by simp only [limK]; omega)
  rw [this]
  omega

noncomputable def bitOf (e : Nat) (b : Int) : List Alt := [⟨[.num .and .i64 (.var e) (.lit b) (.lit 0)], []⟩, ⟨[.num .and .i64 (.var e) (.lit b) (.lit b)], []⟩]
theorem bitOf_holds (σ : Nat → Int) (e i : Nat) (hi : i < 63) : ∃ a, a ∈ bitOf e (2 ^ i) ∧ a.Holds Try.prog σ := by
  rcases andS_bit (σ e) i hi with h | h
  · exact ⟨_, List.mem_cons_self, facts_cons (fact_and h) (facts_nil σ), sub_nil σ⟩
  · exact ⟨_, List.mem_cons_of_mem _ List.mem_cons_self, facts_cons (fact_and h) (facts_nil σ), sub_nil σ⟩

noncomputable def runA (f : FuncId) (args : List (Nat × Int) → List AV) (fs : List Fact) (sub : List (Nat × Int)) : Bool :=
  match (NS fs (primsOf [(9, pure1 awakeG)])).call (.func f [] []) (args sub) AH.none with
  | some (.bool b, _) => b
  | _ => false

/-- a law, by a plan of questions -/
theorem lawA {f : FuncId} {fn : Func} (hfn : ∀ fs, (env fs).fn f = some fn) (hb : fn.body = some (fn.body.getD .skip)) {args : List (Nat × Int) → List AV} {Q : Nat → List Alt} {plan : Plan} {fs0 : List Fact}
    (hc : checkPlan Q (runA f args) plan fs0 [] = true) (σ : Nat → Int) (hQ : ∀ q, ∃ a, a ∈ Q q ∧ a.Holds Try.prog σ) (h0 : FactsOk Try.prog σ fs0) {us : Array Value}
    (hu : ∀ sub, SubOk σ sub → VsRel σ (fun _ => none) (args sub) us.toList) (wd : World) :
    Calls Try.prog f us wd fun e w' => e = .returned (.bool true) ∧ Below wd.heap.size wd w' := by
  obtain ⟨fs, sub, h1, h2, h3⟩ := checkPlan_sound (P := Try.prog) hQ _ _ _ hc h0 (sub_nil σ)
  unfold runA at h3
  split at h3
  · rename_i b h' hcall
    subst h3
    have ok := env_ok fs σ h1
    have pok : PrimsOk Try.prog (env fs) σ (primsOf [(9, pure1 awakeG)]) := prims_cons (awake_ok fs σ h1) prims_nil
    exact (calls_none ok (fns_ok ok pok 60) rfl (hfn fs) hb hcall (w := wd) (hu sub h2)).mono fun e w' ⟨q, μ', a1, a2, a3⟩ => ⟨by rw [a1, show q = _ from a2], a3⟩
  · cases h3

/-! ### FaultPerms -/
noncomputable def argsP (sub : List (Nat × Int)) : List AV := [.sym .i64 0, subAV sub .i64 1]
noncomputable def factsB (b : Int) (e : Nat) : List Fact :=
  [.num .or .i64 (.var 0) (.lit b) (.var e), .num .and .i64 (.var e) (.lit b) (.lit b), .num .andNot .i64 (.var 0) (.lit b) (.var (e + 1)), .num .and .i64 (.var (e + 1)) (.lit b) (.lit 0)]
noncomputable def qsP : Nat → List Alt
  | 0 => [useIs 1, useIs 2, useIs 3, ⟨.test .lss .i64 (.var 1) (.lit 1) true :: useLow.facts, []⟩, ⟨.test .lss .i64 (.var 1) (.lit 1) false :: .test .gtr .i64 (.var 1) (.lit 3) true :: useHigh.facts, []⟩]
  | n => qs n
noncomputable def planP : Plan := .ask 0 [.ask 1 [.run, .run], .ask 2 [.run, .run], .ask 3 [.run, .run], .run, .run]
noncomputable def factsP : List Fact := factsB 4 11 ++ factsB 2 13 ++ factsB 1 15
theorem perms_chk : checkPlan qsP (runA 7 argsP) planP factsP [] = true := by kernel_rfl

noncomputable def numP (p u : Int) : Nat → Int
  | 0 => p | 1 => u | 11 => orS .i64 p 4 | 12 => andNotS .i64 p 4 | 13 => orS .i64 p 2 | 14 => andNotS .i64 p 2 | 15 => orS .i64 p 1 | 16 => andNotS .i64 p 1 | _ => 0

theorem qsP_holds (σ : Nat → Int) : ∀ q, ∃ a, a ∈ qsP q ∧ a.Holds Try.prog σ := by
  intro q
  match q with
  | 0 =>
    obtain ⟨a, ha, hh⟩ := qs_holds σ 0
    simp only [qs, List.mem_cons, List.not_mem_nil, or_false] at ha
    rcases ha with rfl | rfl | rfl | rfl | rfl
    · exact ⟨_, by simp [qsP], hh⟩
    · exact ⟨_, by simp [qsP], hh⟩
    · exact ⟨_, by simp [qsP], hh⟩
    · by_cases h : σ 1 < 1
      · exact ⟨⟨.test .lss .i64 (.var 1) (.lit 1) true :: useLow.facts, []⟩, by simp [qsP], facts_cons (fact_lss (decide_eq_true h)) hh.1, sub_nil σ⟩
      · by_cases h1 : σ 1 = 1
        · exact ⟨useIs 1, by simp [qsP], facts_nil σ, sub_one h1⟩
        by_cases h2 : σ 1 = 2
        · exact ⟨useIs 2, by simp [qsP], facts_nil σ, sub_one h2⟩
        by_cases h3 : σ 1 = 3
        · exact ⟨useIs 3, by simp [qsP], facts_nil σ, sub_one h3⟩
        exact ⟨⟨.test .lss .i64 (.var 1) (.lit 1) false :: .test .gtr .i64 (.var 1) (.lit 3) true :: useHigh.facts, []⟩, by simp [qsP],
          facts_cons (fact_lss (decide_eq_false h)) (facts_cons (fact_gtr (decide_eq_true (show 3 < σ 1 by omega)))
            (facts_cons (fact_gtr (decide_eq_true (show 0 < σ 1 by omega))) (facts_cons (fact_lss (decide_eq_false (show ¬ σ 1 < 4 by omega))) (facts_cons (fact_eql (decide_eq_false h1)) (facts_cons (fact_eql (decide_eq_false h2))
              (facts_cons (fact_eql (decide_eq_false h3)) (facts_nil σ))))))), sub_nil σ⟩
    · by_cases h : σ 1 < 1
      · have h0 : ¬ 0 < σ 1 := by omega
        exact ⟨⟨.test .lss .i64 (.var 1) (.lit 1) true :: useLow.facts, []⟩, by simp [qsP], facts_cons (fact_lss (decide_eq_true h)) (facts_cons (fact_gtr (decide_eq_false h0))
          (facts_cons (fact_eql (decide_eq_false (show ¬ σ 1 = 1 by omega))) (facts_cons (fact_eql (decide_eq_false (show ¬ σ 1 = 2 by omega))) (facts_cons (fact_eql (decide_eq_false (show ¬ σ 1 = 3 by omega))) (facts_nil σ))))), sub_nil σ⟩
      · by_cases h1 : σ 1 = 1
        · exact ⟨useIs 1, by simp [qsP], facts_nil σ, sub_one h1⟩
        by_cases h2 : σ 1 = 2
        · exact ⟨useIs 2, by simp [qsP], facts_nil σ, sub_one h2⟩
        by_cases h3 : σ 1 = 3
        · exact ⟨useIs 3, by simp [qsP], facts_nil σ, sub_one h3⟩
        exact ⟨⟨.test .lss .i64 (.var 1) (.lit 1) false :: .test .gtr .i64 (.var 1) (.lit 3) true :: useHigh.facts, []⟩, by simp [qsP],
          facts_cons (fact_lss (decide_eq_false h)) (facts_cons (fact_gtr (decide_eq_true (show 3 < σ 1 by omega))) hh.1), sub_nil σ⟩
  | n + 1 => exact qs_holds σ (n + 1)

theorem factsP_ok (p u : Int) : FactsOk Try.prog (numP p u) factsP := by
  intro f hf
  have h4 : andS .i64 (orS .i64 p 4) 4 = 4 := or_and p 4 (by decide)
  have h2 : andS .i64 (orS .i64 p 2) 2 = 2 := or_and p 2 (by decide)
  have h1 : andS .i64 (orS .i64 p 1) 1 = 1 := or_and p 1 (by decide)
  have g4 : andS .i64 (andNotS .i64 p 4) 4 = 0 := andNot_and p 4
  have g2 : andS .i64 (andNotS .i64 p 2) 2 = 0 := andNot_and p 2
  have g1 : andS .i64 (andNotS .i64 p 1) 1 = 0 := andNot_and p 1
  simp only [factsP, factsB, List.cons_append, List.nil_append, List.mem_cons, List.not_mem_nil, or_false] at hf
  rcases hf with rfl | rfl | rfl | rfl | rfl | rfl | rfl | rfl | rfl | rfl | rfl | rfl
  · exact fact_or rfl
  · exact fact_and h4
  · exact fact_andNot rfl
  · exact fact_and g4
  · exact fact_or rfl
  · exact fact_and h2
  · exact fact_andNot rfl
  · exact fact_and g2
  · exact fact_or rfl
  · exact fact_and h1
  · exact fact_andNot rfl
  · exact fact_and g1

theorem fn7 (fs : List Fact) : (env fs).fn 7 = some Try.f7 := by kernel_rfl
theorem perms_calls (p u : Int) (wd : World) : Calls Try.prog 7 #[.int .i64 p, .int .i64 u] wd fun e w' => e = .returned (.bool true) ∧ Below wd.heap.size wd w' :=
  lawA fn7 (by kernel_rfl) perms_chk (numP p u) (qsP_holds _) (factsP_ok p u) (fun sub hs => ⟨_, _, rfl, rfl, _, _, rfl, subAV_rel hs .i64 1, rfl⟩) wd

/-! ### FaultKinds -/
noncomputable def argsK (sub : List (Nat × Int)) : List AV := [.sym .i64 0, .sym .i64 1]
noncomputable def remIs (n : Int) : Alt := ⟨[.num .rem .i64 (.var 1) (.lit 4) (.lit n)], []⟩
noncomputable def qsK : Nat → List Alt
  | 0 => [remIs (-3), remIs (-2), remIs (-1), remIs 0, remIs 1, remIs 2, remIs 3]
  | 1 => bitOf 12 2
  | _ => [⟨[], []⟩]
noncomputable def factsK : List Fact := [.num .and .i64 (.var 0) (.lit 7) (.var 11), .num .or .i64 (.var 11) (.lit 4) (.var 12), .num .and .i64 (.var 12) (.lit 4) (.lit 4)]
noncomputable def planK : Plan := .ask 0 [.ask 1 [.run, .run], .ask 1 [.run, .run], .ask 1 [.run, .run], .ask 1 [.run, .run], .ask 1 [.run, .run], .ask 1 [.run, .run], .ask 1 [.run, .run]]
theorem kinds_chk : checkPlan qsK (runA 8 argsK) planK factsK [] = true := by kernel_rfl
noncomputable def numK (p k : Int) : Nat → Int
  | 0 => p | 1 => k | 11 => andS .i64 p 7 | 12 => orS .i64 (andS .i64 p 7) 4 | _ => 0
theorem qsK_holds (σ : Nat → Int) : ∀ q, ∃ a, a ∈ qsK q ∧ a.Holds Try.prog σ := by
  intro q
  match q with
  | 0 =>
    have go : ∀ n : Int, (σ 1).tmod 4 = n → (remIs n).Holds Try.prog σ := fun n hn => ⟨facts_cons (fact_rem (by simp [SI.val]) hn) (facts_nil σ), sub_nil σ⟩
    have h1 : (σ 1).tmod 4 < 4 := Int.tmod_lt_of_pos _ (by decide)
    have h2 : -4 < (σ 1).tmod 4 := Int.lt_tmod_of_pos _ (by decide)
    have : (σ 1).tmod 4 = -3 ∨ (σ 1).tmod 4 = -2 ∨ (σ 1).tmod 4 = -1 ∨ (σ 1).tmod 4 = 0 ∨ (σ 1).tmod 4 = 1 ∨ (σ 1).tmod 4 = 2 ∨ (σ 1).tmod 4 = 3 := by omega
    rcases this with h | h | h | h | h | h | h
    · exact ⟨_, by simp [qsK], go _ h⟩
    · exact ⟨remIs (-2), by simp [qsK], go _ h⟩
    · exact ⟨remIs (-1), by simp [qsK], go _ h⟩
    · exact ⟨remIs 0, by simp [qsK], go _ h⟩
    · exact ⟨remIs 1, by simp [qsK], go _ h⟩
    · exact ⟨remIs 2, by simp [qsK], go _ h⟩
    · exact ⟨remIs 3, by simp [qsK], go _ h⟩
  | 1 => exact bitOf_holds σ 12 1 (by decide)
  | n + 2 => exact ⟨⟨[], []⟩, by simp [qsK], facts_nil σ, sub_nil σ⟩
theorem fn8 (fs : List Fact) : (env fs).fn 8 = some Try.f8 := by kernel_rfl
theorem kinds_calls (p k : Int) (wd : World) : Calls Try.prog 8 #[.int .i64 p, .int .i64 k] wd fun e w' => e = .returned (.bool true) ∧ Below wd.heap.size wd w' :=
  lawA fn8 (by kernel_rfl) kinds_chk (numK p k) (qsK_holds _)
    (facts_cons (fact_and rfl) (facts_cons (fact_or rfl) (facts_cons (fact_and (show andS .i64 (orS .i64 (andS .i64 p 7) 4) 4 = 4 from or_and _ 4 (by decide))) (facts_nil _))))
    (fun sub hs => ⟨_, _, rfl, rfl, _, _, rfl, rfl, rfl⟩) wd

/-! ### FaultShares -/
noncomputable def argsH (b : Bool) (sub : List (Nat × Int)) : List AV := [.agg [.sym .i64 5, .sym .i64 6, .sym .i64 0, .sym .i64 4, .sym .i64 7, .sym .i64 8], .sym .i64 1, .bool b]
noncomputable def qsH : Nat → List Alt
  | 0 => bitOf 11 4
  | _ => [⟨[], []⟩]
noncomputable def factsH : List Fact :=
  [.num .or .i64 (.var 0) (.lit 2) (.var 11), .num .and .i64 (.var 11) (.lit 2) (.lit 2), .num .and .i64 (.var 1) (.lit 255) (.var 12), .num .and .i64 (.var 1) (.lit 15) (.var 13), .num .add .i64 (.lit 2) (.var 13) (.var 14),
   .test .leq .i64 (.var 14) (.lit 1) false]
noncomputable def planH : Plan := .ask 0 [.run, .run]
theorem shares_chk : ∀ b, checkPlan qsH (runA 5 (argsH b)) planH factsH [] = true
  | true => by kernel_rfl
  | false => by kernel_rfl
noncomputable def numH (a0 a1 a4 a5 a6 a7 a8 : Int) : Nat → Int
  | 0 => a0 | 1 => a1 | 4 => a4 | 5 => a5 | 6 => a6 | 7 => a7 | 8 => a8 | 11 => orS .i64 a0 2 | 12 => andS .i64 a1 255 | 13 => andS .i64 a1 15 | 14 => 2 + andS .i64 a1 15 | _ => 0
theorem qsH_holds (σ : Nat → Int) : ∀ q, ∃ a, a ∈ qsH q ∧ a.Holds Try.prog σ := by
  intro q
  match q with
  | 0 => exact bitOf_holds σ 11 2 (by decide)
  | n + 1 => exact ⟨⟨[], []⟩, by simp [qsH], facts_nil σ, sub_nil σ⟩
theorem fn5 (fs : List Fact) : (env fs).fn 5 = some Try.f5 := by kernel_rfl
theorem shares_calls (a0 a1 a4 a5 a6 a7 a8 : Int) (b : Bool) (wd : World) :
    Calls Try.prog 5 #[.agg #[.int .i64 a5, .int .i64 a6, .int .i64 a0, .int .i64 a4, .int .i64 a7, .int .i64 a8], .int .i64 a1, .bool b] wd fun e w' => e = .returned (.bool true) ∧ Below wd.heap.size wd w' := by
  have s1 : 0 ≤ andS .i64 a1 15 := (and_small a1 15 (by decide)).1
  have s2 : andS .i64 a1 15 ≤ 15 := (and_small a1 15 (by decide)).2
  have hw : IntKind.i64.wrap (2 + andS .i64 a1 15) = 2 + andS .i64 a1 15 := by
    obtain ⟨m, hm⟩ : ∃ m : Nat, andS .i64 a1 15 = m := ⟨(andS .i64 a1 15).toNat, by omega⟩
    have e : 2 + andS .i64 a1 15 = ((2 + m : Nat) : Int) := by omega
    rw [e]
    exact Go.Ev.wrap_small .i64 (2 + m) (by simp only [limK]; omega)
  exact lawA fn5 (by kernel_rfl) (shares_chk b) (numH a0 a1 a4 a5 a6 a7 a8) (qsH_holds _)
    (facts_cons (fact_or rfl) (facts_cons (fact_and (show andS .i64 (orS .i64 a0 2) 2 = 2 from or_and _ 2 (by decide))) (facts_cons (fact_and rfl) (facts_cons (fact_and rfl) (facts_cons (fact_add hw)
      (facts_cons (fact_leq (decide_eq_false (show ¬ (2 + andS .i64 a1 15 ≤ 1) by omega))) (facts_nil _)))))))
    (fun sub hs => ⟨_, _, rfl, ⟨_, rfl, _, _, rfl, rfl, _, _, rfl, rfl, _, _, rfl, rfl, _, _, rfl, rfl, _, _, rfl, rfl, _, _, rfl, rfl, rfl⟩, _, _, rfl, rfl, _, _, rfl, rfl, rfl⟩) wd
end Go.Proofs.Ytbgcdlmcpkapaaa
