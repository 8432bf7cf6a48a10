/-
  The chapter's example, and May, as known functions; what may be asked of the numbers.
-/
import Derived.Test.YtbgcdlmcpkapaaaX0
noncomputable section
namespace Go.Proofs.Ytbgcdlmcpkapaaa
open Go.Ev Go.RowKit
set_option linter.unusedVariables false
set_option linter.unusedSimpArgs false

abbrev NS (fs : List Fact) (p : Prims) : Fns := fns (env fs) p 60

noncomputable def awakeG : List AV → Option AV
  | [] => some (.bool true)
  | _ => none

theorem fn9 (fs : List Fact) : (env fs).fn 9 = some Try.f9 := by kernel_rfl
theorem fn10 (fs : List Fact) : (env fs).fn 10 = some Try.f10 := by kernel_rfl

theorem awake_ok (fs : List Fact) (σ : Nat → Int) (h : FactsOk Try.prog σ fs) : PrimOk Try.prog (env fs) σ 9 (pure1 awakeG) := by
  refine pure_ok (env_ok fs σ h) (fn9 fs) (body := (Try.f9.body).getD .skip) (by kernel_rfl) fun args v hv μ us w hu => ?_
  cases args with
  | cons a l => cases hv
  | nil =>
    cases hv
    have eu : us = #[] := Array.toList_eq_nil_iff.1 hu
    subst eu
    have hcall := awake_ev
    cases hc : (fns (env []) (primsOf []) 60).call (.func 9 [] []) [] AH.none with
    | none => rw [hc] at hcall; cases hcall
    | some p =>
      obtain ⟨v, h'⟩ := p
      rw [hc] at hcall
      simp only [Option.map_some, Option.some.injEq] at hcall
      subst hcall
      have ok0 := env_ok [] σ (fun f hf => by cases hf)
      have := calls_none (P := Try.prog) (σ := σ) ok0 (fns_ok ok0 prims_nil 60) rfl (fn9 []) (body := (Try.f9.body).getD .skip) (by kernel_rfl) hc (w := w) (us := #[]) rfl
      exact this.mono fun e w' ⟨q, μ', h1, h2, h3⟩ => ⟨q, h1, h2, h3⟩

/-! ### May -/
noncomputable def mayArg (h w c o : Bool) : AV := .agg [.bool h, .bool w, .bool c, .bool o, .sym .i64 3]
noncomputable def mayIs (h w c o n : Bool) : Bool := (h != o) && n && (!w || !c)
/-- these flags, a number by its name -/
noncomputable def mayG (h w c o m : Bool) : List AV → Option AV
  | [.agg [.bool h', .bool w', .bool c', .bool o', .sym .i64 3]] => bif (h == h') && (w == w') && (c == c') && (o == o') then some (.bool m) else none
  | _ => none

noncomputable def low3 : List Fact := [.test .geq .i64 (.var 3) (.lit 0) false]
noncomputable def high3 : List Fact := [.test .geq .i64 (.var 3) (.lit 0) true, .test .leq .i64 (.var 3) (.lit 1048576) false]
noncomputable def mid3 : List Fact := [.test .geq .i64 (.var 3) (.lit 0) true, .test .leq .i64 (.var 3) (.lit 1048576) true]

noncomputable def bools : List Bool := [true, false]
noncomputable def mayRun (fs : List Fact) (n : Bool) : Bool :=
  bools.all fun h => bools.all fun w => bools.all fun c => bools.all fun o => match (NS fs (primsOf [])).call (.func 10 [] []) [mayArg h w c o] AH.none with
    | some (.bool b, _) => b == mayIs h w c o n
    | _ => false
theorem may_low : mayRun low3 false = true := by kernel_rfl
theorem may_high : mayRun high3 false = true := by kernel_rfl
theorem may_mid : mayRun mid3 true = true := by kernel_rfl

theorem mem_bools (b : Bool) : b ∈ bools := by cases b <;> decide

theorem may_calls {fs : List Fact} {n : Bool} (hr : mayRun fs n = true) (σ : Nat → Int) (h : FactsOk Try.prog σ fs) (a b c d : Bool) {us : Array Value} {μ : Map} (hu : VsRel σ μ [mayArg a b c d] us.toList) (w : World) :
    Calls Try.prog 10 us w fun e w' => e = .returned (.bool (mayIs a b c d n)) ∧ Below w.heap.size w w' := by
  unfold mayRun at hr
  simp only [List.all_eq_true] at hr
  have hr := hr a (mem_bools a) b (mem_bools b) c (mem_bools c) d (mem_bools d)
  have hu' : VsRel σ (fun _ => none) [mayArg a b c d] us.toList := by
    obtain ⟨v, vs, e, ⟨xs, e2, hx⟩, hn⟩ := hu
    obtain ⟨x1, t1, f1, g1, x2, t2, f2, g2, x3, t3, f3, g3, x4, t4, f4, g4, x5, t5, f5, g5, hz⟩ := hx
    exact ⟨v, vs, e, ⟨xs, e2, x1, t1, f1, g1, x2, t2, f2, g2, x3, t3, f3, g3, x4, t4, f4, g4, x5, t5, f5, g5, hz⟩, hn⟩
  split at hr
  · rename_i m h' hc
    have em : m = mayIs a b c d n := by simpa using hr
    subst em
    have ok0 := env_ok fs σ h
    have := calls_none (P := Try.prog) (σ := σ) ok0 (fns_ok ok0 prims_nil 60) rfl (fn10 fs) (body := (Try.f10.body).getD .skip) (by kernel_rfl) hc (w := w) (us := us) hu'
    exact this.mono fun e w' ⟨q, μ', h1, h2, h3⟩ => ⟨by rw [h1, show q = _ from h2], h3⟩
  · cases hr

noncomputable def nOk (σ : Nat → Int) : Bool := decide (0 ≤ σ 3) && decide (σ 3 ≤ 1048576)

theorem may_ok (fs : List Fact) (σ : Nat → Int) (h : FactsOk Try.prog σ fs) (a b c d : Bool) : PrimOk Try.prog (env fs) σ 10 (pure1 (mayG a b c d (mayIs a b c d (nOk σ)))) := by
  refine pure_ok (env_ok fs σ h) (fn10 fs) (body := (Try.f10.body).getD .skip) (by kernel_rfl) fun args v hv μ us w hu => ?_
  unfold mayG at hv
  split at hv
  · rename_i h' w' c' o'
    replace hv := bif_some hv; obtain ⟨hb, hv⟩ := hv
    cases hv
    simp only [Bool.and_eq_true, beq_iff_eq] at hb
    obtain ⟨⟨⟨e1, e2⟩, e3⟩, e4⟩ := hb
    subst e1 e2 e3 e4
    have fin : ∀ {gs : List Fact} {n : Bool}, mayRun gs n = true → FactsOk Try.prog σ gs → n = nOk σ →
        Calls Try.prog 10 us w fun e w' => ∃ q, e = .returned q ∧ VRel σ μ (.bool (mayIs a b c d (nOk σ))) q ∧ Below w.heap.size w w' := by
      intro gs n h1 h2 h3
      subst h3
      exact (may_calls h1 σ h2 a b c d hu w).mono fun e w' ⟨x, y⟩ => ⟨_, x, rfl, y⟩
    by_cases h0 : 0 ≤ σ 3
    · by_cases h1 : σ 3 ≤ 1048576
      · refine fin may_mid (fun f hf => ?_) (by simp [nOk, h0, h1])
        simp only [mid3, List.mem_cons, List.not_mem_nil, or_false] at hf
        rcases hf with rfl | rfl
        · exact fact_geq (decide_eq_true h0)
        · exact fact_leq (decide_eq_true h1)
      · refine fin may_high (fun f hf => ?_) (by simp [nOk, h0, h1])
        simp only [high3, List.mem_cons, List.not_mem_nil, or_false] at hf
        rcases hf with rfl | rfl
        · exact fact_geq (decide_eq_true h0)
        · exact fact_leq (decide_eq_false h1)
    · refine fin may_low (fun f hf => ?_) (by simp [nOk, h0])
      simp only [low3, List.mem_cons, List.not_mem_nil, or_false] at hf
      subst hf
      exact fact_geq (decide_eq_false h0)
  · cases hv

/-! ### what may be asked: use (1), a bit of perm (0), kind (4), shared (2) -/
noncomputable def useIs (n : Int) : Alt := ⟨[], [(1, n)]⟩
noncomputable def useLow : Alt := ⟨[.test .gtr .i64 (.var 1) (.lit 0) false, .test .eql .i64 (.var 1) (.lit 1) false, .test .eql .i64 (.var 1) (.lit 2) false, .test .eql .i64 (.var 1) (.lit 3) false], []⟩
noncomputable def useHigh : Alt := ⟨[.test .gtr .i64 (.var 1) (.lit 0) true, .test .lss .i64 (.var 1) (.lit 4) false, .test .eql .i64 (.var 1) (.lit 1) false, .test .eql .i64 (.var 1) (.lit 2) false,
  .test .eql .i64 (.var 1) (.lit 3) false], []⟩
noncomputable def bitOff (b : Int) : Alt := ⟨[.num .and .i64 (.var 0) (.lit b) (.lit 0)], []⟩
noncomputable def bitOn (b : Int) : Alt := ⟨[.num .and .i64 (.var 0) (.lit b) (.lit b)], []⟩
noncomputable def kindFile : Alt := ⟨[], [(4, 1)]⟩
noncomputable def kindElse : Alt := ⟨[.test .eql .i64 (.var 4) (.lit 1) false], []⟩
noncomputable def few : Alt := ⟨[.test .leq .i64 (.var 2) (.lit 1) true, .test .gtr .i64 (.var 2) (.lit 1) false], []⟩
noncomputable def many : Alt := ⟨[.test .leq .i64 (.var 2) (.lit 1) false, .test .gtr .i64 (.var 2) (.lit 1) true], []⟩

noncomputable def qs : Nat → List Alt
  | 0 => [useIs 1, useIs 2, useIs 3, useLow, useHigh]
  | 1 => [bitOff 4, bitOn 4]
  | 2 => [bitOff 2, bitOn 2]
  | 3 => [bitOff 1, bitOn 1]
  | 4 => [kindFile, kindElse]
  | 5 => [few, many]
  | _ => [⟨[], []⟩]

theorem facts_nil (σ : Nat → Int) : FactsOk Try.prog σ [] := fun f hf => by cases hf
theorem facts_cons {σ : Nat → Int} {f : Fact} {fs : List Fact} (h : f.ok Try.prog σ) (hs : FactsOk Try.prog σ fs) : FactsOk Try.prog σ (f :: fs) := fun g hg => by
  rcases List.mem_cons.1 hg with rfl | hg
  · exact h
  · exact hs g hg
theorem sub_nil (σ : Nat → Int) : SubOk σ [] := fun f hf => by cases hf
theorem sub_one {σ : Nat → Int} {e : Nat} {n : Int} (h : σ e = n) : SubOk σ [(e, n)] := fun p hp => by
  simp only [List.mem_cons, List.not_mem_nil, or_false] at hp
  subst hp
  exact h

theorem bit_holds (σ : Nat → Int) (i : Nat) (hi : i < 63) : ∃ a, a ∈ [bitOff (2 ^ i), bitOn (2 ^ i)] ∧ a.Holds Try.prog σ := by
  rcases andS_bit (σ 0) i hi with h | h
  · exact ⟨bitOff (2 ^ i), by simp, facts_cons (fact_and h) (facts_nil σ), sub_nil σ⟩
  · exact ⟨bitOn (2 ^ i), by simp, facts_cons (fact_and h) (facts_nil σ), sub_nil σ⟩

theorem qs_holds (σ : Nat → Int) : ∀ q, ∃ a, a ∈ qs q ∧ a.Holds Try.prog σ := by
  intro q
  match q with
  | 0 =>
    by_cases h1 : σ 1 = 1
    · exact ⟨useIs 1, by simp [qs], facts_nil σ, sub_one h1⟩
    by_cases h2 : σ 1 = 2
    · exact ⟨useIs 2, by simp [qs], facts_nil σ, sub_one h2⟩
    by_cases h3 : σ 1 = 3
    · exact ⟨useIs 3, by simp [qs], facts_nil σ, sub_one h3⟩
    by_cases h0 : 0 < σ 1
    · exact ⟨useHigh, by simp [qs], facts_cons (fact_gtr (decide_eq_true h0)) (facts_cons (fact_lss (decide_eq_false (show ¬ σ 1 < 4 by omega))) (facts_cons (fact_eql (decide_eq_false h1)) (facts_cons (fact_eql (decide_eq_false h2))
        (facts_cons (fact_eql (decide_eq_false h3)) (facts_nil σ))))), sub_nil σ⟩
    · exact ⟨useLow, by simp [qs], facts_cons (fact_gtr (decide_eq_false h0)) (facts_cons (fact_eql (decide_eq_false h1)) (facts_cons (fact_eql (decide_eq_false h2)) (facts_cons (fact_eql (decide_eq_false h3)) (facts_nil σ)))), sub_nil σ⟩
  | 1 => exact bit_holds σ 2 (by decide)
  | 2 => exact bit_holds σ 1 (by decide)
  | 3 => exact bit_holds σ 0 (by decide)
  | 4 =>
    by_cases h : σ 4 = 1
    · exact ⟨kindFile, by simp [qs], facts_nil σ, sub_one h⟩
    · exact ⟨kindElse, by simp [qs], facts_cons (fact_eql (decide_eq_false h)) (facts_nil σ), sub_nil σ⟩
  | 5 =>
    by_cases h : σ 2 ≤ 1
    · exact ⟨few, by simp [qs], facts_cons (fact_leq (decide_eq_true h)) (facts_cons (fact_gtr (decide_eq_false (show ¬ 1 < σ 2 by omega))) (facts_nil σ)), sub_nil σ⟩
    · exact ⟨many, by simp [qs], facts_cons (fact_leq (decide_eq_false h)) (facts_cons (fact_gtr (decide_eq_true (show 1 < σ 2 by omega))) (facts_nil σ)), sub_nil σ⟩
  | n + 6 => exact ⟨⟨[], []⟩, by simp [qs], facts_nil σ, sub_nil σ⟩
end Go.Proofs.Ytbgcdlmcpkapaaa
