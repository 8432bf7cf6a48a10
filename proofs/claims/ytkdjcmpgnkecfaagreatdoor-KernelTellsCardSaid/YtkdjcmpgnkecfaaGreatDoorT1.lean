/-
  A law's call with further known functions; the chapters' examples, that tell true whatever else there is in memory.
-/
import Derived.Test.YtkdjcmpgnkecfaaGreatDoorT0
noncomputable section
namespace Go.Proofs.YtkdjcmpgnkecfaaGreatDoor
open Go.Ev Go.ChangeShapes Go.WideShapes Go.ChangeAt Go.RowKit Go.Deep
set_option linter.unusedVariables false
set_option linter.unusedSimpArgs false

/-- a law's call, where the evaluator has its answer by whichever known functions -/
theorem law_calls_with {p : Prims} {fs : List Fact} {σ : Nat → Int} (hfs : ∀ f, f ∈ fs → f.ok Tryz.prog σ) (pok : EnvOk Tryz.prog (env fs) σ → PrimsOk Tryz.prog (env fs) σ p) {N : Nat} {f : FuncId} {fn : Func} (hfn : (env fs).fn f = some fn) (hb : fn.body = some (fn.body.getD .skip)) {args : List AV} {v : AV} {h' : AH}
    (he : (fns (env fs) p N).call (.func f [] []) args hL = some (v, h')) {us : Array Value} (hu : ∀ μ, VsRel σ μ args us.toList) {W : World} (hL : laidMetH Tryz.prog laidL W) :
    Calls Tryz.prog f us W fun e W' => (∃ μ q, e = .returned q ∧ VRel σ μ v q) ∧ Below W.heap.size W W' := by
  obtain ⟨c, t, hc, hw⟩ := of_laid hL
  have ok := env_ok fs σ hfs
  have rel := rel_hL (σ := σ) hc hw
  refine (calls_at ok (fns_ok ok (pok ok) N) hfn hb he (μ := muL c.size) (w := W) (us := us) (fun g hg => ?_) rel (hu _)).mono fun e W' ⟨q, μ', h1, h2, h3, h4⟩ => ⟨⟨μ', q, h1, h2⟩, below_of_moves h3 h4 ?_⟩
  · have : g = 0 := by
      have : g < 1 := hg
      omega
    subst this
    exact ⟨c.size, rfl⟩
  · rintro b ⟨id, loc, o, hm, ho, hl, _⟩
    obtain ⟨rfl, rfl⟩ := tr_hL id o ho
    cases hl

/-- the table of widths stands there -/
def tabled (t : Tr AV) : Nat → List Int → Bool
  | _, [] => true
  | i, n :: l => (match t.get i with
    | some (.int k m) => eqK k .i64 && eqI m n
    | _ => false) && tabled t (i + 1) l
theorem tabled_ok {t : Tr AV} : ∀ {l : List Int} {i : Nat}, tabled t i l = true → ∀ (j : Nat) (n : Int), l[j]? = some n → t.get (i + j) = some (.int .i64 n)
  | [], _, _, j, n, h => by cases h
  | m :: l, i, ht, j, n, h => by
    simp only [tabled, Bool.and_eq_true] at ht
    obtain ⟨h1, h2⟩ := ht
    cases j with
    | zero =>
      cases h
      split at h1
      · rename_i k m' hg
        simp only [Bool.and_eq_true] at h1
        rw [Nat.add_zero, hg, eqK_true.1 h1.1, eqI_true.1 h1.2]
      · cases h1
    | succ j =>
      have := tabled_ok h2 j n (by simpa using h)
      rw [← this]
      congr 1
      omega

/-- a function without arguments that tells true, where the table of widths lies -/
def trueP : List AV → AH → Option (AV × AH)
  | [], h => match h.get 0 with
    | .ro n t => bif Nat.beq n 10 && tabled t 0 widthL then some (.bool true, h) else none
    | _ => none
  | _, _ => none

theorem rel_hL' {W : World} {c : Array Value} {t : TypeId} {fr : Nat × Nat} {σ : Nat → Int} (hc : W.heap[0]? = some (.cells c t fr)) (hfr : ∀ i, i < c.size → ¬ (fr.1 ≤ i ∧ i < fr.2)) (hw : ∀ (i : Nat) (n : Int), widthL[i]? = some n → c[i]? = some (.int .i64 n)) : HRel σ (muL c.size) hL W.heap where
  obj := fun id loc o hm ho => by
    obtain ⟨rfl, rfl⟩ := tr_hL id o ho
    simp only [muL, if_true, Option.some.injEq] at hm
    subst hm
    have h9 := hw 9 8 rfl
    have hsz : 9 < c.size := (Array.getElem?_eq_some_iff.1 h9).1
    refine ⟨rfl, c, t, fr, hc, by simp, by show 10 ≤ c.size; omega, (fun e => by cases e), hfr, fun i hi => ?_⟩
    have hi' : i < widthL.length := hi
    refine ⟨.int .i64 widthL[i], .int .i64 widthL[i], ?_, ?_, rfl⟩
    · show (bif Nat.blt i 10 then Tr.get (Tr.ofList (widthL.map (AV.int .i64))) i else none) = _
      rw [blt_true.2 hi, Tr.get_ofList, List.getElem?_map, List.getElem?_eq_getElem hi']
      rfl
    · have := hw i widthL[i] (List.getElem?_eq_getElem hi')
      simpa using this
  inj := fun i j l l' hi hj _ _ _ => by
    unfold muL at hi hj
    by_cases h1 : i = 0
    · by_cases h2 : j = 0
      · rw [h1, h2]
      · rw [if_neg h2] at hj; cases hj
    · rw [if_neg h1] at hi; cases hi
  lt := fun id loc hm => by
    unfold muL at hm
    by_cases h1 : id = 0
    · rw [if_pos h1] at hm
      cases hm
      exact (Array.getElem?_eq_some_iff.1 hc).1
    · rw [if_neg h1] at hm; cases hm
  topμ := fun id hid => by
    unfold muL
    rw [if_neg]
    have : 1 ≤ id := hid
    omega
  toph := fun id hid => by
    cases h : hL.tr.get id with
    | none => rfl
    | some o =>
      obtain ⟨rfl, _⟩ := tr_hL id o h
      have : 1 ≤ 0 := hid
      omega

/-- .. what such a function's run says of it as a known function -/
theorem true_ok {f : FuncId} {fn : Func} (hfn : ∀ fs, (env fs).fn f = some fn) (hb : fn.body = some (fn.body.getD .skip)) {N : Nat}
    (he : ((fns (env []) PV N).call (.func f [] []) [] hL).map (·.1) = some (.bool true)) {fs : List Fact} {σ : Nat → Int} (ok : EnvOk Tryz.prog (env fs) σ) : PrimOk Tryz.prog (env fs) σ f trueP := by
  intro args h v h' hp μ w us hg rel hu
  cases hr : (fns (env []) PV N).call (.func f [] []) [] hL with
  | none => rw [hr] at he; cases he
  | some r =>
    obtain ⟨v0, h0⟩ := r
    rw [hr] at he
    simp only [Option.map_some, Option.some.injEq] at he
    subst he
    unfold trueP at hp
    split at hp
    · rename_i hx
      split at hp
      · rename_i n t hget
        replace hp := bif_some hp; obtain ⟨hb2, hp⟩ := hp
        cases hp
        simp only [Bool.and_eq_true] at hb2
        have hn := Ev.beq_true.1 hb2.1
        subst hn
        obtain ⟨room, hm⟩ := hg 0 (by show 0 < 1; omega)
        have ho := AH.get_live (h := h) (id := 0) (by rw [hget]; exact fun e => by cases e)
        rw [hget] at ho
        obtain ⟨_, c, E, fr, hc, hsz, hroom, _, hfr, hcell⟩ := rel.obj 0 _ _ hm ho
        have hw : ∀ (i : Nat) (n : Int), widthL[i]? = some n → c[i]? = some (.int .i64 n) := by
          intro i n hi
          have hi10 : i < 10 := by
            have := (List.getElem?_eq_some_iff.1 hi).1
            simpa [widthL] using this
          obtain ⟨a, y, h1, h2, h3⟩ := hcell i hi10
          have h1' : (bif Nat.blt i 10 then Tr.get t i else none) = some a := h1
          have ht := tabled_ok hb2.2 i n hi
          rw [Nat.zero_add] at ht
          rw [blt_true.2 hi10, cond_true, ht] at h1'
          cases h1'
          rw [show (0 : Nat) + i = i by omega] at h2
          rw [h2, show y = _ from h3]
        have eu : us = #[] := by
          apply Array.ext'
          exact hu
        subst eu
        have ok0 := env_ok [] (fun _ => 0) (fun f hf => by cases hf)
        have rel0 := rel_hL' (σ := fun _ => 0) hc hfr hw
        refine callRel_of_calls ok (hfn fs) hb rel ((calls_at ok0 (fns_ok ok0 (prims_ok ok0) N) (hfn []) hb hr (μ := muL c.size) (w := w) (us := #[]) (fun g hg => ?_) rel0 rfl).mono fun e W' ⟨q, μ', h1, h2, h3, h4⟩ => ⟨q, h1, h2, below_of_moves h3 h4 ?_⟩)
        · have : g = 0 := by
            have : g < 1 := hg
            omega
          subst this
          exact ⟨c.size, rfl⟩
        · rintro b ⟨id, loc, o, hm, ho, hl, _⟩
          obtain ⟨rfl, rfl⟩ := tr_hL id o ho
          cases hl
      · cases hp
    · cases hp
end Go.Proofs.YtkdjcmpgnkecfaaGreatDoor
