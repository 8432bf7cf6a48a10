/-
  The law KernelHeaps: proved for every input.
-/
import Derived.Test.YtkdjcmpgnkecfaaGreatDoorZ8
import Derived.Test.YtkdjcmpgnkecfaaGreatDoorTie
import Derived.Test.YtkdjcmpgnkecfaaGreatDoorCards
import Derived.SevenTiedAt
noncomputable section
namespace Go.Proofs.YtkdjcmpgnkecfaaGreatDoor.kernelHeaps
open Go.Proofs.YtkdjcmpgnkecfaaGreatDoor Go.a6 Go.ChangeShapes Go.WideShapes Go.ChangeAt Go.RowKit Go.Deep
set_option linter.unusedVariables false
set_option linter.unusedSimpArgs false

theorem fn' (fs : List Fact) : (env fs).fn 16 = some Tryz.f16 := by kernel_rfl
/-- the run, where the row lies as it is said -/
theorem walk {a0 : J} {O : bp} {l : a6.Loc} {zs : List Int} {v : Value} (hlen : ∀ h, eW ai h 64 a0 = some (.int .i64 zs.length)) (gP : zs.length < 2 ^ 63)
    (xq : ∀ i z, zs[i]? = some z → ∃ p, eV ai 64 a0 (.int .i64 (i : Nat)) = some p ∧ ∀ h, h.get 1 = O → dJ ai h 3 p = some (.int .i64 z)) {W : World} (pD : laidMetH Tryz.prog sj W)
    (ar : l.b < W.heap.size) (qq : O.live = false ∧ O ≠ .dead) (ah : ∀ n, fg (fun _ => 0) (o1 n l) O l W.heap[l.b]?) (hu : ∀ n, bk (fun _ => 0) (o1 n l) a0 v) : Calls Tryz.prog 16 #[v] W fun e hM => e = .returned (.bool true) ∧ Below W.heap.size W hM := by
  obtain ⟨g, e⟩ := acI hlen gP xq
  obtain ⟨N, gD⟩ := tm.1 e
  exact (acO (fs := []) (σ := fun _ => 0) (fun f aB => by cases aB) agV (fn' []) (by kernel_rfl) gD (us := #[v]) pD ar qq ah fun n => ⟨_, _, rfl, hu n, rfl⟩).mono fun e hM ⟨⟨μ, q, h1, aa⟩, av⟩ => ⟨by rw [h1, show q = _ from aa], av⟩
theorem walk0 {a0 : J} {v : Value} (h : a0 = .bh ∧ v = .slice none 0 0 ∨ ∃ a, a0 = .slice 1 0 0 0 1 false ∧ v = .slice (some a) 0 0) {W : World} (pD : laidMetH Tryz.prog sj W) : Calls Tryz.prog 16 #[v] W fun e hM => e = .returned (.bool true) ∧ Below W.heap.size W hM := by
  obtain ⟨c, t, aA, _⟩ := Qb pD
  refine walk (a0 := a0) (O := .ro 0 .nil) (l := ⟨0, 0, 0⟩) (zs := []) (fun bg => ?_) (by decide) (fun i z h => by simp at h) pD (Array.getElem?_eq_some_iff.1 aA).1 ⟨rfl, fun e => by cases e⟩ (fun n => ⟨fun m h => (by cases h), c, t, (0, 0), aA, fun i U => absurd U (Nat.not_lt_zero _)⟩) fun n => ?_
  · rcases h with ⟨rfl, _⟩ | ⟨a, rfl, _⟩
    · exact ajV bg
    · exact q5 bg 1 0 0 0 1 false
  · rcases h with ⟨rfl, rfl⟩ | ⟨a, rfl, rfl⟩
    · rfl
    · exact ⟨⟨0, 0, 0⟩, a, 0, rfl, rfl, Nat.le_refl _, Nat.le_refl _, fun e => (by cases e), fun e => absurd rfl e, Nat.le_refl _⟩
theorem walk1 {W : World} (pD : laidMetH Tryz.prog sj W) {b off len cap : Nat} {zs : List Int} (aI : zs.length = cap) (ar : len ≤ cap) (Nj : 0 < cap) (hm : cap < 2 ^ 63) (iy : ∀ i, i < zs.length → W.cell? ⟨b, off + i, none⟩ = some (.int .i64 (zs.getD i 0))) :
    Calls Tryz.prog 16 #[.slice (some ⟨b, off, none⟩) len cap] W fun e hM => e = .returned (.bool true) ∧ Below W.heap.size W hM := by
  have af : b < W.heap.size := World.block_lt_of_cell? _ _ (iy 0 (by omega))
  have jE : ∀ i, i < zs.length → (bj.ofList (zs.map (J.int .i64))).get i = some (.int .i64 (zs.getD i 0)) := fun i U => by
    rw [bj.tx, List.getElem?_map, List.getElem?_eq_getElem U, List.getD_eq_getElem?_getD, List.getElem?_eq_getElem U]; rfl
  have qq : ∀ i, i < zs.length → (bp.ro zs.length (bj.ofList (zs.map (J.int .i64)))).cell i = some (.int .i64 (zs.getD i 0)) := fun i U => by
    show (bif Nat.blt i zs.length then _ else none) = _
    rw [a6.c4.2 U]; exact jE i U
  have CX : (zs.take len).length = len := by rw [List.length_take]; omega
  refine walk (a0 := .slice 1 0 len cap 1 false) (O := .ro zs.length (bj.ofList (zs.map (J.int .i64)))) (l := ⟨b, off, cap⟩) (zs := zs.take len) (fun h => by rw [CX]; exact q5 h 1 0 len cap 1 false) (by rw [CX]; omega) (fun i z h => ?_) pD af ⟨rfl, fun e => by cases e⟩ (fun n => ?_) fun n => ?_
  · have U : i < len := by
      have := (List.getElem?_eq_some_iff.1 h).1
      omega
    refine ⟨_, pb U, fun g aE => ?_⟩
    rw [b6, Nat.zero_add]
    unfold bE
    rw [aE, qq i (by omega)]
    rw [List.getElem?_take, if_pos U] at h
    rw [List.getD_eq_getElem?_getD, h]; rfl
  · have h0 := iy 0 (by omega)
    rw [uO] at h0
    split at h0
    · rename_i c E fr zl
      refine ⟨fun m h => ?_, c, E, fr, zl, fun i U => ⟨_, _, qq i U, ?_, rfl⟩⟩
      · rw [jE 0 (by omega)] at h; cases h
      · have h1 := iy i U
        rw [uO, zl] at h1
        exact h1
    · cases h0
  · exact ⟨⟨b, off, cap⟩, ⟨b, off, none⟩, cap, rfl, rfl, ar, Nat.le_refl _, fun e => (by cases e), fun _ => rfl, by show 0 + cap * 1 ≤ cap; omega⟩

set_option maxRecDepth 100000 in
theorem lifted (os : Os) (started : os.Started) (H : Type) (enc : TypeId × Value → H) :
    ReturnsInHanded {} Tryz.checked os 16 .any (fun w args => (Rows.kernelHeapsSpec.pre enc Tryz.prog Tryz.f16 [] false w args ∧ laidMetH Tryz.prog sj w) ∧ sizedMet enc Tryz.prog Tryz.f16 (OpenSpec.ofChange Rows.kernelHeapsSpec) false w args)
      (Rows.kernelHeapsSpec.post enc Tryz.prog Tryz.f16 false true false false) := by
  refine returnsInHanded_of_change_and (C := Tryz.checked) (X := fun w _ => laidMetH Tryz.prog sj w) (fun _ _ _ aC h => h.of_heap aC) own started (by kernel_rfl) Tryz.func16
    (ChangeSpec.witness_shaped (enc := enc) (C := Tryz.checked) (os := os) (X := fun w _ => laidMetH Tryz.prog sj w) false (World.doorLaid Tryz.prog 400 os) #[.slice none 0 0] 8 rfl (World.shaped_of_RefB (by kernel_rfl) (by kernel_rfl)) (by kernel_rfl) (by kernel_rfl) (by kernel_rfl) (XB os _)) ?_
  intro W base args ds gs before abH pD _ _ GI _
  have C0 : ∀ (j : Nat) t v, Tryz.f16.params[j]? = some t → args[j]? = some v → Value.okWide Tryz.prog W .any base t v := abH
  have Nb := pD
  obtain ⟨p, q, Y8, Zf, rfl, CD, cL⟩ := pD
  have Y9 : DataW.TrodAll enc Tryz.prog W 0 (fun _ => true) true Tryz.f16.params.toList args.toList ds p := Y8
  have tz := Y9
  rw [Tryz.params16] at tz C0
  obtain ⟨v0, vs0, d0, alG, Ja, ahd, alR, rfl, rfl, h0, r0⟩ := trodAll_cons tz
  obtain ⟨rfl, rfl, rfl⟩ := trodAll_nil r0
  obtain rfl : args = #[v0] := by cases args; simp_all
  obtain ⟨rfl, rfl⟩ := trodVars_none Zf
  obtain ⟨a0, len, cap, rfl⟩ := okWide_slice Tryz.underlying64 (C0 0 64 v0 rfl rfl)
  have Y6 := h0
  obtain ⟨fuel, aB⟩ := h0
  have bK : ∀ x ∈ Ja, x.block < W.heap.size := fun x ab => by
    refine Nb.lt x ?_
    simpa using ab
  have aA : Calls Tryz.prog 16 #[.slice a0 len cap] W fun e hM => e = .returned (.bool true) ∧ Below W.heap.size W hM := by
    rcases open_ints Tryz.underlying64 Tryz.underlying3 (by kernel_rfl) aB with ⟨m6, ab⟩ | ⟨a, amG, LY, zs, m6, _, ar, hm, aI, ab, iy, amw⟩
    · simp [Value.cells] at m6
      obtain ⟨rfl, rfl, rfl⟩ := m6
      exact walk0 (a0 := .bh) (.inl ⟨rfl, rfl⟩) GI
    · simp [Value.cells] at m6
      obtain ⟨rfl, rfl, rfl⟩ := m6
      simp only [if_true] at aI
      by_cases Nj : len = 0 ∧ cap = 0
      · obtain ⟨rfl, rfl⟩ := Nj
        exact walk0 (a0 := .slice 1 0 0 0 1 false) (.inr ⟨a, rfl, rfl⟩) GI
      · have rV : 0 < cap := by omega
        obtain ⟨b, off, spot⟩ := a
        have abp : spot = none := by simpa [Addr.add] using World.cell?_spot (iy 0 (by omega))
        subst abp
        exact walk1 GI aI ar rV (Nat.lt_of_le_of_lt hm (by decide)) fun i U => by rw [← add_plain]; exact iy i U
  refine aA.mono fun e hM ⟨he, af⟩ => ?_
  subst he
  refine ⟨_, rfl, agY (bt := 4) Nb (pa := Ja ++ []) ?_ rfl (by kernel_rfl) Tryz.underlying4 ⟨rfl, rfl, rfl⟩ af⟩
  rw [Tryz.params16]
  exact trodAll_cons_mk (Below.trod OR (by kernel_rfl) (of_decide_eq_true (by kernel_rfl)) Y6 af bK) trodAll_mk0
theorem over : Rows.KernelHeapsSaid :=
  OpenClaim.holds_of_wide 16 Tryz.f16 rfl rfl rfl rfl rfl rfl rfl ⟨rfl, rfl, rfl, rfl, rfl⟩ rfl rfl rfl rfl rfl Lk Tryz.func16 closed
    (of_decide_eq_true (by kernel_rfl)) (by unfold Func.isWrapper; first | (rw [if_pos (by decide +kernel)]; kernel_rfl) | (rw [if_neg (by decide +kernel)]; exact ⟨rfl, rfl⟩))
    (fun os started H enc _ => lifted os started H enc)

theorem stand3 : Tryz.prog.wantsStandIn 64 = false := by kernel_rfl

theorem proved : Rows.KernelHeapsCardSaid :=
  Claim7.holds_tied_plain_at .later [] [.data] true (true, "06c809cf3dd6a07f4563166201490ca0eb765c932b78d3ffd1eecd1398c2f928") false
    over (fun _ h => by cases h) a9 (fun _ h => by cases h) kernelHeaps_row_tie rfl ⟨rfl, rfl⟩ ae3 rfl
    (fun f fn aB j4 => by
      obtain rfl : f = 16 := Option.some.inj (Lk.symm.trans aB) |>.symm
      obtain rfl : fn = Tryz.f16 := (Option.some.inj (Tryz.func16.symm.trans j4)).symm
      refine ⟨aeT, fun j t aN => ?_⟩
      rw [Tryz.params16] at aN
      have hm : t ∈ [64] := by simpa using Array.mem_of_getElem? aN
      obtain rfl : t = 64 := by simpa using hm
      exact stand3)
    Vp
#print axioms proved
end Go.Proofs.YtkdjcmpgnkecfaaGreatDoor.kernelHeaps
