/-
  The known functions are what the program's are: strings.Repeat, stringslite.IndexByte, maps.Keys, slices.Sorted.
-/
import Derived.Test.YtkdjcmpgnkecfaaGreatDoorS1
import Derived.Test.YtkdjcmpgnkecfaaGreatDoorS2
noncomputable section
namespace Go.Proofs.YtkdjcmpgnkecfaaGreatDoor
open Go.Ev Go.RowKit Go.Shelf Go.Maps
set_option linter.unusedVariables false
set_option linter.unusedSimpArgs false

/-! ### stringslite.IndexByte -/
theorem findB_eq (n c : Nat) (hc : c < 256) : ∀ (k i : Nat), findB n c k i = if Lib.indexByte (bytesOf k (n / 256 ^ i)) (UInt8.ofNat c) = -1 then -1 else Lib.indexByte (bytesOf k (n / 256 ^ i)) (UInt8.ofNat c) + i
  | 0, i => by simp [findB, bytesOf, Lib.indexByte]
  | k + 1, i => by
    have e1 : n / 256 ^ i % 256 = byteAt n i := by
      rw [byteAt_eq, show 2 ^ (8 * i) = 256 ^ i by rw [Nat.pow_mul]]
    have e2 : n / 256 ^ i / 256 = n / 256 ^ (i + 1) := by rw [Nat.div_div_eq_div_mul, Nat.pow_succ]
    have e3 : (UInt8.ofNat (byteAt n i) == UInt8.ofNat c) = Nat.beq (byteAt n i) c := by
      rw [Bool.eq_iff_iff, Ev.beq_true, beq_iff_eq]
      constructor
      · intro h
        have := congrArg UInt8.toNat h
        simpa [Nat.mod_eq_of_lt (byteAt_lt n i), Nat.mod_eq_of_lt hc] using this
      · intro h; rw [h]
    unfold findB bytesOf Lib.indexByte
    rw [e1, e2, e3, findB_eq n c hc k (i + 1)]
    have hge := Lib.indexByte_ge (bytesOf k (n / 256 ^ (i + 1))) (UInt8.ofNat c)
    cases Nat.beq (byteAt n i) c with
    | true => simp
    | false =>
      simp only [cond_false, Bool.false_eq_true, if_false, beq_iff_eq]
      by_cases h : Lib.indexByte (bytesOf k (n / 256 ^ (i + 1))) (UInt8.ofNat c) = -1
      · simp [h]
      · rw [if_neg h, if_neg h, if_neg (by omega)]
        omega

theorem fnb425 : Tryz.f425.body = some (Tryz.f425.body.getD .skip) := by kernel_rfl
theorem fne425 (fs : List Fact) : (env fs).fn 425 = some Tryz.f425 := by kernel_rfl
theorem indexByte_ok {fs : List Fact} {σ : Nat → Int} (ok : EnvOk Tryz.prog (env fs) σ) : PrimOk Tryz.prog (env fs) σ 425 indexByteP := by
  intro args h v h' he μ w us hg rel hu
  unfold indexByteP at he
  split at he
  · rename_i l n c
    replace he := bif_some he; obtain ⟨hc, he⟩ := he
    have hc := blt_true.1 hc
    cases he
    obtain ⟨u1, r1, e1, ⟨hn, hs⟩, u2, r2, e2, h2, e3⟩ := hu
    have eu : us = #[.string ⟨(bytesOf l n).toArray⟩, .int .u8 (.ofNat c)] := by
      apply Array.ext'
      rw [e1, e2, e3, hs, h2]
    subst eu
    refine callRel_of_calls ok (fne425 fs) fnb425 rel ((Tryz.stringslite_IndexByte _ _ w).mono fun e w' ⟨h1, h2⟩ => ⟨_, h1, ?_, by subst h2; exact Below.refl _ _⟩)
    have := findB_eq n c hc l 0
    simp only [Nat.pow_zero, Nat.div_one, Int.natCast_zero, Int.add_zero, Int.ofNat_eq_natCast] at this
    show Value.int .i64 _ = .int .i64 (findB n c l 0)
    rw [this]
    congr 1
    have e : (Int.ofNat c).toNat.toUInt8 = UInt8.ofNat c := rfl
    rw [e]
    split <;> simp_all
  · cases he

/-! ### strings.Repeat -/
theorem repN_lt (l n : Nat) (hn : n < 2 ^ (8 * l)) : ∀ k, repN l n k < 2 ^ (8 * (l * k))
  | 0 => by show (0 : Nat) < _; exact Nat.two_pow_pos _
  | k + 1 => by
    have ih := repN_lt l n hn k
    show n + repN l n k <<< (8 * l) < _
    rw [Nat.shiftLeft_eq, Nat.mul_succ, Nat.mul_add, Nat.pow_add]
    have : (repN l n k + 1) * 2 ^ (8 * l) ≤ 2 ^ (8 * (l * k)) * 2 ^ (8 * l) := Nat.mul_le_mul_right _ ih
    rw [Nat.add_mul, Nat.one_mul] at this
    omega
theorem repN_bytes (l n : Nat) (hn : n < 2 ^ (8 * l)) : ∀ k, bytesOf (l * k) (repN l n k) = Lib.repeatL (bytesOf l n) k
  | 0 => rfl
  | k + 1 => by
    show bytesOf (l * (k + 1)) (n + repN l n k <<< (8 * l)) = _
    rw [Nat.mul_succ, Nat.add_comm, bytesOf_join _ _ _ _ hn, repN_bytes l n hn k]
    rfl
theorem fnb296 : Tryz.f296.body = some (Tryz.f296.body.getD .skip) := by kernel_rfl
theorem fne296 (fs : List Fact) : (env fs).fn 296 = some Tryz.f296 := by kernel_rfl
theorem repeat_ok {fs : List Fact} {σ : Nat → Int} (ok : EnvOk Tryz.prog (env fs) σ) : PrimOk Tryz.prog (env fs) σ 296 repeatP := by
  intro args h v h' he μ w us hg rel hu
  unfold repeatP at he
  split at he
  · rename_i l n k
    replace he := bif_some he; obtain ⟨hb, he⟩ := he
    simp only [Bool.and_eq_true] at hb
    have hl := ble_true.1 hb.1
    have hk := ble_true.1 hb.2
    cases he
    obtain ⟨u1, r1, e1, ⟨hn, hs⟩, u2, r2, e2, h2, e3⟩ := hu
    have eu : us = #[.string ⟨(bytesOf l n).toArray⟩, .int .i64 (k : Nat)] := by
      apply Array.ext'
      rw [e1, e2, e3, hs, h2]
      rfl
    subst eu
    have hsz : (⟨(bytesOf l n).toArray⟩ : ByteArray).size = l := by
      show (bytesOf l n).toArray.size = l
      simp [bytesOf_length]
    refine callRel_of_calls ok (fne296 fs) fnb296 rel ((Tryz.strings_Repeat ⟨(bytesOf l n).toArray⟩ k w hk (by rw [hsz]; exact hl)).mono fun e w' ⟨h1, h2⟩ => ⟨_, h1, ?_, h2⟩)
    refine ⟨repN_lt l n hn k, ?_⟩
    rw [repN_bytes l n hn k]
  · cases he

/-! ### maps.Keys -/
theorem inv_of {f : FuncId} {fn : Func} {fs : List Fact} {σ : Nat → Int} (ok : EnvOk Tryz.prog (env fs) σ) (hf : (env fs).fn f = some fn) (hb : fn.body = some (fn.body.getD .skip)) (us : Array Value) (w : World) :
    (inv (.func (.func f) #[] #[]) us).run Tryz.prog w = .ok (.enter f us) w := inv_func ok hf hb us w

theorem fnb173 : Tryz.f173.body = some (Tryz.f173.body.getD .skip) := by kernel_rfl
theorem fne173 (fs : List Fact) : (env fs).fn 173 = some Tryz.f173 := by kernel_rfl
theorem keys_calls (mb : Option Nat) (w : World) : Calls Tryz.prog 173 #[.map mb] w fun e w' => e = .returned (.func (.func 261) #[] #[.pointer (some ⟨w.heap.size, 0, none⟩)]) ∧ w' = w.alloc (.cells #[.map mb] 263) :=
  callsIn_wide.1 (AnyZI.keys_in Tryz.keysA Fence.wide 5 trivial rfl mb w)

theorem keys_ok {fs : List Fact} {σ : Nat → Int} (ok : EnvOk Tryz.prog (env fs) σ) : PrimOk Tryz.prog (env fs) σ 173 keysP := by
  intro args h v h' he μ w us hg rel hu
  unfold keysP at he
  split at he
  · rename_i id
    cases he
    obtain ⟨u1, r1, e1, ⟨loc, hm, hs⟩, e3⟩ := hu
    have eu : us = #[.map (some loc.b)] := by
      apply Array.ext'
      rw [e1, e3, hs]
    subst eu
    refine .inl ⟨173, _, inv_of ok (fne173 fs) fnb173 _ w, fun cs => ?_⟩
    obtain ⟨e, w', fr, ⟨rfl, rfl⟩, h1, h2, h3⟩ := keys_calls (some loc.b) w cs
    have hne : id ≠ h.next := fun e => by rw [e, rel.topμ h.next (Nat.le_refl _)] at hm; cases hm
    have hm' : (μ.upd h.next ⟨w.heap.size, 0, 1⟩) id = some loc := by rw [Map.upd_other _ _ hne]; exact hm
    have mv := rel.new (x := .cells #[.map (some loc.b)] 263) (o := .ro 1 (.node .nil (some (.map id)) .nil)) (room := 1)
      ⟨rfl, #[.map (some loc.b)], 263, (0, 0), rfl, rfl, Nat.le_refl _, (fun e => by cases e), (fun i _ hi => by simp at hi), fun i hi => by
        have : i = 0 := by omega
        subst this
        exact ⟨.map id, .map (some loc.b), rfl, rfl, loc, hm', rfl⟩⟩
    refine ⟨fr, _, _, μ.upd h.next ⟨w.heap.size, 0, 1⟩, h1, h2, h3, ⟨rfl, rfl, rfl⟩, mv, ?_⟩
    exact ⟨#[], #[.pointer (some ⟨w.heap.size, 0, none⟩)], rfl, rfl, _, _, rfl, ⟨⟨w.heap.size, 0, 1⟩, Map.upd_at _ _ _, rfl⟩, rfl⟩
  · cases he
end Go.Proofs.YtkdjcmpgnkecfaaGreatDoor
