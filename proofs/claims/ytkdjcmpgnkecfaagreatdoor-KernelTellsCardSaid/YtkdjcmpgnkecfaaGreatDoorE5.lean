/-
  Rows of bytes as one number: reading, writing, joining, cutting.
-/
import Derived.Test.YtkdjcmpgnkecfaaGreatDoorE4
noncomputable section
namespace Go.Ev
set_option linter.unusedVariables false
set_option linter.unusedSimpArgs false

theorem shr_eq (n k : Nat) : n >>> k = n / 2 ^ k := Nat.shiftRight_eq_div_pow n k
theorem shl_eq (n k : Nat) : n <<< k = n * 2 ^ k := Nat.shiftLeft_eq n k
theorem pow_pos2 (k : Nat) : 0 < 2 ^ k := Nat.two_pow_pos k

theorem byteAt_eq (n i : Nat) : byteAt n i = n / 2 ^ (8 * i) % 256 := by unfold byteAt; rw [shr_eq]
theorem byteAt_lt (n i : Nat) : byteAt n i < 256 := by unfold byteAt; exact Nat.mod_lt _ (by decide)

/-- the byte j of y, whatever lies above byte j -/
theorem low_byte (x y j k : Nat) (h : 8 * (j + 1) ≤ k) : (x * 2 ^ k + y) / 2 ^ (8 * j) % 256 = y / 2 ^ (8 * j) % 256 := by
  obtain ⟨d, rfl⟩ : ∃ d, k = 8 * j + (8 + d) := ⟨k - 8 * j - 8, by omega⟩
  have e : x * 2 ^ (8 * j + (8 + d)) = 2 ^ (8 * j) * (256 * (x * 2 ^ d)) := by
    rw [Nat.pow_add, Nat.pow_add]
    have : (2 : Nat) ^ 8 = 256 := by decide
    rw [this]
    ac_rfl
  rw [e, Nat.add_comm, Nat.add_mul_div_left _ _ (pow_pos2 _), Nat.add_mul_mod_self_left]

/-- the byte j of x * 2^k + y behind y -/
theorem high_byte (x y j k : Nat) (hy : y < 2 ^ k) : (x * 2 ^ k + y) / 2 ^ (k + 8 * j) % 256 = x / 2 ^ (8 * j) % 256 := by
  rw [Nat.pow_add, ← Nat.div_div_eq_div_mul, Nat.mul_comm x, Nat.mul_add_div (pow_pos2 _), Nat.div_eq_of_lt hy, Nat.add_zero]

theorem byteAt_join (a b l i : Nat) (ha : a < 2 ^ (8 * l)) : byteAt (a + b <<< (8 * l)) i = if i < l then byteAt a i else byteAt b (i - l) := by
  simp only [byteAt_eq, shl_eq]
  rw [Nat.add_comm]
  by_cases h : i < l
  · rw [if_pos h, low_byte _ _ _ _ (by omega)]
  · rw [if_neg h]
    obtain ⟨j, rfl⟩ : ∃ j, i = l + j := ⟨i - l, by omega⟩
    rw [Nat.mul_add, high_byte _ _ _ _ ha, Nat.add_sub_cancel_left]

theorem byteAt_mod (n l i : Nat) (h : i < l) : byteAt (n % 2 ^ (8 * l)) i = byteAt n i := by
  simp only [byteAt_eq]
  conv => rhs; rw [← Nat.div_add_mod n (2 ^ (8 * l)), Nat.mul_comm]
  rw [low_byte _ _ _ _ (by omega)]

theorem byteAt_shr (n o i : Nat) : byteAt (n >>> (8 * o)) i = byteAt n (o + i) := by
  simp only [byteAt_eq, shr_eq, Nat.div_div_eq_div_mul, ← Nat.pow_add, Nat.mul_add]

theorem byteAt_cut (n o l i : Nat) (h : i < l) : byteAt ((n >>> (8 * o)) % 2 ^ (8 * l)) i = byteAt n (o + i) := by
  rw [byteAt_mod _ _ _ h, byteAt_shr]

theorem cut_lt (n o l : Nat) : (n >>> (8 * o)) % 2 ^ (8 * l) < 2 ^ (8 * l) := Nat.mod_lt _ (pow_pos2 _)

theorem byteAt_put (n o l m i : Nat) (hm : m < 2 ^ (8 * l)) :
    byteAt (n - ((n >>> (8 * o)) % 2 ^ (8 * l)) <<< (8 * o) + m <<< (8 * o)) i = if o ≤ i ∧ i < o + l then byteAt m (i - o) else byteAt n i := by
  simp only [byteAt_eq, shl_eq, shr_eq]
  have hA := pow_pos2 (8 * o)
  have hB := pow_pos2 (8 * l)
  generalize hq : n / 2 ^ (8 * o) / 2 ^ (8 * l) = q
  generalize hr : n / 2 ^ (8 * o) % 2 ^ (8 * l) = r
  generalize hs : n % 2 ^ (8 * o) = s
  have hsl : s < 2 ^ (8 * o) := hs ▸ Nat.mod_lt _ hA
  have hrl : r < 2 ^ (8 * l) := hr ▸ Nat.mod_lt _ hB
  have e1 : n / 2 ^ (8 * o) = q * 2 ^ (8 * l) + r := by rw [← hq, ← hr, Nat.mul_comm (n / 2 ^ (8 * o) / 2 ^ (8 * l))]; exact (Nat.div_add_mod _ _).symm
  have e2 : n = (q * 2 ^ (8 * l) + r) * 2 ^ (8 * o) + s := by rw [← e1, ← hs, Nat.mul_comm (n / 2 ^ (8 * o))]; exact (Nat.div_add_mod _ _).symm
  have e3 : n - r * 2 ^ (8 * o) + m * 2 ^ (8 * o) = (q * 2 ^ (8 * l) + m) * 2 ^ (8 * o) + s := by
    rw [e2, Nat.add_mul, Nat.add_mul]; omega
  rw [e3]
  by_cases h1 : i < o
  · have hn : ¬ (o ≤ i ∧ i < o + l) := by omega
    rw [if_neg hn, e2, low_byte _ _ _ _ (by omega), low_byte _ _ _ _ (by omega)]
  · obtain ⟨j, rfl⟩ : ∃ j, i = o + j := ⟨i - o, by omega⟩
    rw [Nat.mul_add, high_byte _ _ _ _ hsl]
    by_cases h2 : j < l
    · rw [if_pos (by omega), Nat.add_sub_cancel_left, low_byte _ _ _ _ (by omega)]
    · rw [if_neg (by omega)]
      conv => rhs; rw [e2, high_byte _ _ _ _ hsl]
      obtain ⟨k, rfl⟩ : ∃ k, j = l + k := ⟨j - l, by omega⟩
      rw [Nat.mul_add, high_byte _ _ _ _ hm, high_byte _ _ _ _ hrl]

theorem bytesOf_length : ∀ (l n : Nat), (bytesOf l n).length = l
  | 0, _ => rfl
  | l + 1, n => by simp [bytesOf, bytesOf_length l]

theorem bytesOf_get : ∀ (l n i : Nat), (bytesOf l n)[i]? = if i < l then some (UInt8.ofNat (byteAt n i)) else none
  | 0, n, i => by simp [bytesOf]
  | l + 1, n, 0 => by simp [bytesOf, byteAt_eq]
  | l + 1, n, i + 1 => by
    simp only [bytesOf, List.getElem?_cons_succ, bytesOf_get l (n / 256) i]
    have : byteAt (n / 256) i = byteAt n (i + 1) := by
      simp only [byteAt_eq, Nat.div_div_eq_div_mul]
      congr 2
      rw [Nat.mul_add, Nat.add_comm, Nat.pow_add]
    rw [this]
    by_cases h : i < l
    · rw [if_pos h, if_pos (by omega)]
    · rw [if_neg h, if_neg (by omega)]

theorem bytesOf_eq (l a b : Nat) (h : ∀ i, i < l → byteAt a i = byteAt b i) : bytesOf l a = bytesOf l b := by
  apply List.ext_getElem?
  intro i
  rw [bytesOf_get, bytesOf_get]
  by_cases hi : i < l
  · rw [if_pos hi, if_pos hi, h i hi]
  · rw [if_neg hi, if_neg hi]

theorem bytesOf_join (l l' a b : Nat) (ha : a < 2 ^ (8 * l)) : bytesOf (l + l') (a + b <<< (8 * l)) = bytesOf l a ++ bytesOf l' b := by
  apply List.ext_getElem?
  intro i
  rw [bytesOf_get, byteAt_join _ _ _ _ ha]
  by_cases h : i < l
  · rw [if_pos (by omega), if_pos h, List.getElem?_append_left (by rw [bytesOf_length]; exact h), bytesOf_get, if_pos h]
  · rw [List.getElem?_append_right (by rw [bytesOf_length]; omega), bytesOf_get, bytesOf_length, if_neg h]
    by_cases h2 : i < l + l'
    · rw [if_pos h2, if_pos (by omega)]
    · rw [if_neg h2, if_neg (by omega)]

theorem join_lt (l l' a b : Nat) (ha : a < 2 ^ (8 * l)) (hb : b < 2 ^ (8 * l')) : a + b <<< (8 * l) < 2 ^ (8 * (l + l')) := by
  rw [shl_eq, Nat.mul_add, Nat.pow_add]
  have : b + 1 ≤ 2 ^ (8 * l') := hb
  calc a + b * 2 ^ (8 * l) < 2 ^ (8 * l) + b * 2 ^ (8 * l) := by omega
    _ = (b + 1) * 2 ^ (8 * l) := by rw [Nat.add_mul]; omega
    _ ≤ 2 ^ (8 * l') * 2 ^ (8 * l) := Nat.mul_le_mul_right _ this
    _ = 2 ^ (8 * l) * 2 ^ (8 * l') := Nat.mul_comm _ _

theorem bytesOf_cut (l n o k : Nat) (h : o + k ≤ l) : bytesOf k ((n >>> (8 * o)) % 2 ^ (8 * k)) = ((bytesOf l n).drop o).take k := by
  apply List.ext_getElem?
  intro i
  rw [bytesOf_get, List.getElem?_take]
  by_cases hi : i < k
  · rw [if_pos hi, if_pos hi, List.getElem?_drop, bytesOf_get, if_pos (by omega), byteAt_cut _ _ _ _ hi]
  · rw [if_neg hi, if_neg hi]

theorem bytesOf_inj : ∀ (l a b : Nat), a < 2 ^ (8 * l) → b < 2 ^ (8 * l) → bytesOf l a = bytesOf l b → a = b
  | 0, a, b, ha, hb, _ => by simp at ha hb; omega
  | l + 1, a, b, ha, hb, h => by
    simp only [bytesOf, List.cons.injEq] at h
    have e : (2 : Nat) ^ (8 * (l + 1)) = 256 * 2 ^ (8 * l) := by rw [Nat.mul_add, Nat.pow_add]; omega
    rw [e] at ha hb
    have h2 := bytesOf_inj l (a / 256) (b / 256) (by rw [Nat.div_lt_iff_lt_mul (by decide)]; omega) (by rw [Nat.div_lt_iff_lt_mul (by decide)]; omega) h.2
    have h1 : a % 256 = b % 256 := by
      have := congrArg UInt8.toNat h.1
      simpa using this
    omega

theorem encode_lt : ∀ (l : List UInt8), encode l < 2 ^ (8 * l.length)
  | [] => by simp [encode]
  | b :: bs => by
    have ih := encode_lt bs
    have hb := b.toNat_lt
    have e : (2 : Nat) ^ (8 * (bs.length + 1)) = 256 * 2 ^ (8 * bs.length) := by rw [Nat.mul_add, Nat.pow_add]; omega
    simp only [encode, List.length_cons, e]
    omega

theorem bytesOf_encode : ∀ (l : List UInt8), bytesOf l.length (encode l) = l
  | [] => rfl
  | b :: bs => by
    have hb := b.toNat_lt
    have e1 : (b.toNat + 256 * encode bs) % 256 = b.toNat := by omega
    have e2 : (b.toNat + 256 * encode bs) / 256 = encode bs := by omega
    simp only [encode, List.length_cons, bytesOf, e1, e2, bytesOf_encode bs]
    simp

end Go.Ev
