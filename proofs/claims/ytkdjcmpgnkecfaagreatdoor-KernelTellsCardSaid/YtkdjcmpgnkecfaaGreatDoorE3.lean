/-
  How abstract values and memory stand for the model's: the relation, and its first laws.
-/
import Derived.Test.YtkdjcmpgnkecfaaGreatDoorE2
import Derived.Calls
noncomputable section
namespace Go.Ev

/-! ### trees -/
theorem beq_true {a b : Nat} : Nat.beq a b = true ↔ a = b := by rw [Nat.beq_eq]
theorem beq_false {a b : Nat} : Nat.beq a b = false ↔ a ≠ b := by
  rw [← Bool.not_eq_true, beq_true]
theorem blt_true {a b : Nat} : Nat.blt a b = true ↔ a < b := by rw [Nat.blt_eq]
theorem ble_true {a b : Nat} : Nat.ble a b = true ↔ a ≤ b := by rw [Nat.ble_eq]
theorem beq_decide (a b : Nat) : Nat.beq a b = decide (a = b) := by
  cases h : Nat.beq a b
  · exact (decide_eq_false (beq_false.1 h)).symm
  · exact (decide_eq_true (beq_true.1 h)).symm

theorem cond_decide {α : Type} (p : Prop) [Decidable p] (a b : α) : (bif decide p then a else b) = if p then a else b := by
  by_cases h : p <;> simp [h]

namespace Tr
variable {α : Type}
theorem get_nil (j : Nat) : (Tr.nil : Tr α).get j = none := rfl
theorem brec {β : Sort _} (b : Bool) (x y : β) : (Bool.rec x y b : β) = if b = true then y else x := by cases b <;> rfl
theorem get_node (l r : Tr α) (v : Option α) (j : Nat) : (Tr.node l v r).get j = if j = 0 then v else if j % 2 = 1 then l.get (j / 2) else r.get (j / 2 - 1) := by
  have e : (Tr.node l v r).get j = Bool.rec (Bool.rec (r.get (j / 2 - 1)) (l.get (j / 2)) (Nat.beq (j % 2) 1)) v (Nat.beq j 0) := rfl
  rw [e, brec, brec]
  simp only [beq_true]

theorem get_sing : ∀ (d : Nat) (k : Nat) (x : α) (j : Nat), k < d → (sing d k x).get j = if j = k then some x else none := by
  intro d
  induction d with
  | zero => intro k x j h; omega
  | succ d ih =>
    intro k x j h
    have e : sing (d + 1) k x = Bool.rec (Bool.rec (.node .nil none (sing d (k / 2 - 1) x)) (.node (sing d (k / 2) x) none .nil) (Nat.beq (k % 2) 1)) (.node .nil (some x) .nil) (Nat.beq k 0) := rfl
    rw [e, brec, brec]
    simp only [beq_true]
    by_cases hk : k = 0
    · subst hk
      simp only [if_true, get_node, get_nil, ite_self]
    · by_cases hp : k % 2 = 1
      · simp only [hk, hp, if_true, if_false, get_node, get_nil, ih (k / 2) _ _ (by omega)]
        by_cases hj : j = 0
        · simp [hj]; omega
        · by_cases hq : j % 2 = 1
          · have : (j / 2 = k / 2) = (j = k) := by apply propext; omega
            simp [hj, hq, this]
          · have : ¬ j = k := by omega
            simp [hj, hq, this]
      · simp only [hk, hp, if_false, get_node, get_nil, ih (k / 2 - 1) _ _ (by omega)]
        by_cases hj : j = 0
        · simp [hj]; omega
        · by_cases hq : j % 2 = 1
          · have : ¬ j = k := by omega
            simp [hj, hq, this]
          · have : (j / 2 - 1 = k / 2 - 1) = (j = k) := by apply propext; omega
            simp [hj, hq, this]

theorem get_set : ∀ (t : Tr α) (k : Nat) (x : α) (j : Nat), (t.set k x).get j = if j = k then some x else t.get j := by
  intro t
  induction t with
  | nil =>
    intro k x j
    have e : (Tr.nil : Tr α).set k x = sing (k + 1) k x := rfl
    rw [e, get_sing _ _ _ _ (by omega)]
    rfl
  | node l v r ihl ihr =>
    intro k x j
    have e : (Tr.node l v r).set k x = Bool.rec (Bool.rec (.node l v (r.set (k / 2 - 1) x)) (.node (l.set (k / 2) x) v r) (Nat.beq (k % 2) 1)) (.node l (some x) r) (Nat.beq k 0) := rfl
    rw [e, brec, brec]
    simp only [beq_true]
    by_cases hk : k = 0
    · subst hk
      simp only [if_true, get_node]
      by_cases hj : j = 0 <;> simp [hj]
    · by_cases hp : k % 2 = 1
      · simp only [hk, hp, if_true, if_false, get_node, ihl (k / 2)]
        by_cases hj : j = 0
        · simp [hj]; omega
        · by_cases hq : j % 2 = 1
          · have : (j / 2 = k / 2) = (j = k) := by apply propext; omega
            simp [hj, hq, this]
          · have : ¬ j = k := by omega
            simp [hj, hq, this]
      · simp only [hk, hp, if_false, get_node, ihr (k / 2 - 1)]
        by_cases hj : j = 0
        · simp [hj]; omega
        · by_cases hq : j % 2 = 1
          · have : ¬ j = k := by omega
            simp [hj, hq, this]
          · have : (j / 2 - 1 = k / 2 - 1) = (j = k) := by apply propext; omega
            simp [hj, hq, this]

theorem get_ofListFrom : ∀ (l : List α) (i : Nat) (t : Tr α) (j : Nat), (ofListFrom l i t).get j = if i ≤ j ∧ j < i + l.length then l[j - i]? else t.get j := by
  intro l
  induction l with
  | nil => intro i t j; have : ¬ (i ≤ j ∧ j < i) := by omega
           simp [ofListFrom, this]
  | cons x xs ih =>
    intro i t j
    simp only [ofListFrom, ih, get_set, List.length_cons]
    by_cases h1 : i + 1 ≤ j ∧ j < i + 1 + xs.length
    · have h2 : i ≤ j ∧ j < i + (xs.length + 1) := by omega
      rw [if_pos h1, if_pos h2]
      obtain ⟨m, hm⟩ : ∃ m, j - i = m + 1 := ⟨j - i - 1, by omega⟩
      have : j - (i + 1) = m := by omega
      rw [hm, this, List.getElem?_cons_succ]
    · rw [if_neg h1]
      by_cases h3 : j = i
      · have h2 : i ≤ j ∧ j < i + (xs.length + 1) := by omega
        rw [if_pos h3, if_pos h2, h3]
        simp
      · have h2 : ¬ (i ≤ j ∧ j < i + (xs.length + 1)) := by omega
        rw [if_neg h3, if_neg h2]

theorem get_ofList (l : List α) (j : Nat) : (ofList l).get j = l[j]? := by
  unfold ofList
  rw [get_ofListFrom]
  by_cases h : 0 ≤ j ∧ j < 0 + l.length
  · rw [if_pos h]; simp
  · rw [if_neg h, get_nil, List.getElem?_eq_none (by omega)]
end Tr

/-! ### values -/
structure Loc where
  b : Nat
  o : Nat
  room : Nat
abbrev Map := Nat → Option Loc

def bytesOf : Nat → Nat → List UInt8
  | 0, _ => []
  | l + 1, n => UInt8.ofNat (n % 256) :: bytesOf l (n / 256)

mutual
def VRel (σ : Nat → Int) (μ : Map) : AV → Value → Prop
  | .undef, v => v = .tuple #[]
  | .bool b, v => v = .bool b
  | .int k n, v => v = .int k n
  | .sym k e, v => v = .int k (σ e)
  | .str l n, v => n < 2 ^ (8 * l) ∧ v = .string ⟨(bytesOf l n).toArray⟩
  | .nilPtr, v => v = .pointer none
  | .ptr id off, v => ∃ loc, μ id = some loc ∧ v = .pointer (some ⟨loc.b, loc.o + off, none⟩)
  | .nilSlice, v => v = .slice none 0 0
  | .slice id off len cap esz ex, v => ∃ loc a c, μ id = some loc ∧ v = .slice (some a) len c ∧ len ≤ cap ∧ cap ≤ c ∧ (ex = true → c = cap) ∧
      (c ≠ 0 → a = ⟨loc.b, loc.o + off, none⟩) ∧ off + c * esz ≤ loc.room
  | .nilMap, v => v = .map none
  | .map id, v => ∃ loc, μ id = some loc ∧ v = .map (some loc.b)
  | .nilFunc, v => v = .nilFunc
  | .func f a b, v => ∃ x y, v = .func (.func f) x y ∧ VsRel σ μ a x.toList ∧ VsRel σ μ b y.toList
  | .yield id, v => ∃ loc, μ id = some loc ∧ v = .func (.yield loc.b) #[] #[]
  | .nilIface, v => v = .nilIface
  | .iface t x, v => ∃ y, v = .iface t y ∧ VRel σ μ x y
  | .agg cs, v => ∃ vs, v = .agg vs ∧ VsRel σ μ cs vs.toList
  | .tuple cs, v => ∃ vs, v = .tuple vs ∧ VsRel σ μ cs vs.toList
def VsRel (σ : Nat → Int) (μ : Map) : List AV → List Value → Prop
  | [], vs => vs = []
  | a :: as, vs => ∃ v vs', vs = v :: vs' ∧ VRel σ μ a v ∧ VsRel σ μ as vs'
end

def Ext (μ μ' : Map) : Prop := ∀ id loc, μ id = some loc → μ' id = some loc
theorem Ext.refl (μ : Map) : Ext μ μ := fun _ _ h => h
theorem Ext.trans {a b c : Map} (h : Ext a b) (h' : Ext b c) : Ext a c := fun i l x => h' i l (h i l x)

mutual
theorem VRel.ext {σ : Nat → Int} {μ μ' : Map} (h : Ext μ μ') : ∀ (a : AV) (v : Value), VRel σ μ a v → VRel σ μ' a v
  | .undef, _, r => r
  | .bool _, _, r => r
  | .int _ _, _, r => r
  | .sym _ _, _, r => r
  | .str _ _, _, r => r
  | .nilPtr, _, r => r
  | .ptr _ _, _, ⟨loc, hl, r⟩ => ⟨loc, h _ _ hl, r⟩
  | .nilSlice, _, r => r
  | .slice _ _ _ _ _ _, _, ⟨loc, a, c, hl, r⟩ => ⟨loc, a, c, h _ _ hl, r⟩
  | .nilMap, _, r => r
  | .map _, _, ⟨loc, hl, r⟩ => ⟨loc, h _ _ hl, r⟩
  | .nilFunc, _, r => r
  | .func _ a b, _, ⟨x, y, e, p, q⟩ => ⟨x, y, e, VsRel.ext h a _ p, VsRel.ext h b _ q⟩
  | .yield _, _, ⟨loc, hl, r⟩ => ⟨loc, h _ _ hl, r⟩
  | .nilIface, _, r => r
  | .iface _ x, _, ⟨y, e, p⟩ => ⟨y, e, VRel.ext h x _ p⟩
  | .agg cs, _, ⟨vs, e, p⟩ => ⟨vs, e, VsRel.ext h cs _ p⟩
  | .tuple cs, _, ⟨vs, e, p⟩ => ⟨vs, e, VsRel.ext h cs _ p⟩
theorem VsRel.ext {σ : Nat → Int} {μ μ' : Map} (h : Ext μ μ') : ∀ (as : List AV) (vs : List Value), VsRel σ μ as vs → VsRel σ μ' as vs
  | [], _, r => r
  | a :: as, _, ⟨v, vs', e, p, q⟩ => ⟨v, vs', e, VRel.ext h a v p, VsRel.ext h as vs' q⟩
end

section lists
variable {σ : Nat → Int} {μ : Map}
theorem VsRel.nil_iff {vs : List Value} : VsRel σ μ [] vs ↔ vs = [] := Iff.rfl
theorem VsRel.cons_iff {a : AV} {as : List AV} {vs : List Value} : VsRel σ μ (a :: as) vs ↔ ∃ v vs', vs = v :: vs' ∧ VRel σ μ a v ∧ VsRel σ μ as vs' := Iff.rfl
theorem VsRel.length : ∀ {as : List AV} {vs : List Value}, VsRel σ μ as vs → as.length = vs.length
  | [], _, h => by rw [VsRel.nil_iff.1 h]; rfl
  | a :: as, _, ⟨v, vs', e, _, q⟩ => by rw [e, List.length_cons, List.length_cons, VsRel.length q]
theorem VsRel.append : ∀ {as bs : List AV} {vs us : List Value}, VsRel σ μ as vs → VsRel σ μ bs us → VsRel σ μ (as ++ bs) (vs ++ us)
  | [], _, _, _, h, h' => by rw [VsRel.nil_iff.1 h]; exact h'
  | a :: as, _, _, _, ⟨v, vs', e, p, q⟩, h' => by rw [e]; exact ⟨v, _, rfl, p, VsRel.append q h'⟩
theorem VsRel.get : ∀ {as : List AV} {vs : List Value}, VsRel σ μ as vs → ∀ (i : Nat) (a : AV), as[i]? = some a → ∃ v, vs[i]? = some v ∧ VRel σ μ a v
  | [], _, _, i, a, h => by simp at h
  | b :: bs, _, ⟨v, vs', e, p, q⟩, 0, a, h => by simp at h; subst h; exact ⟨v, by rw [e]; rfl, p⟩
  | b :: bs, _, ⟨v, vs', e, p, q⟩, i + 1, a, h => by
    obtain ⟨u, hu, r⟩ := VsRel.get q i a (by simpa using h)
    exact ⟨u, by rw [e]; simpa using hu, r⟩
theorem VsRel.of_get : ∀ {as : List AV} {vs : List Value}, as.length = vs.length → (∀ (i : Nat) (a : AV) (v : Value), as[i]? = some a → vs[i]? = some v → VRel σ μ a v) → VsRel σ μ as vs
  | [], [], _, _ => rfl
  | a :: as, v :: vs, hl, h => ⟨v, vs, rfl, h 0 a v rfl rfl, VsRel.of_get (by simpa using hl) fun i b u hb hu => h (i + 1) b u (by simpa using hb) (by simpa using hu)⟩
theorem VsRel.drop : ∀ {as : List AV} {vs : List Value}, VsRel σ μ as vs → ∀ n, VsRel σ μ (as.drop n) (vs.drop n)
  | as, vs, h, 0 => by simpa using h
  | [], vs, h, n + 1 => by rw [VsRel.nil_iff.1 h]; simp [VsRel.nil_iff]
  | a :: as, _, ⟨v, vs', e, p, q⟩, n + 1 => by rw [e]; simpa using VsRel.drop q n
theorem VsRel.take : ∀ {as : List AV} {vs : List Value}, VsRel σ μ as vs → ∀ n, VsRel σ μ (as.take n) (vs.take n)
  | as, vs, h, 0 => by simp [VsRel.nil_iff]
  | [], vs, h, n + 1 => by rw [VsRel.nil_iff.1 h]; simp [VsRel.nil_iff]
  | a :: as, _, ⟨v, vs', e, p, q⟩, n + 1 => by rw [e]; exact ⟨v, _, rfl, p, VsRel.take q n⟩
end lists

end Go.Ev
