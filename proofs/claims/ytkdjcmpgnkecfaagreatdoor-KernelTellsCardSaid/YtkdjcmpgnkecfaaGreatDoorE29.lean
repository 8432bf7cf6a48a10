/-
  Named numbers: what is asked of them, one question after the other; facts of arithmetic.
-/
import Derived.Test.YtkdjcmpgnkecfaaGreatDoorE28
noncomputable section
namespace Go.Ev
set_option linter.unusedVariables false
set_option linter.unusedSimpArgs false

structure Alt where
  facts : List Fact
  sub : List (Nat × Int)

inductive Plan where
  | run
  | ask (q : Nat) (alts : List Plan)

def lookI : List (Nat × Int) → Nat → Option Int
  | [], _ => none
  | (e, n) :: r, f => bif Nat.beq f e then some n else lookI r f
/-- a number: known by now, or by its name -/
def subAV (sub : List (Nat × Int)) (k : IntKind) (e : Nat) : AV := match lookI sub e with
  | some n => .int k n
  | none => .sym k e

mutual
def checkPlan (Q : Nat → List Alt) (run : List Fact → List (Nat × Int) → Bool) : Plan → List Fact → List (Nat × Int) → Bool
  | .run, fs, sub => run fs sub
  | .ask q ps, fs, sub => checkPlans Q run ps (Q q) fs sub
def checkPlans (Q : Nat → List Alt) (run : List Fact → List (Nat × Int) → Bool) : List Plan → List Alt → List Fact → List (Nat × Int) → Bool
  | [], [], _, _ => true
  | p :: ps, a :: as, fs, sub => checkPlan Q run p (a.facts ++ fs) (a.sub ++ sub) && checkPlans Q run ps as fs sub
  | _, _, _, _ => false
end

section
variable {P : Program} {σ : Nat → Int}

def FactsOk (P : Program) (σ : Nat → Int) (fs : List Fact) : Prop := ∀ f, f ∈ fs → f.ok P σ
def SubOk (σ : Nat → Int) (sub : List (Nat × Int)) : Prop := ∀ p, p ∈ sub → σ p.1 = p.2
def Alt.Holds (P : Program) (σ : Nat → Int) (a : Alt) : Prop := FactsOk P σ a.facts ∧ SubOk σ a.sub

mutual
theorem checkPlan_sound {Q : Nat → List Alt} {run : List Fact → List (Nat × Int) → Bool} (hQ : ∀ q, ∃ a, a ∈ Q q ∧ a.Holds P σ) : ∀ (p : Plan) (fs : List Fact) (sub : List (Nat × Int)), checkPlan Q run p fs sub = true →
    FactsOk P σ fs → SubOk σ sub → ∃ fs' sub', FactsOk P σ fs' ∧ SubOk σ sub' ∧ run fs' sub' = true
  | .run, fs, sub, h, h1, h2 => ⟨fs, sub, h1, h2, by simpa only [checkPlan] using h⟩
  | .ask q ps, fs, sub, h, h1, h2 => by
    simp only [checkPlan] at h
    obtain ⟨a, ha, hh⟩ := hQ q
    exact checkPlans_sound hQ ps (Q q) fs sub h h1 h2 a ha hh
theorem checkPlans_sound {Q : Nat → List Alt} {run : List Fact → List (Nat × Int) → Bool} (hQ : ∀ q, ∃ a, a ∈ Q q ∧ a.Holds P σ) : ∀ (ps : List Plan) (as : List Alt) (fs : List Fact) (sub : List (Nat × Int)), checkPlans Q run ps as fs sub = true →
    FactsOk P σ fs → SubOk σ sub → ∀ a, a ∈ as → a.Holds P σ → ∃ fs' sub', FactsOk P σ fs' ∧ SubOk σ sub' ∧ run fs' sub' = true
  | [], [], _, _, _, _, _, a, ha, _ => by cases ha
  | [], _ :: _, _, _, h, _, _, _, _, _ => by simp only [checkPlans] at h; cases h
  | _ :: _, [], _, _, h, _, _, _, _, _ => by simp only [checkPlans] at h; cases h
  | p :: ps, b :: bs, fs, sub, h, h1, h2, a, ha, hh => by
    simp only [checkPlans, Bool.and_eq_true] at h
    rcases List.mem_cons.1 ha with rfl | ha
    · refine checkPlan_sound hQ p _ _ h.1 (fun f hf => ?_) (fun q hq => ?_)
      · rcases List.mem_append.1 hf with hf | hf
        · exact hh.1 f hf
        · exact h1 f hf
      · rcases List.mem_append.1 hq with hq | hq
        · exact hh.2 q hq
        · exact h2 q hq
    · exact checkPlans_sound hQ ps bs fs sub h.2 h1 h2 a ha hh
end

theorem lookI_ok {sub : List (Nat × Int)} (h : SubOk σ sub) {e : Nat} {n : Int} (hl : lookI sub e = some n) : σ e = n := by
  induction sub with
  | nil => cases hl
  | cons p r ih =>
    obtain ⟨f, m⟩ := p
    simp only [lookI] at hl
    cases hb : Nat.beq e f with
    | true =>
      rw [hb] at hl
      cases hl
      have := beq_true.1 hb
      subst this
      exact h (e, n) List.mem_cons_self
    | false => rw [hb] at hl; exact ih (fun q hq => h q (List.mem_cons_of_mem _ hq)) hl

theorem subAV_rel {sub : List (Nat × Int)} (h : SubOk σ sub) (k : IntKind) (e : Nat) {μ : Map} : VRel σ μ (subAV sub k e) (.int k (σ e)) := by
  unfold subAV
  cases hl : lookI sub e with
  | none => rfl
  | some n => rw [lookI_ok h hl]; rfl

/-! ### facts -/
theorem fact_lss {k : IntKind} {x y : SI} {r : Bool} (h : decide (x.val σ < y.val σ) = r) : (Fact.test .lss k x y r).ok P σ := by
  intro t w; subst h; simp [Go.binOp, Op.intCmp]
theorem fact_leq {k : IntKind} {x y : SI} {r : Bool} (h : decide (x.val σ ≤ y.val σ) = r) : (Fact.test .leq k x y r).ok P σ := by
  intro t w; subst h; simp [Go.binOp, Op.intCmp]
theorem fact_gtr {k : IntKind} {x y : SI} {r : Bool} (h : decide (y.val σ < x.val σ) = r) : (Fact.test .gtr k x y r).ok P σ := by
  intro t w; subst h; simp [Go.binOp, Op.intCmp]
theorem fact_geq {k : IntKind} {x y : SI} {r : Bool} (h : decide (y.val σ ≤ x.val σ) = r) : (Fact.test .geq k x y r).ok P σ := by
  intro t w; subst h; simp [Go.binOp, Op.intCmp]
theorem fact_eql {k : IntKind} {x y : SI} {r : Bool} (h : decide (x.val σ = y.val σ) = r) : (Fact.test .eql k x y r).ok P σ := by
  intro t w; subst h; simp [Go.binOp, Op.intCmp]; rw [Bool.eq_iff_iff]; simp
theorem fact_neq {k : IntKind} {x y : SI} {r : Bool} (h : decide (x.val σ ≠ y.val σ) = r) : (Fact.test .neq k x y r).ok P σ := by
  intro t w; subst h; simp [Go.binOp, Op.intCmp]; rw [Bool.eq_iff_iff]; simp
theorem fact_and {k : IntKind} {x y r : SI} (h : andS k (x.val σ) (y.val σ) = r.val σ) : (Fact.num .and k x y r).ok P σ := by
  intro t w; rw [← h, show Go.binOp .and t (.int k (x.val σ)) (.int k (y.val σ)) = Op.intBits .and k (x.val σ) (y.val σ) by simp [Go.binOp]]; rfl
theorem fact_or {k : IntKind} {x y r : SI} (h : orS k (x.val σ) (y.val σ) = r.val σ) : (Fact.num .or k x y r).ok P σ := by
  intro t w; rw [← h, show Go.binOp .or t (.int k (x.val σ)) (.int k (y.val σ)) = Op.intBits .or k (x.val σ) (y.val σ) by simp [Go.binOp]]; rfl
theorem fact_andNot {k : IntKind} {x y r : SI} (h : andNotS k (x.val σ) (y.val σ) = r.val σ) : (Fact.num .andNot k x y r).ok P σ := by
  intro t w; rw [← h, show Go.binOp .andNot t (.int k (x.val σ)) (.int k (y.val σ)) = Op.intBits .andNot k (x.val σ) (y.val σ) by simp [Go.binOp]]; rfl
theorem fact_rem {k : IntKind} {x y r : SI} (h0 : y.val σ ≠ 0) (h : (x.val σ).tmod (y.val σ) = r.val σ) : (Fact.num .rem k x y r).ok P σ := by
  intro t w; rw [← h]; simp [Go.binOp, Op.intDiv, h0]
theorem fact_add {k : IntKind} {x y r : SI} (h : k.wrap (x.val σ + y.val σ) = r.val σ) : (Fact.num .add k x y r).ok P σ := by
  intro t w; rw [← h]; simp [Go.binOp, Op.intArith]

/-! ### bits of an int -/
theorem ofInt_wrap (v : BitVec 64) : BitVec.ofInt 64 (IntKind.i64.wrap (v.toNat : Int)) = v := by
  have e : IntKind.i64.wrap (v.toNat : Int) = v.toInt := by
    simp only [IntKind.wrap, IntKind.bits, IntKind.signed]
    rw [BitVec.toInt_eq_toNat_bmod]
    simp [Int.bmod]
    have := v.isLt
    split <;> split <;> omega
  rw [e, BitVec.ofInt_toInt]

theorem andS_bit (p : Int) (i : Nat) (hi : i < 63) : andS .i64 p (2 ^ i) = 0 ∨ andS .i64 p (2 ^ i) = 2 ^ i := by
  have e : BitVec.ofInt 64 ((2 : Int) ^ i) = BitVec.twoPow 64 i := by
    have : ((2 : Int) ^ i) = ((2 ^ i : Nat) : Int) := by simp
    rw [this, BitVec.ofInt_natCast]
    apply BitVec.eq_of_toNat_eq
    simp [BitVec.toNat_ofNat, BitVec.toNat_twoPow]
  unfold andS
  rw [show IntKind.i64.bits = 64 from rfl, e, BitVec.and_twoPow]
  split
  · right
    rw [BitVec.toNat_twoPow, Nat.mod_eq_of_lt (Nat.pow_lt_pow_right (by decide) (by omega))]
    have h : 2 ^ i < limK .i64 := by
      show 2 ^ i < 2 ^ 63
      exact Nat.pow_lt_pow_right (by decide) hi
    have := wrap_small .i64 (2 ^ i) h
    simpa using this
  · left; rfl
end
end Go.Ev
