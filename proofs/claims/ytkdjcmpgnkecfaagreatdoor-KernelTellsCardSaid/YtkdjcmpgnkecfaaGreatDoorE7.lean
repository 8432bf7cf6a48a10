/-
  Operands; numbers and tests; parts of values.
-/
import Derived.Test.YtkdjcmpgnkecfaaGreatDoorE6
noncomputable section
namespace Go.Ev
set_option linter.unusedVariables false
set_option linter.unusedSimpArgs false

/-- what an operand is -/
def opv (tmps : Array Value) : Operand → Value
  | .tmp t => tmps.getD t undef
  | .const v => v
  | .global g => .pointer (some ⟨g, 0, none⟩)
  | .func f => .func (.func f) #[] #[]

theorem eval_opv (fr : Frame) : fr.eval = opv fr.tmps := by
  funext x; cases x <;> rfl

def GRel (E : Env) (μ : Map) : Prop := ∀ g, g < E.ng → ∃ room, μ g = some ⟨g, 0, room⟩

section
variable {P : Program} {E : Env} {σ : Nat → Int} {μ : Map} {h : AH} {w : World} {r : Regs} {tmps : Array Value}

theorem constS_rel {v : Value} {a : AV} (hc : constS v = some a) : VRel σ μ a v := by
  unfold constS at hc
  split at hc <;> first | (cases hc; done) | (cases hc; first | rfl | skip)
  · rename_i s
    exact ⟨encode_lt _, by rw [bytesOf_encode]⟩
  · exact ⟨#[], #[], rfl, rfl, rfl⟩

theorem constL_rel : ∀ {vs : List Value} {as : List AV}, constL vs = some as → VsRel σ μ as vs
  | [], _, hc => by cases hc; rfl
  | v :: vs, as, hc => by
    unfold constL at hc
    split at hc
    · rename_i a l h1 h2
      cases hc
      exact ⟨v, vs, rfl, constS_rel h1, constL_rel h2⟩
    · cases hc

theorem const_rel {v : Value} {a : AV} (hc : constAV v = some a) : VRel σ μ a v := by
  unfold constAV at hc
  split at hc
  · rename_i cs
    split at hc
    · rename_i l hl
      cases hc
      exact ⟨cs, rfl, constL_rel hl⟩
    · cases hc
  · cases hc; rfl
  · exact constS_rel hc

theorem opd_rel (hg : GRel E μ) (hr : ∀ i, VRel σ μ (r.get i) (tmps.getD i undef)) {x : Operand} {v : AV} (he : evalOperand E r x = some v) : VRel σ μ v (opv tmps x) := by
  cases x with
  | tmp t => simp only [evalOperand] at he; cases he; exact hr t
  | const c => exact const_rel he
  | func f => simp only [evalOperand] at he; cases he; exact ⟨#[], #[], rfl, rfl, rfl⟩
  | global g =>
    simp only [evalOperand] at he
    cases hb : Nat.blt g E.ng with
    | false => rw [hb] at he; cases he
    | true =>
      rw [hb] at he
      cases he
      obtain ⟨room, hm⟩ := hg g (blt_true.1 hb)
      exact ⟨_, hm, rfl⟩

theorem opds_rel (hg : GRel E μ) (hr : ∀ i, VRel σ μ (r.get i) (tmps.getD i undef)) : ∀ {xs : List Operand} {vs : List AV}, evalOperands E r xs = some vs → VsRel σ μ vs (xs.map (opv tmps))
  | [], _, he => by cases he; rfl
  | x :: xs, _, he => by
    unfold evalOperands at he
    split at he
    · rename_i v l h1 h2
      cases he
      exact ⟨_, _, rfl, opd_rel hg hr h1, opds_rel hg hr h2⟩
    · cases he

/-! ### numbers -/
theorem leI_eq (a b : Int) : leI a b = decide (a ≤ b) := by
  cases a with
  | ofNat m => cases b with
    | ofNat n => simp only [leI]; rw [Bool.eq_iff_iff, ble_true]; simp
    | negSucc n => simp only [leI]; rw [eq_comm, decide_eq_false_iff_not]; have := Int.negSucc_lt_zero n; have := Int.natCast_nonneg m; simp only [Int.ofNat_eq_natCast]; omega
  | negSucc m => cases b with
    | ofNat n => simp only [leI]; rw [eq_comm, decide_eq_true_iff]; have := Int.negSucc_lt_zero m; have := Int.natCast_nonneg n; simp only [Int.ofNat_eq_natCast]; omega
    | negSucc n => simp only [leI]; rw [Bool.eq_iff_iff, ble_true]; simp only [decide_eq_true_eq, Int.negSucc_eq]; omega

theorem ltI_eq (a b : Int) : ltI a b = decide (a < b) := by
  unfold ltI
  rw [leI_eq, Bool.eq_iff_iff]
  simp

theorem eqI_eq (a b : Int) : eqI a b = (a == b) := by
  rw [Bool.eq_iff_iff]
  cases a with
  | ofNat m => cases b with
    | ofNat n => simp only [eqI, beq_true]; simp only [Int.ofNat_eq_natCast, beq_iff_eq]; omega
    | negSucc n => simp [eqI]
  | negSucc m => cases b with
    | ofNat n => simp [eqI]
    | negSucc n => simp only [eqI, beq_true]; simp

theorem eqI_true {a b : Int} : eqI a b = true ↔ a = b := by rw [eqI_eq]; simp

theorem eqK_true {a b : IntKind} : eqK a b = true ↔ a = b := by cases a <;> cases b <;> simp [eqK]

theorem wrap_small (k : IntKind) (m : Nat) (h : m < limK k) : k.wrap (m : Int) = m := by
  cases k <;> simp only [limK] at h <;> simp only [IntKind.wrap, IntKind.bits, IntKind.signed] <;> simp <;> omega

theorem wrapA_eq (k : IntKind) (n : Int) : wrapA k n = k.wrap n := by
  cases n with
  | ofNat m =>
    simp only [wrapA]
    cases hb : Nat.blt m (limK k) with
    | true => rw [cond_true]; exact (wrap_small k m (blt_true.1 hb)).symm
    | false => rfl
  | negSucc m => rfl

theorem ofInt_small (k : IntKind) (m : Nat) (h : m < limK k) : (BitVec.ofInt k.bits (m : Int)).toNat = m := by
  have hb : m < 2 ^ k.bits := by cases k <;> simp only [limK, IntKind.bits] at h ⊢ <;> omega
  rw [BitVec.ofInt_natCast, BitVec.toNat_ofNat, Nat.mod_eq_of_lt hb]

theorem limK_pow (k : IntKind) : ∃ e, limK k = 2 ^ e := by
  cases k
  · exact ⟨7, by decide⟩
  · exact ⟨15, by decide⟩
  · exact ⟨31, by decide⟩
  · exact ⟨63, by decide⟩
  · exact ⟨8, by decide⟩
  · exact ⟨16, by decide⟩
  · exact ⟨32, by decide⟩
  · exact ⟨64, by decide⟩

theorem andA_eq (k : IntKind) (a b : Int) : andA k a b = andS k a b := by
  unfold andA
  split
  · rename_i m n
    cases hb : (Nat.blt m (limK k) && Nat.blt n (limK k)) with
    | false => rfl
    | true =>
      have h1 := blt_true.1 (and_true2 hb).1
      have h2 := blt_true.1 (and_true2 hb).2
      simp only [cond_true, andS, BitVec.toNat_and, Int.ofNat_eq_natCast, ofInt_small k m h1, ofInt_small k n h2]
      have : m &&& n < limK k := Nat.lt_of_le_of_lt Nat.and_le_left h1
      exact (wrap_small k _ this).symm
  · rfl

theorem orA_eq (k : IntKind) (a b : Int) : orA k a b = orS k a b := by
  unfold orA
  split
  · rename_i m n
    cases hb : (Nat.blt m (limK k) && Nat.blt n (limK k)) with
    | false => rfl
    | true =>
      have h1 := blt_true.1 (and_true2 hb).1
      have h2 := blt_true.1 (and_true2 hb).2
      simp only [cond_true, orS, BitVec.toNat_or, Int.ofNat_eq_natCast, ofInt_small k m h1, ofInt_small k n h2]
      obtain ⟨e, he⟩ := limK_pow k
      have : m ||| n < limK k := by rw [he] at h1 h2 ⊢; exact Nat.or_lt_two_pow h1 h2
      exact (wrap_small k _ this).symm
  · rfl

theorem intBin_sound {op : BinOp} (t : TypeId) {k : IntKind} {a b : Int} {v : AV} (hs : isShift op = false) (hv : intBinA op k a b = some v) (w : World) :
    ∃ x, (Go.binOp op t (.int k a) (.int k b)).run P w = .ok x w ∧ VRel σ μ v x := by
  cases op <;> simp only [intBinA] at hv <;> first | (cases hs; done) | (cases hv; done) | skip
  case add => cases hv; exact ⟨.int k (k.wrap (a + b)), by simp [Go.binOp, Op.intArith], by rw [VRel, wrapA_eq]⟩
  case sub => cases hv; exact ⟨.int k (k.wrap (a - b)), by simp [Go.binOp, Op.intArith], by rw [VRel, wrapA_eq]⟩
  case mul => cases hv; exact ⟨.int k (k.wrap (a * b)), by simp [Go.binOp, Op.intArith], by rw [VRel, wrapA_eq]⟩
  case quo =>
    cases hb : eqI b 0 with
    | true => rw [hb] at hv; cases hv
    | false =>
      rw [hb] at hv; cases hv
      have : ¬ b = 0 := fun e => by rw [e] at hb; cases hb
      exact ⟨.int k (k.wrap (a.tdiv b)), by simp [Go.binOp, Op.intDiv, this], by rw [VRel, wrapA_eq]⟩
  case rem =>
    cases hb : eqI b 0 with
    | true => rw [hb] at hv; cases hv
    | false =>
      rw [hb] at hv; cases hv
      have : ¬ b = 0 := fun e => by rw [e] at hb; cases hb
      exact ⟨.int k (a.tmod b), by simp [Go.binOp, Op.intDiv, this], rfl⟩
  case and => cases hv; exact ⟨.int k (andS k a b), by rw [show Go.binOp .and t (.int k a) (.int k b) = Op.intBits .and k a b by simp [Go.binOp]]; rfl, by rw [VRel, andA_eq]⟩
  case or => cases hv; exact ⟨.int k (orS k a b), by rw [show Go.binOp .or t (.int k a) (.int k b) = Op.intBits .or k a b by simp [Go.binOp]]; rfl, by rw [VRel, orA_eq]⟩
  case xor => cases hv; exact ⟨.int k (xorS k a b), by rw [show Go.binOp .xor t (.int k a) (.int k b) = Op.intBits .xor k a b by simp [Go.binOp]]; rfl, rfl⟩
  case andNot => cases hv; exact ⟨.int k (andNotS k a b), by rw [show Go.binOp .andNot t (.int k a) (.int k b) = Op.intBits .andNot k a b by simp [Go.binOp]]; rfl, rfl⟩
  case eql => cases hv; exact ⟨.bool (a == b), by simp [Go.binOp, Op.intCmp], by rw [VRel, eqI_eq]⟩
  case neq => cases hv; exact ⟨.bool (a != b), by simp [Go.binOp, Op.intCmp], by rw [VRel, eqI_eq]; rfl⟩
  case lss => cases hv; exact ⟨.bool (decide (a < b)), by simp [Go.binOp, Op.intCmp], by rw [VRel, ltI_eq]⟩
  case leq => cases hv; exact ⟨.bool (decide (a ≤ b)), by simp [Go.binOp, Op.intCmp], by rw [VRel, leI_eq]⟩
  case gtr => cases hv; exact ⟨.bool (decide (b < a)), by simp [Go.binOp, Op.intCmp], by rw [VRel, ltI_eq]⟩
  case geq => cases hv; exact ⟨.bool (decide (b ≤ a)), by simp [Go.binOp, Op.intCmp], by rw [VRel, leI_eq]⟩

theorem shift_sound {op : BinOp} (t : TypeId) {k k' : IntKind} {a b : Int} {v : AV} (hv : shiftA op k a b = some v) (w : World) :
    ∃ x, (Go.binOp op t (.int k a) (.int k' b)).run P w = .ok x w ∧ VRel σ μ v x := by
  cases b with
  | negSucc n => cases hv
  | ofNat n =>
    have hn : ¬ ((n : Int) < 0) := by omega
    cases op <;> simp only [shiftA] at hv <;> first | (cases hv; done) | skip
    case shl => cases hv; exact ⟨.int k (k.wrap (a * 2 ^ (min n k.bits))), by simp [Go.binOp, Op.shift, hn], by rw [VRel, wrapA_eq]⟩
    case shr => cases hv; exact ⟨.int k (a.fdiv (2 ^ (min n k.bits))), by simp [Go.binOp, Op.shift, hn], rfl⟩

theorem eqOp_true {a b : BinOp} (he : eqOp a b = true) : a = b := by cases a <;> cases b <;> first | rfl | cases he
theorem SI.beq_true {a b : SI} (he : a.beq b = true) : a = b := by
  cases a <;> cases b <;> first | cases he | skip
  · rw [eqI_true.1 he]
  · rw [Go.Ev.beq_true.1 he]

theorem SI.av_rel (k : IntKind) (x : SI) : VRel σ μ (x.av k) (.int k (x.val σ)) := by cases x <;> rfl

theorem fact_sound {fs : List Fact} {op : BinOp} {k : IntKind} {x y : SI} {v : AV} (hf : ∀ f, f ∈ fs → f.ok P σ) (hv : factOf fs op k x y = some v) (t : TypeId) (w : World) :
    ∃ u, (Go.binOp op t (.int k (x.val σ)) (.int k (y.val σ))).run P w = .ok u w ∧ VRel σ μ v u := by
  induction fs with
  | nil => cases hv
  | cons f fs ih =>
    have ih' := ih fun g hg => hf g (List.mem_cons_of_mem _ hg)
    have h0 := hf f List.mem_cons_self
    cases f with
    | num o j a b c =>
      simp only [factOf] at hv
      cases hb : (eqOp o op && eqK j k && a.beq x && b.beq y) with
      | false => rw [hb] at hv; exact ih' hv
      | true =>
        rw [hb] at hv
        cases hv
        simp only [Bool.and_eq_true] at hb
        obtain ⟨⟨⟨h1, h2⟩, h3⟩, h4⟩ := hb
        have e1 := eqOp_true h1
        have e2 := eqK_true.1 h2
        have e3 := SI.beq_true h3
        have e4 := SI.beq_true h4
        subst e1 e2 e3 e4
        exact ⟨_, h0 t w, SI.av_rel _ _⟩
    | test o j a b c =>
      simp only [factOf] at hv
      cases hb : (eqOp o op && eqK j k && a.beq x && b.beq y) with
      | false => rw [hb] at hv; exact ih' hv
      | true =>
        rw [hb] at hv
        cases hv
        simp only [Bool.and_eq_true] at hb
        obtain ⟨⟨⟨h1, h2⟩, h3⟩, h4⟩ := hb
        have e1 := eqOp_true h1
        have e2 := eqK_true.1 h2
        have e3 := SI.beq_true h3
        have e4 := SI.beq_true h4
        subst e1 e2 e3 e4
        exact ⟨_, h0 t w, rfl⟩
    | fits a j => exact ih' hv

theorem fits_sound {fs : List Fact} {e : Nat} {k : IntKind} (hf : ∀ f, f ∈ fs → f.ok P σ) (hv : fitsOf fs e k = true) : k.wrap (σ e) = σ e := by
  induction fs with
  | nil => cases hv
  | cons f fs ih =>
    have ih' := ih fun g hg => hf g (List.mem_cons_of_mem _ hg)
    have h0 := hf f List.mem_cons_self
    cases f with
    | num o j a b c => exact ih' hv
    | test o j a b c => exact ih' hv
    | fits a j =>
      simp only [fitsOf, Bool.or_eq_true, Bool.and_eq_true] at hv
      rcases hv with ⟨h1, h2⟩ | h
      · have e1 := Go.Ev.beq_true.1 h1
        have e2 := eqK_true.1 h2
        subst e1 e2
        exact h0
      · exact ih' h

/-- a fact that two numbers are, or aren't, one -/
theorem eqFact_sound {k : IntKind} {x y : SI} {b : Bool} (ok : EnvOk P E σ) (hv : eqFact E k x y = some b) : (x.val σ == y.val σ) = b := by
  unfold eqFact at hv
  split at hv
  · rename_i c hf
    cases hv
    obtain ⟨u, hu, hr⟩ := fact_sound (μ := fun _ => none) ok.facts hf 0 default
    have e : u = .bool b := hr
    subst e
    simp only [Go.binOp, Op.intCmp, ne_eq, not_true_eq_false, if_false, Sem.run_pure] at hu
    injection hu with h1 _
    injection h1
  · cases hv

/-! ### parts -/
theorem part_sound (ok : EnvOk P E σ) {t : TypeId} {cs : List AV} {xs : Array Value} {off : Nat} {v : AV} (hc : VsRel σ μ cs xs.toList) (hp : partA E t cs off = some v) (w : World) :
    ∃ x, (part t xs off).run P w = .ok x w ∧ VRel σ μ v x := by
  unfold partA at hp
  split at hp
  · rename_i i ht
    unfold part
    simp only [Sem.run_bind, run_agg ok ht, Result.andThen_ok]
    cases hd : isAggD i.desc with
    | true =>
      rw [hd] at hp
      cases hp
      refine ⟨_, by simp only [if_true, Sem.run_bind, run_size ok ht, Result.andThen_ok, Sem.run_pure]; rfl, ⟨_, rfl, ?_⟩⟩
      have := (hc.drop off).take i.size
      simpa [Array.toList_extract, List.extract_eq_take_drop, Nat.add_sub_cancel_left] using this
    | false =>
      rw [hd] at hp
      obtain ⟨x, hx, hr⟩ := hc.get off v hp
      have hx' : xs[off]? = some x := by simpa using hx
      exact ⟨x, by simp [hx'], hr⟩
  · cases hp

end
end Go.Ev
