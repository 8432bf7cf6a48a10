/-
  Equality; the operations on two numbers or texts; conversions.
-/
import Derived.Test.YtkdjcmpgnkecfaaGreatDoorE7
import Derived.Laws.StructEq
import Derived.Laws.BytesString
noncomputable section
namespace Go.Ev
set_option linter.unusedVariables false
set_option linter.unusedSimpArgs false

section
variable {P : Program} {E : Env} {σ : Nat → Int} {μ : Map} {h : AH} {w : World} {r : Regs} {tmps : Array Value}

theorem bif_some {α : Type} {c : Bool} {x : Option α} {b : α} (he : (bif c then x else none) = some b) : c = true ∧ x = some b := by
  cases c with
  | true => exact ⟨rfl, he⟩
  | false => cases he
theorem bif_none {α : Type} {c : Bool} {x : Option α} {b : α} (he : (bif c then none else x) = some b) : c = false ∧ x = some b := by
  cases c with
  | true => cases he
  | false => exact ⟨rfl, he⟩

theorem str_eq {l n l' n' : Nat} (h1 : n < 2 ^ (8 * l)) (h2 : n' < 2 ^ (8 * l')) : (bytesOf l n == bytesOf l' n') = (Nat.beq l l' && Nat.beq n n') := by
  rw [Bool.eq_iff_iff]
  simp only [beq_iff_eq, Bool.and_eq_true, beq_true]
  constructor
  · intro e
    have hl : l = l' := by rw [← bytesOf_length l n, ← bytesOf_length l' n', e]
    subst hl
    exact ⟨rfl, bytesOf_inj l n n' h1 h2 e⟩
  · rintro ⟨rfl, rfl⟩; rfl

theorem str_list (l : List UInt8) : (⟨l.toArray⟩ : ByteArray).toList = l := by rw [ByteArray.toList_eq]

theorem quiet_row {o : AObj} (hq : o.quietAddr = true) : ∃ size, o.row = some (size, false) := by
  cases o with
  | cells size st zero t => cases st with
    | false => exact ⟨size, rfl⟩
    | true => cases hq
  | bytes size st n => cases st with
    | false => exact ⟨size, rfl⟩
    | true => cases hq
  | ro size t => cases hq
  | dead => cases hq
  | map _ _ => cases hq
  | loop _ _ _ _ _ _ _ _ => cases hq
  | deferred => cases hq
theorem quiet_live {o : AObj} (hq : o.quietAddr = true) : o.live = true := by
  cases o <;> first | rfl | cases hq

theorem quiet_block (rel : HRel σ μ h w.heap) {id : Nat} {loc : Loc} (hm : μ id = some loc) (hq : (h.get id).quietAddr = true) :
    ∃ c E, w.heap[loc.b]? = some (.cells c E (0, 0)) := by
  obtain ⟨size, hrow⟩ := quiet_row hq
  have hd : h.get id ≠ .dead := fun e => by rw [e] at hq; cases hq
  obtain ⟨c, E, fr, e, _, _, e2, _⟩ := (rel.obj id loc _ hm (AH.get_live hd)).row hrow
  rw [e2 rfl] at e
  exact ⟨c, E, e⟩

theorem sameAddr_sound (rel : HRel σ μ h w.heap) {a b : Nat} {la lb : Loc} {o p : Nat} (hma : μ a = some la) (hmb : μ b = some lb)
    (hqa : (h.get a).quietAddr = true) (hqb : (h.get b).quietAddr = true) :
    (sameAddr ⟨la.b, la.o + o, none⟩ ⟨lb.b, lb.o + p, none⟩).run P w = .ok (Nat.beq a b && Nat.beq o p) w := by
  obtain ⟨ca, Ea, ea⟩ := quiet_block rel hma hqa
  obtain ⟨cb, Eb, eb⟩ := quiet_block rel hmb hqb
  have fa : ∀ o, w.frozen? ⟨la.b, o, none⟩ = false := fun o => by rw [frozen?_eq, ea]; simp
  have fb : ∀ o, w.frozen? ⟨lb.b, o, none⟩ = false := fun o => by rw [frozen?_eq, eb]; simp
  have sa : w.shape? la.b = some (Ea, ca.size) := by simp [World.shape?, ea]
  have sb : w.shape? lb.b = some (Eb, cb.size) := by simp [World.shape?, eb]
  by_cases hab : a = b
  · subst hab
    rw [hma] at hmb
    cases hmb
    have hbb : Nat.beq a a = true := beq_true.2 rfl
    simp only [sameAddr, beq_self_eq_true, if_true, Sem.run_bind, Sem.run_pure, hbb, Bool.true_and]
    congr 1
    rw [Bool.eq_iff_iff, beq_true]
    simp
  · have hne : la.b ≠ lb.b := fun e => by
      have hdb : h.get b ≠ .dead := fun e => by rw [e] at hqb; cases hqb
      refine hab (rel.inj a b la lb hma hmb e (fun x hx => ?_) ?_)
      · have := AH.get_eq hx
        rw [this] at hqa
        exact quiet_live hqa
      · rw [AH.get_live hdb]; simpa using hdb
    have hbb : Nat.beq a b = false := beq_false.2 hab
    have hne' : (la.b == lb.b) = false := by simpa using hne
    simp [sameAddr, hne', hbb, fa, fb, noView, viewAt, sa, sb, mayBeOne, stringish]

theorem eqF_sound (ok : EnvOk P E σ) {d : Nat} {g : TypeId → AV → AV → Option Bool}
    (hg : ∀ t x y b, g t x y = some b → ∀ u v, VRel σ μ x u → VRel σ μ y v → (Op.equalIn d t u v).run P w = .ok b w) :
    ∀ (fs : List Field) (xs ys : List AV) (us vs : Array Value) (b : Bool), (∀ f, f ∈ fs → f.name ≠ "_") → eqFields E g fs xs ys = some b → VsRel σ μ xs us.toList → VsRel σ μ ys vs.toList →
      (Op.eqFields d us vs fs).run P w = .ok b w
  | [], xs, ys, us, vs, b, _, he, _, _ => by
    simp only [eqFields] at he
    cases he
    simp [Op.eqFields]
  | f :: fs, xs, ys, us, vs, b, hn, he, hx, hy => by
    simp only [eqFields] at he
    have hn0 := hn f List.mem_cons_self
    cases h1 : partA E f.type xs f.offset with
    | none => rw [h1] at he; cases he
    | some a =>
      cases h2 : partA E f.type ys f.offset with
      | none => rw [h1, h2] at he; cases he
      | some c =>
        rw [h1, h2] at he
        simp only at he
        obtain ⟨u, hu, ru⟩ := part_sound ok hx h1 w
        obtain ⟨v, hv, rv⟩ := part_sound ok hy h2 w
        cases h3 : g f.type a c with
        | none => rw [h3] at he; cases he
        | some q =>
          rw [h3] at he
          have e3 := hg _ _ _ _ h3 u v ru rv
          simp only [Op.eqFields, ne_eq, hn0, not_false_eq_true, if_true, Sem.run_bind, hu, hv, e3, Result.andThen_ok]
          cases q with
          | false => simp only at he; cases he; simp
          | true =>
            simp only at he
            simp only [Bool.not_true, Bool.false_eq_true, if_false]
            exact eqF_sound ok hg fs xs ys us vs b (fun f hf => hn f (List.mem_cons_of_mem _ hf)) he hx hy

theorem eq_sound (ok : EnvOk P E σ) (rel : HRel σ μ h w.heap) : ∀ (d D : Nat) (t : TypeId) (x y : AV) (b : Bool), d ≤ D → eqA E h d t x y = some b →
    ∀ u v, VRel σ μ x u → VRel σ μ y v → (Op.equalIn D t u v).run P w = .ok b w := by
  intro d
  induction d with
  | zero => intro D t x y b _ he; cases he
  | succ d ih =>
    intro D t x y b hd he u v hu hv
    obtain ⟨D, rfl⟩ : ∃ D', D = D' + 1 := ⟨D - 1, by omega⟩
    simp only [eqA] at he
    cases ht : E.ty t with
    | none => rw [ht] at he; cases he
    | some i =>
      rw [ht] at he
      simp only at he
      have und := (ok.ty t i ht).und
      split at he
      · rename_i hd
        rw [hd] at und
        have eu : u = _ := hu; have ev : v = _ := hv; subst eu ev; cases he
        exact run_equalIn_bool w D t _ _ und
      · rename_i hd
        rw [hd] at und
        have eu : u = _ := hu; have ev : v = _ := hv; subst eu ev
        replace he := bif_some he; obtain ⟨hk, he⟩ := he
        have ek := eqK_true.1 hk
        subst ek
        cases he
        rw [eqI_eq]
        exact run_equalIn_int w D t _ _ _ _ und
      · rename_i hd
        rw [hd] at und
        have eu : u = _ := hu; have ev : v = _ := hv; subst eu ev
        replace he := bif_some he; obtain ⟨hk, he⟩ := he
        have ek := eqK_true.1 hk
        subst ek
        rw [← eqFact_sound ok he]
        exact run_equalIn_int w D t _ _ _ _ und
      · rename_i hd
        rw [hd] at und
        have eu : u = _ := hu; have ev : v = _ := hv; subst eu ev
        replace he := bif_some he; obtain ⟨hk, he⟩ := he
        have ek := eqK_true.1 hk
        subst ek
        rw [← eqFact_sound ok he]
        exact run_equalIn_int w D t _ _ _ _ und
      · rename_i k a k' b' hd
        rw [hd] at und
        have eu : u = _ := hu; have ev : v = _ := hv; subst eu ev
        replace he := bif_some he; obtain ⟨hk, he⟩ := he
        have ek := eqK_true.1 hk
        subst ek
        rw [run_equalIn_int w D t _ _ _ _ und]
        cases hab : Nat.beq a b' with
        | true =>
          rw [hab] at he; cases he
          rw [beq_true.1 hab]
          simp
        | false =>
          rw [hab] at he
          rw [← eqFact_sound ok he]
          rfl
      · rename_i hd
        rw [hd] at und
        obtain ⟨hu1, eu⟩ := hu
        obtain ⟨hv1, ev⟩ := hv
        subst eu ev
        cases he
        rw [run_equalIn_string w D t _ _ und, str_list, str_list, str_eq hu1 hv1]
      · rename_i hd
        rw [hd] at und
        have eu : u = _ := hu; have ev : v = _ := hv; subst eu ev; cases he
        simp [Op.equalIn, run_underlying und]
      · rename_i hd
        rw [hd] at und
        obtain ⟨l, _, ev⟩ := hv
        have eu : u = _ := hu; subst eu ev; cases he
        simp [Op.equalIn, run_underlying und]
      · rename_i hd
        rw [hd] at und
        obtain ⟨l, _, eu⟩ := hu
        have ev : v = _ := hv; subst eu ev; cases he
        simp [Op.equalIn, run_underlying und]
      · rename_i hd
        rw [hd] at und
        obtain ⟨la, hma, eu⟩ := hu
        obtain ⟨lb, hmb, ev⟩ := hv
        subst eu ev
        split at he
        · rename_i ie hie
          replace he := bif_none he; obtain ⟨h0, he⟩ := he
          replace he := bif_some he; obtain ⟨hq, he⟩ := he
          cases he
          have hz : ¬ ie.size = 0 := beq_false.1 h0
          simp [Op.equalIn, run_underlying und, run_size ok hie, hz, sameAddr_sound rel hma hmb (and_true2 hq).1 (and_true2 hq).2]
        · cases he
      · rename_i fs xs ys hd
        rw [hd] at und
        obtain ⟨us, eu, ru⟩ := hu
        obtain ⟨vs, ev, rv⟩ := hv
        subst eu ev
        replace he := bif_some he; obtain ⟨hp, he⟩ := he
        obtain ⟨p1, p2, p3⟩ := (ok.ty t i ht).plain hp
        have hf : P.fieldsOf t = fs := by simp [Program.fieldsOf, und]
        rw [run_equalIn_struct w D t us vs (by rw [hf]; exact und) p1, hf]
        exact eqF_sound ok (fun t' x' y' b' h' u' v' hu' hv' => ih D t' x' y' b' (by omega) h' u' v' hu' hv') fs.toList xs ys us vs b (p3 fs hd) he ru rv
      · rename_i hd
        rw [hd] at und
        have eu : u = _ := hu; have ev : v = _ := hv; subst eu ev; cases he
        simp [Op.equalIn, run_underlying und]
      · rename_i hd
        rw [hd] at und
        obtain ⟨l, a, c, _, ev, _⟩ := hv
        have eu : u = _ := hu; subst eu ev; cases he
        simp [Op.equalIn, run_underlying und]
      · rename_i hd
        rw [hd] at und
        obtain ⟨l, a, c, _, eu, _⟩ := hu
        have ev : v = _ := hv; subst eu ev; cases he
        simp [Op.equalIn, run_underlying und]
      · rename_i hd
        rw [hd] at und
        have eu : u = _ := hu; have ev : v = _ := hv; subst eu ev; cases he
        simp [Op.equalIn, run_underlying und]
      · rename_i hd
        rw [hd] at und
        obtain ⟨l, _, ev⟩ := hv
        have eu : u = _ := hu; subst eu ev; cases he
        simp [Op.equalIn, run_underlying und]
      · rename_i hd
        rw [hd] at und
        obtain ⟨l, _, eu⟩ := hu
        have ev : v = _ := hv; subst eu ev; cases he
        simp [Op.equalIn, run_underlying und]
      · rename_i hd
        rw [hd] at und
        have eu : u = _ := hu; have ev : v = _ := hv; subst eu ev; cases he
        simp [Op.equalIn, run_underlying und]
      · rename_i hd
        rw [hd] at und
        obtain ⟨l, _, ev, _⟩ := hv
        have eu : u = _ := hu; subst eu ev; cases he
        simp [Op.equalIn, run_underlying und]
      · rename_i hd
        rw [hd] at und
        obtain ⟨l, _, eu, _⟩ := hu
        have ev : v = _ := hv; subst eu ev; cases he
        simp [Op.equalIn, run_underlying und]
      · cases he

/-! ### two operands -/
theorem bin_sound (ok : EnvOk P E σ) (rel : HRel σ μ h w.heap) {op : BinOp} {t : TypeId} {x y : AV} {v : AV} (hb : binA E h op t x y = some v) (ox oy : Operand)
    {u z : Value} (hu : VRel σ μ x u) (hz : VRel σ μ y z) :
    ∃ q, (do eqGuard op t ox oy u z; Go.binOp op t u z : Sem Value).run P w = .ok q w ∧ VRel σ μ v q := by
  have gi : ∀ (k k' : IntKind) (a b : Int) (w : World), (eqGuard op t ox oy (.int k a) (.int k' b)).run P w = .ok () w := fun k k' a b w => by cases op <;> simp [eqGuard]
  unfold binA at hb
  split at hb
  · rename_i k a k' b
    have eu : u = _ := hu; have ez : z = _ := hz; subst eu ez
    simp only [Sem.run_bind, gi, Result.andThen_ok]
    cases hs : isShift op with
    | true => rw [hs] at hb; exact shift_sound t hb w
    | false =>
      rw [hs] at hb
      replace hb := bif_some hb; obtain ⟨hk, hb⟩ := hb
      rw [← eqK_true.1 hk]
      exact intBin_sound t hs hb w
  · rename_i k a k' b
    have eu : u = _ := hu; have ez : z = _ := hz; subst eu ez
    simp only [Sem.run_bind, gi, Result.andThen_ok]
    replace hb := bif_some hb; obtain ⟨hk, hb⟩ := hb
    rw [← eqK_true.1 (and_true2 hk).1]
    exact fact_sound ok.facts hb t w
  · rename_i k a k' b
    have eu : u = _ := hu; have ez : z = _ := hz; subst eu ez
    simp only [Sem.run_bind, gi, Result.andThen_ok]
    replace hb := bif_some hb; obtain ⟨hk, hb⟩ := hb
    rw [← eqK_true.1 (and_true2 hk).1]
    exact fact_sound ok.facts hb t w
  · rename_i k a k' b
    have eu : u = _ := hu; have ez : z = _ := hz; subst eu ez
    simp only [Sem.run_bind, gi, Result.andThen_ok]
    replace hb := bif_some hb; obtain ⟨hk, hb⟩ := hb
    rw [← eqK_true.1 (and_true2 hk).1]
    exact fact_sound ok.facts hb t w
  · rename_i l a l' b
    obtain ⟨hu1, eu⟩ := hu
    obtain ⟨hz1, ez⟩ := hz
    subst eu ez
    have g : (eqGuard op t ox oy (.string ⟨(bytesOf l a).toArray⟩) (.string ⟨(bytesOf l' b).toArray⟩)).run P w = .ok () w := by cases op <;> simp [eqGuard]
    simp only [Sem.run_bind, g, Result.andThen_ok]
    split at hb
    · unfold strCat at hb
      replace hb := bif_some hb; obtain ⟨hk, hb⟩ := hb
      cases hb
      have hlt := blt_true.1 hk
      have hsz : ¬ ((((⟨(bytesOf l a).toArray⟩ : ByteArray).size + (⟨(bytesOf l' b).toArray⟩ : ByteArray).size : Nat) : Int) > IntKind.i64.max) := by
        show ¬ ((((bytesOf l a).toArray.size + (bytesOf l' b).toArray.size : Nat) : Int) > IntKind.i64.max)
        simp only [List.size_toArray, bytesOf_length, IntKind.max, IntKind.signed, IntKind.bits]
        simp
        omega
      refine ⟨.string (⟨(bytesOf l a).toArray⟩ ++ ⟨(bytesOf l' b).toArray⟩), by simp only [Go.binOp, Op.stringOp, if_neg hsz, Sem.run_pure], join_lt _ _ _ _ hu1 hz1, ?_⟩
      rw [bytesOf_join _ _ _ _ hu1]
      congr 1
    · cases hb
      exact ⟨.bool _, by simp only [Go.binOp, Op.stringOp, Sem.run_pure, str_list, str_eq hu1 hz1], rfl⟩
    · cases hb
      exact ⟨.bool _, by simp only [Go.binOp, Op.stringOp, Sem.run_pure, str_list, str_eq hu1 hz1], rfl⟩
    · cases hb
  · replace hb := bif_some hb; obtain ⟨hq, hb⟩ := hb
    have main : ∀ b, eqA E h 9 t x y = some b → (eqGuard op t ox oy u z).run P w = .ok () w → (Go.binOp .eql t u z = (do let b ← Op.equal t u z; pure (.bool b)) ∧ Go.binOp .neq t u z = (do let b ← Op.equal t u z; pure (.bool !b))) →
        ∃ q, (do eqGuard op t ox oy u z; Go.binOp op t u z : Sem Value).run P w = .ok q w ∧ VRel σ μ v q := by
      intro b he hg hbin
      have hs := eq_sound ok rel 9 10000 t x y b (by omega) he u z hu hz
      split at hb
      · rename_i c hc
        rw [he] at hc
        cases hc
        cases hb
        exact ⟨.bool b, by simp [hg, hbin.1, hbin.2, Op.equal, Op.maxDepth, hs], rfl⟩
      · rename_i c hc
        rw [he] at hc
        cases hc
        cases hb
        exact ⟨.bool !b, by simp [hg, hbin.1, hbin.2, Op.equal, Op.maxDepth, hs], rfl⟩
      · cases hb
    have he : ∃ b, eqA E h 9 t x y = some b := by
      split at hb
      · exact ⟨_, by assumption⟩
      · exact ⟨_, by assumption⟩
      · cases hb
    obtain ⟨b, he⟩ := he
    refine main b he ?_ ?_
    · unfold eqable at hq
      split at hq
      · have eu : u = _ := hu; have ez : z = _ := hz; subst eu ez; cases op <;> simp [eqGuard]
      · have eu : u = _ := hu; have ez : z = _ := hz; subst eu ez; cases op <;> simp [eqGuard]
      · have eu : u = _ := hu; obtain ⟨_, _, ez⟩ := hz; subst eu ez; cases op <;> simp [eqGuard]
      · have ez : z = _ := hz; obtain ⟨_, _, eu⟩ := hu; subst eu ez; cases op <;> simp [eqGuard]
      · obtain ⟨_, _, ez⟩ := hz; obtain ⟨_, _, eu⟩ := hu; subst eu ez; cases op <;> simp [eqGuard]
      · obtain ⟨_, ez, _⟩ := hz
        obtain ⟨_, eu, _⟩ := hu
        subst eu ez
        have hp : P.eqGuardType P.depth t = false := by
          simp only [eqA] at he
          cases ht : E.ty t with
          | none => rw [ht] at he; cases he
          | some i =>
            rw [ht] at he
            simp only at he
            split at he <;> first | (cases he; done) | skip
            all_goals first | (rename_i hx hy; cases hx; done) | (rename_i hx hy _; cases hx; done) | skip
            all_goals (try (replace he := bif_some he; obtain ⟨hp, he⟩ := he; exact ((ok.ty t i ht).plain hp).2.1))
        exact run_eqGuard_agg w op t ox oy _ _ hp
      · have eu : u = _ := hu; have ez : z = _ := hz; subst eu ez; cases op <;> simp [eqGuard]
      · have eu : u = _ := hu; obtain ⟨_, _, _, _, ez, _⟩ := hz; subst eu ez; cases op <;> simp [eqGuard]
      · have ez : z = _ := hz; obtain ⟨_, _, _, _, eu, _⟩ := hu; subst eu ez; cases op <;> simp [eqGuard]
      · have eu : u = _ := hu; have ez : z = _ := hz; subst eu ez; cases op <;> simp [eqGuard]
      · have eu : u = _ := hu; obtain ⟨_, _, ez⟩ := hz; subst eu ez; cases op <;> simp [eqGuard]
      · have ez : z = _ := hz; obtain ⟨_, _, eu⟩ := hu; subst eu ez; cases op <;> simp [eqGuard]
      · have eu : u = _ := hu; have ez : z = _ := hz; subst eu ez; cases op <;> simp [eqGuard]
      · have eu : u = _ := hu; obtain ⟨_, _, ez, _⟩ := hz; subst eu ez; cases op <;> simp [eqGuard]
      · have ez : z = _ := hz; obtain ⟨_, _, eu, _⟩ := hu; subst eu ez; cases op <;> simp [eqGuard]
      · cases hq
    · unfold eqable at hq
      split at hq
      · have eu : u = _ := hu; have ez : z = _ := hz; subst eu ez; exact ⟨by simp [Go.binOp], by simp [Go.binOp]⟩
      · have eu : u = _ := hu; have ez : z = _ := hz; subst eu ez; exact ⟨by simp [Go.binOp], by simp [Go.binOp]⟩
      · have eu : u = _ := hu; obtain ⟨_, _, ez⟩ := hz; subst eu ez; exact ⟨by simp [Go.binOp], by simp [Go.binOp]⟩
      · have ez : z = _ := hz; obtain ⟨_, _, eu⟩ := hu; subst eu ez; exact ⟨by simp [Go.binOp], by simp [Go.binOp]⟩
      · obtain ⟨_, _, ez⟩ := hz; obtain ⟨_, _, eu⟩ := hu; subst eu ez; exact ⟨by simp [Go.binOp], by simp [Go.binOp]⟩
      · obtain ⟨_, ez, _⟩ := hz; obtain ⟨_, eu, _⟩ := hu; subst eu ez; exact ⟨by simp [Go.binOp], by simp [Go.binOp]⟩
      · have eu : u = _ := hu; have ez : z = _ := hz; subst eu ez; exact ⟨by simp [Go.binOp], by simp [Go.binOp]⟩
      · have eu : u = _ := hu; obtain ⟨_, _, _, _, ez, _⟩ := hz; subst eu ez; exact ⟨by simp [Go.binOp], by simp [Go.binOp]⟩
      · have ez : z = _ := hz; obtain ⟨_, _, _, _, eu, _⟩ := hu; subst eu ez; exact ⟨by simp [Go.binOp], by simp [Go.binOp]⟩
      · have eu : u = _ := hu; have ez : z = _ := hz; subst eu ez; exact ⟨by simp [Go.binOp], by simp [Go.binOp]⟩
      · have eu : u = _ := hu; obtain ⟨_, _, ez⟩ := hz; subst eu ez; exact ⟨by simp [Go.binOp], by simp [Go.binOp]⟩
      · have ez : z = _ := hz; obtain ⟨_, _, eu⟩ := hu; subst eu ez; exact ⟨by simp [Go.binOp], by simp [Go.binOp]⟩
      · have eu : u = _ := hu; have ez : z = _ := hz; subst eu ez; exact ⟨by simp [Go.binOp], by simp [Go.binOp]⟩
      · have eu : u = _ := hu; obtain ⟨_, _, ez, _⟩ := hz; subst eu ez; exact ⟨by simp [Go.binOp], by simp [Go.binOp]⟩
      · have ez : z = _ := hz; obtain ⟨_, _, eu, _⟩ := hu; subst eu ez; exact ⟨by simp [Go.binOp], by simp [Go.binOp]⟩
      · cases hq
end
end Go.Ev
