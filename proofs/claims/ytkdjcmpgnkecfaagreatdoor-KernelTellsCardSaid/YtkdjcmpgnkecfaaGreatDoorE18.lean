/-
  The operations that do something to memory; all operations.
-/
import Derived.Test.YtkdjcmpgnkecfaaGreatDoorE17
noncomputable section
namespace Go.Ev
set_option linter.unusedVariables false
set_option linter.unusedSimpArgs false

section
variable {P : Program} {E : Env} {σ : Nat → Int} {μ : Map} {h : AH} {w : World} {r : Regs} {tmps : Array Value}

/-- what an operation that ran leaves -/
def OpRel (P : Program) (σ : Nat → Int) (μ : Map) (h : AH) (w : World) (tmps : Array Value) (o : Oper) : AN → Prop
  | .value v h' => ∃ q w' μ', (execOp (opv tmps) o).run P w = .ok (.value q) w' ∧ Same3 w w' ∧ Moves σ μ h w.heap μ' h' w'.heap ∧ VRel σ μ' v q
  | .skip h' => ∃ w' μ', (execOp (opv tmps) o).run P w = .ok .skip w' ∧ Same3 w w' ∧ Moves σ μ h w.heap μ' h' w'.heap
  | .call f args => ∃ u us, VRel σ μ f u ∧ VsRel σ μ args us.toList ∧ execOp (opv tmps) o = (do let d ← Deferred.ofValue u us; invoke d.target d.args)
  | .bad => True

theorem act_sound (ok : EnvOk P E σ) (rel : HRel σ μ h w.heap) (hg : GRel E μ) (hr : ∀ i, VRel σ μ (r.get i) (tmps.getD i undef)) (o : Oper) :
    OpRel P σ μ h w tmps o (actOp E r h o.op) := by
  have O : ∀ {x : Operand} {v : AV}, evalOperand E r x = some v → VRel σ μ v (opv tmps x) := fun e => opd_rel hg hr e
  obtain ⟨dst, op, ty, pos, after, guard⟩ := o
  cases op <;> simp only [actOp] <;> try trivial
  case store t a x =>
    split
    · rename_i id off v ha hx
      cases hs : storeT E h t id off v with
      | none => trivial
      | some h' =>
        obtain ⟨loc, hm, e⟩ := O ha
        obtain ⟨w', h1, h2, h3⟩ := store_rel (P := P) ok rel hm hs (O hx)
        exact ⟨w', μ, by simp [execOp, Instr.storeAt, Instr.sureAddr, e, h1], h2, h3⟩
    · trivial
  case mapUpdate t m k x =>
    split
    · rename_i m' k' x' h1 h2 h3
      cases hs : mapUpdateA E h t m' k' x' with
      | none => trivial
      | some h' =>
        obtain ⟨w', e1, e2, e3⟩ := mapUpdate_sound (P := P) ok rel hs (O h1) (O h2) (O h3)
        exact ⟨w', μ, by simp [execOp, e1], e2, e3⟩
    · trivial
  case insert t m k x =>
    split
    · rename_i m' k' x' h1 h2 h3
      cases hs : mapUpdateA E h t m' k' x' with
      | none => trivial
      | some h' =>
        obtain ⟨w', e1, e2, e3⟩ := mapUpdate_sound (P := P) ok rel hs (O h1) (O h2) (O h3)
        exact ⟨w', μ, by simp [execOp, e1], e2, e3⟩
    · trivial
  case call c =>
    obtain ⟨callee, args, argTypes⟩ := c
    have args1 : ∀ {x : AV}, evalOperands E r args.toList = some [x] → ∃ u, args.map (opv tmps) = #[u] ∧ VRel σ μ x u := by
      intro x hx
      obtain ⟨u, us, e, ru, rn⟩ := opds_rel (σ := σ) hg hr hx
      rw [VsRel.nil_iff.1 rn] at e
      refine ⟨u, ?_, ru⟩
      apply Array.toList_inj.1
      rw [Array.toList_map, e]
    have args2 : ∀ {x y : AV}, evalOperands E r args.toList = some [x, y] → ∃ u v, args.map (opv tmps) = #[u, v] ∧ VRel σ μ x u ∧ VRel σ μ y v := by
      intro x y hx
      obtain ⟨u, us, e, ru, v, vs, e2, rv, rn⟩ := opds_rel (σ := σ) hg hr hx
      rw [VsRel.nil_iff.1 rn] at e2
      refine ⟨u, v, ?_, ru, rv⟩
      apply Array.toList_inj.1
      rw [Array.toList_map, e, e2]
    cases callee with
    | builtin b =>
      simp only
      split
      · rename_i s x ha
        split
        · rename_i t u h0 h1
          cases hs : appendA E h t u s x with
          | none => trivial
          | some p =>
            obtain ⟨v, h'⟩ := p
            obtain ⟨us, ux, e, r1, r2⟩ := args2 ha
            obtain ⟨q, w', μ', e1, e2, e3, e4⟩ := append_sound (P := P) ok rel h0 h1 ty hs r1 r2
            exact ⟨q, w', μ', by simp [execOp, resolve, invoke, builtin, e, e1], e2, e3, e4⟩
        · trivial
      · rename_i d x ha
        split
        · rename_i t h0
          cases hs : copyA E h t d x with
          | none => trivial
          | some p =>
            obtain ⟨v, h'⟩ := p
            obtain ⟨us, ux, e, r1, r2⟩ := args2 ha
            obtain ⟨q, w', e1, e2, e3, e4⟩ := copy_sound (P := P) ok rel h0 ty hs r1 r2
            exact ⟨q, w', μ, by simp [execOp, resolve, invoke, builtin, e, e1], e2, e3, e4⟩
        · trivial
      · rename_i x ha
        split
        · rename_i t h0
          cases hs : clearA E h t x with
          | none => trivial
          | some h' =>
            obtain ⟨ux, e, r1⟩ := args1 ha
            obtain ⟨w', e1, e2, e3⟩ := clear_sound (P := P) ok rel h0 ty hs r1
            exact ⟨.tuple #[], w', μ, by simp [execOp, resolve, invoke, builtin, e, e1], e2, e3, rfl⟩
        · trivial
      · rename_i m k ha
        split
        · rename_i t h0
          cases hs : deleteA E h t m k with
          | none => trivial
          | some h' =>
            obtain ⟨us, ux, e, r1, r2⟩ := args2 ha
            obtain ⟨w', e1, e2, e3⟩ := delete_sound (P := P) ok rel argTypes h0 ty hs r1 r2
            exact ⟨.tuple #[], w', μ, by simp [execOp, resolve, invoke, builtin, e, e1], e2, e3, rfl⟩
        · trivial
      · trivial
    | value f =>
      simp only
      split
      · rename_i f' as hf ha
        exact ⟨opv tmps f, args.map (opv tmps), O hf, by rw [Array.toList_map]; exact opds_rel (σ := σ) hg hr ha, by simp [execOp, resolve]⟩
      · trivial
    | invoke _ _ => trivial

theorem op_sound (ok : EnvOk P E σ) (rel : HRel σ μ h w.heap) (hg : GRel E μ) (hr : ∀ i, VRel σ μ (r.get i) (tmps.getD i undef)) (o : Oper) :
    OpRel P σ μ h w tmps o (opA E r h o.op) := by
  unfold opA
  split
  · cases hl : lookOp E r h o.op with
    | none => trivial
    | some v =>
      obtain ⟨q, h1, h2⟩ := look_sound (P := P) ok rel hg hr hl
      exact ⟨q, w, μ, h1, Same3.refl _, Moves.refl rel, h2⟩
  · cases hn : newOp E r o.op with
    | none => trivial
    | some p =>
      obtain ⟨v, ob⟩ := p
      obtain ⟨x, obj, room, w', h1, h2, h3, h4⟩ := new_sound (P := P) ok hg hr hn w
      have hx := h4 (μ.upd h.next ⟨w.heap.size, 0, room⟩) h.next (Map.upd_ext _ _ (rel.topμ _ (Nat.le_refl _))) (Map.upd_at _ _ _)
      exact ⟨x, w', _, h1, h3, by rw [h2]; exact rel.new hx.2, hx.1⟩
  · exact act_sound ok rel hg hr o
end
end Go.Ev
