/-
  Code in the machine: regions in the text's order, sequences, branches, loops, jumps.
-/
import Derived.Test.YtkdjcmpgnkecfaaGreatDoorE19
noncomputable section
namespace Go.Ev
set_option linter.unusedVariables false
set_option linter.unusedSimpArgs false

section
variable {P : Program} {E : Env} {σ : Nat → Int} {μ : Map} {h h' : AH} {w : World}

/-- regions that draw their order -/
def DrawnOk (P : Program) (E : Env) (σ : Nat → Int) (F : Fns) : Prop :=
  ∀ ops s s', evDrawn E F ops s = some s' → ∀ μ w a (b : Frame) id k cs, SRel E σ μ s a w → Ends P E σ b μ s.h w (lone (b.atR a (.code (.region id ops true) :: k)) cs w) k cs .normal s'

theorem ops_steps {F : Fns} (ok : EnvOk P E σ) (fok : FnsOk P E σ F) {ops : Array Oper} (b : Frame) (k : List Item) (cs : List Frame) :
    ∀ (l : List Oper) (i : Nat) (s s' : St), ops.toList.drop i = l → evOps E F ops l s = some s' → ∀ μ w a, SRel E σ μ s a w →
      Ends P E σ b μ s.h w (lone (b.atR a (.inRegion ops (List.range' i l.length) :: k)) cs w) k cs .normal s'
  | [], i, s, s', hl, he, μ, w, a, rel => by
    simp only [evOps] at he
    cases he
    exact ⟨μ, w, a, Moves.refl rel.h, Same3.refl _, rel, .one stepR_region_end⟩
  | o :: rest, i, s, s', hl, he, μ, w, a, rel => by
    simp only [evOps] at he
    split at he
    · rename_i s1 h1
      have hi : ops[i]? = some o := by
        have : (ops.toList.drop i)[0]? = some o := by rw [hl]; rfl
        simpa using this
      have hd : ops.toList.drop (i + 1) = rest := by
        have : (ops.toList.drop i).drop 1 = rest := by rw [hl]; rfl
        simpa [List.drop_drop] using this
      obtain ⟨μ', w', a', m1, m2, m3, m4⟩ := op_steps ok fok hi h1 rel b k cs (rest := List.range' (i + 1) rest.length)
      have := ops_steps ok fok b k cs rest (i + 1) s1 s' hd he μ' w' a' m3
      exact this.after m1 m2 m4
    · cases he

theorem region_steps {F : Fns} (ok : EnvOk P E σ) (fok : FnsOk P E σ F) {ops : Array Oper} (b : Frame) (k : List Item) (cs : List Frame) {s s' : St} (he : evOps E F ops ops.toList s = some s')
    {a : Act} (rel : SRel E σ μ s a w) (id : Nat) : Ends P E σ b μ s.h w (lone (b.atR a (.code (.region id ops false) :: k)) cs w) k cs .normal s' := by
  have := ops_steps ok fok b k cs ops.toList 0 s s' rfl he μ w a rel
  rw [Array.length_toList, ← List.range_eq_range'] at this
  exact this.of_steps (.one stepR_region)

theorem stepR_scope {b : Frame} {a : Act} {k : List Item} {cs : List Frame} {c : Code} :
    step P (lone (b.atR a (.code (.scope c) :: k)) cs w) = .next (lone (b.atR a (.code c :: .inScope c :: k)) cs w) :=
  step_lone_go (by simp [stepG, stepG.exec, Frame.atR])
theorem stepR_inScope {b : Frame} {a : Act} {k : List Item} {cs : List Frame} {c : Code} :
    step P (lone (b.atR a (.inScope c :: k)) cs w) = .next (lone (b.atR a k) cs w) :=
  step_lone_go (by simp [stepG, stepG.exec, Frame.atR])

/-- past an item that neither a jump out nor one within looks at -/
theorem Arr.pass {b : Frame} {m : Machine} {y : Item} {k : List Item} {cs : List Frame} {a : Act} {x : AX} (hy : y.plain = true) (hx : x ≠ .normal) (r : Arr P m b (y :: k) cs a w x) : Arr P m b k cs a w x := by
  cases x with
  | normal => exact absurd rfl hx
  | exit id => obtain ⟨k₁, e, r⟩ := r; exact ⟨k₁, e.trans (by cases y <;> simp_all [exitTo, Item.plain]), r⟩
  | goto l => obtain ⟨k₁, e, r⟩ := r; exact ⟨k₁, e.trans (by cases y <;> simp_all [gotoIn, Item.plain]), r⟩
  | ret => exact r

theorem loop_steps {F : Fns} (fok : FnsOk P E σ F) (ro : Option Nat) (b : Frame) (body : Code) (k : List Item) (cs : List Frame) :
    ∀ (n : Nat) (s s' : St) (x : AX), loopN n (F.code ro body) s = some (x, s') → ∀ μ w a, SRel E σ μ s a w → RoRel μ ro b →
      ∃ μ' w' a', Moves σ μ s.h w.heap μ' s'.h w'.heap ∧ Same3 w w' ∧ SRel E σ μ' s' a' w' ∧
        (x = .normal → Steps P (lone (b.atR a (.code body :: .inLoop body :: k)) cs w) (lone (b.atR a' (.code body :: .inLoop body :: k)) cs w')) ∧
        (x ≠ .normal → Arr P (lone (b.atR a (.code body :: .inLoop body :: k)) cs w) b k cs a' w' x)
  | 0, s, s', x, he, μ, w, a, rel, ro' => by
    obtain ⟨μ', w', a', m1, m2, m3, m4⟩ := fok.code _ _ _ _ _ he μ w a b (.inLoop body :: k) cs rel ro'
    refine ⟨μ', w', a', m1, m2, m3, fun hx => ?_, fun hx => m4.pass rfl hx⟩
    subst hx
    exact Steps.trans m4 (.one stepR_inLoop)
  | n + 1, s, s', x, he, μ, w, a, rel, ro' => by
    simp only [loopN] at he
    split at he
    · rename_i s1 h1
      obtain ⟨μ1, w1, a1, m1, m2, m3, m4, _⟩ := loop_steps fok ro b body k cs n s s1 .normal h1 μ w a rel ro'
      obtain ⟨μ2, w2, a2, n1, n2, n3, n4, n5⟩ := loop_steps fok ro b body k cs n s1 s' x he μ1 w1 a1 m3 (ro'.ext m1.ext)
      exact ⟨μ2, w2, a2, m1.trans n1, m2.trans n2, n3, fun hx => (m4 rfl).trans (n4 hx), fun hx => (n5 hx).of_steps (m4 rfl)⟩
    · rename_i hne
      obtain ⟨μ1, w1, a1, m1, m2, m3, m4, m5⟩ := loop_steps fok ro b body k cs n s s' x he μ w a rel ro'
      exact ⟨μ1, w1, a1, m1, m2, m3, m4, m5⟩

theorem scope_steps {F : Fns} (fok : FnsOk P E σ F) (ro : Option Nat) (b : Frame) (body : Code) (k : List Item) (cs : List Frame) :
    ∀ (n : Nat) (c : Code) (s s' : St) (x : AX), scopeN F ro body n c s = some (x, s') → ∀ μ w a, SRel E σ μ s a w → RoRel μ ro b →
      Ends P E σ b μ s.h w (lone (b.atR a (.code c :: .inScope body :: k)) cs w) k cs x s'
  | 0, c, s, s', x, he, _, _, _, _, _ => by cases he
  | n + 1, c, s, s', x, he, μ, w, a, rel, ro' => by
    simp only [scopeN] at he
    split at he
    · rename_i l s1 h1
      obtain ⟨μ1, w1, a1, m1, m2, m3, k₁, e, m4⟩ := fok.code _ _ _ _ _ h1 μ w a b (.inScope body :: k) cs rel ro'
      split at he
      · rename_i rest hf
        have := scope_steps fok ro b body k cs n rest s1 s' x he μ1 w1 a1 m3 (ro'.ext m1.ext)
        refine this.after m1 m2 (m4.trans (.one (stepR_goto ?_)))
        rw [e]
        simp [gotoIn, hf]
      · rename_i hf
        cases he
        refine ⟨μ1, w1, a1, m1, m2, m3, k₁, ?_, m4⟩
        rw [e]
        simp [gotoIn, hf]
    · rename_i hne
      obtain ⟨μ1, w1, a1, m1, m2, m3, m4⟩ := fok.code _ _ _ _ _ he μ w a b (.inScope body :: k) cs rel ro'
      refine ⟨μ1, w1, a1, m1, m2, m3, ?_⟩
      cases x with
      | normal => exact Steps.trans m4 (.one stepR_inScope)
      | exit id => obtain ⟨k₁, e, m4⟩ := m4; exact ⟨k₁, e.trans (by simp [exitTo]), m4⟩
      | goto l => exact absurd he (hne l s')
      | ret => exact m4

def notRow : Obj → Bool
  | .cells .. => false
  | _ => true

theorem getObj_at {b : Nat} {x : Obj} (hx : w.heap[b]? = some x) (hn : notRow x = true) : (getObj b).run P w = .ok x w := by
  cases x <;> first | (cases hn; done) | simp [getObj, Sem.run, hx]

/-- a block that lives is put anew -/
theorem put_obj (rel : HRel σ μ h w.heap) {id : Nat} {loc : Loc} {o o' : AObj} {x : Obj} (hm : μ id = some loc) (ho : h.get id = o) (hl : o.live = true) (hr : ORel σ μ o' loc (some x)) {y : Obj} (hy : w.heap[loc.b]? = some y) (hn : notRow y = true) :
    (setObj loc.b x).run P w = .ok () { w with heap := w.heap.setIfInBounds loc.b x } ∧ Moves σ μ h w.heap μ (h.put id o') (w.heap.setIfInBounds loc.b x) := by
  have hlt := rel.lt id loc hm
  have hnd : h.get id ≠ .dead := fun e => by rw [ho] at e; rw [e] at hl; cases hl
  refine ⟨by cases y <;> first | (cases hn; done) | simp [setObj, Sem.run, hy], rel.put hm (AH.get_live hnd) (by rw [ho]; exact hl) (by simp) (fun b hb => by rw [Array.getElem?_setIfInBounds_ne (Ne.symm hb)]) ?_⟩
  rw [Array.getElem?_setIfInBounds_self, if_pos hlt]
  exact hr

/-- the record of a loop, as the model has it -/
theorem loop_obj (rel : HRel σ μ h w.heap) {id : Nat} {loc : Loc} {st : LoopState} {pend : Option Code} {n : Nat} {r : Regs} {params : Array Tmp} {assign body : Code} {d : Nat} (hm : μ id = some loc)
    (hg : h.get id = .loop st pend n r params assign body d) :
    ∃ fn tmps ld, w.heap[loc.b]? = some (.loop { state := st, pending := pend, fn, tmps, params, assign, body, defers := ld.b }) ∧ μ d = some ld ∧ RRel σ μ n r tmps := by
  have := rel.obj id loc _ hm (AH.get_live (by rw [hg]; simp))
  rw [hg] at this
  exact this

theorem stepR_rangeStart {b : Frame} {a : Act} {k : List Item} {cs : List Frame} {g : Operand} {ps : Array Tmp} {assign body : Code} {l : Nat} {mark : List Deferred} {w₁ : World} {fr' : Frame} {cs' : List Frame} {w'' : World}
    (he : (Instr.enterLoop b.fn a.tmps ps assign body b.roundOf).run P w = .ok (l, mark) w₁)
    (hgo : (stepG.apply P true (b.atR { a with defers := mark ++ a.defers } (.inRangeFunc l :: k)) cs none (inv (opv a.tmps g) #[.func (.yield l) #[] #[]]) w₁).bare = goAt fr' cs' w'') :
    step P (lone (b.atR a (.code (.rangeFunc g ps assign body) :: k)) cs w) = .next (lone fr' cs' w'') :=
  step_lone_go (by
    have hev := Frame.eval_atR b { a with defers := mark ++ a.defers } (.inRangeFunc l :: k)
    have hev2 : ({ a with defers := mark ++ a.defers } : Act).eval = opv a.tmps := eval_atR_opv b _
    rw [hev2] at hev
    simp only [Frame.atR] at hev hgo ⊢
    have e : (do let d ← resolve (opv a.tmps) { callee := .value g, args := #[.const (.func (.yield l) #[] #[])], argTypes := #[] } 0; invoke d.target d.args : Sem Next) = inv (opv a.tmps g) #[.func (.yield l) #[] #[]] := by
      simp [resolve, inv, opv]
    simp only [stepG, stepG.exec, Sem.runT_eq, he, GStep.bare_after, hev, e]
    exact hgo)

theorem finish_rangeFunc {b : Frame} {a : Act} {k : List Item} (l : Nat) (v : Value) : (b.atR a (.inRangeFunc l :: k)).finish v = b.atR a (.endRangeFunc l :: k) := by
  simp [Frame.finish, Frame.atR]

theorem stepR_rangeEnd {b : Frame} {a : Act} {k : List Item} {cs : List Frame} {l : Nat} {jump : Option Code} {w' : World} (hx : (Instr.endLoop l).run P w = .ok jump w') :
    step P (lone (b.atR a (.endRangeFunc l :: k)) cs w) = .next (lone (b.atR a ((jump.map Item.code).toList ++ k)) cs w') :=
  step_lone_go (by simp [stepG, stepG.exec, Frame.atR, Sem.runT_eq, hx, GStep.bare_after])

/-- from the record on -/
theorem range_rest {F : Fns} (fok : FnsOk P E σ F) {ro : Option Nat} {f : Operand} {params : Array Tmp} {assign body : Code} {s s' : St} {x : AX} {fv : AV} {d : Nat} {ld : Loc} (b : Frame) (k : List Item) (cs : List Frame)
    {a : Act} {mark : List Deferred} {w₀ : World} (rel : SRel E σ μ s { a with defers := mark ++ a.defers } w) (hro : RoRel μ ro b) (hd : μ d = some ld) (hf : VRel σ μ fv (opv a.tmps f))
    (hent : (Instr.enterLoop b.fn a.tmps params assign body b.roundOf).run P w₀ =
      .ok (w.heap.size, mark) { w with heap := w.heap.push (.loop { state := .ready, pending := none, fn := b.fn, tmps := a.tmps, params, assign, body, defers := ld.b }) })
    (he : rangeTail F ro fv params assign body d s = some (x, s')) :
    Ends P E σ b μ s.h w (lone (b.atR a (.code (.rangeFunc f params assign body) :: k)) cs w₀) k cs x s' := by
  generalize hwl : ({ w with heap := w.heap.push (.loop { state := .ready, pending := none, fn := b.fn, tmps := a.tmps, params, assign, body, defers := ld.b }) } : World) = wl at hent
  have hnew : Moves σ μ s.h w.heap (μ.upd s.h.next ⟨w.heap.size, 0, 0⟩) (s.h.new (.loop .ready none s.n s.r params assign body d)) wl.heap := by
    rw [← hwl]
    have hext := Map.upd_ext μ ⟨w.heap.size, 0, 0⟩ (rel.h.topμ s.h.next (Nat.le_refl _))
    exact rel.h.new ⟨b.fn, a.tmps, ld, rfl, hext _ _ hd, rel.r.ext hext⟩
  have hl : (μ.upd s.h.next ⟨w.heap.size, 0, 0⟩) s.h.next = some ⟨w.heap.size, 0, 0⟩ := Map.upd_at _ _ _
  have hs3 : Same3 w wl := by rw [← hwl]; exact ⟨rfl, rfl, rfl⟩
  generalize μ.upd s.h.next ⟨w.heap.size, 0, 0⟩ = μl at hnew hl
  unfold rangeTail at he
  split at he
  · cases he
  · rename_i v0 h1 hcall
    have hc := fok.call _ _ _ _ _ hcall μl wl (opv a.tmps f) #[.func (.yield w.heap.size) #[] #[]] (rel.g.ext hnew.ext) hnew.rel (VRel.ext hnew.ext _ _ hf) ⟨_, _, rfl, ⟨_, hl, rfl⟩, rfl⟩
    obtain ⟨q, w1, μ1, c1, c2, c3, c4⟩ := call_back hc (b.atR { a with defers := mark ++ a.defers } (.inRangeFunc w.heap.size :: k)) cs (.inr ⟨_, _, rfl⟩)
    have hst := c4 (lone (b.atR a (.code (.rangeFunc f params assign body) :: k)) cs w₀) fun fr' cs' w'' hgo => stepR_rangeStart hent hgo
    rw [finish_rangeFunc] at hst
    split at he
    · rename_i st pend n r ps as bd d' hg
      obtain ⟨fn', tmps', ld', hobj, hd', hr'⟩ := loop_obj c2.rel (c2.ext _ _ hl) hg
      have hput := fun (st' : LoopState) => put_obj (P := P) (w := w1) c2.rel (c2.ext _ _ hl) hg rfl (o' := .loop .exhausted pend n r ps as bd d')
        (x := .loop { state := .exhausted, pending := pend, fn := fn', tmps := tmps', params := ps, assign := as, body := bd, defers := ld'.b }) ⟨fn', tmps', ld', rfl, hd', hr'⟩ hobj rfl
      obtain ⟨p1, p2⟩ := hput .exhausted
      have hne : st ≠ .busy := fun e => by subst e; cases he
      have hend : (Instr.endLoop w.heap.size).run P w1 = .ok pend { w1 with heap := w1.heap.setIfInBounds w.heap.size (.loop { state := .exhausted, pending := pend, fn := fn', tmps := tmps', params := ps, assign := as, body := bd, defers := ld'.b }) } := by
        have hb : (st == LoopState.busy) = false := by cases st <;> first | rfl | exact absurd rfl hne
        simp only [Instr.endLoop, Instr.getLoop, Sem.run_bind, getObj_at hobj rfl, Result.andThen_ok, Sem.run_pure, hb, Bool.false_eq_true, if_false, p1]
      have hst2 := hst.trans (.one (stepR_rangeEnd hend))
      have hmoves := hnew.trans (c2.trans p2)
      have hsame : Same3 w { w1 with heap := w1.heap.setIfInBounds w.heap.size (.loop { state := .exhausted, pending := pend, fn := fn', tmps := tmps', params := ps, assign := as, body := bd, defers := ld'.b }) } :=
        (hs3.trans c1).trans ⟨rfl, rfl, rfl⟩
      have hrel : SRel E σ μ1 { s with h := h1.put s.h.next (.loop .exhausted pend n r ps as bd d') } { a with defers := mark ++ a.defers }
          { w1 with heap := w1.heap.setIfInBounds w.heap.size (.loop { state := .exhausted, pending := pend, fn := fn', tmps := tmps', params := ps, assign := as, body := bd, defers := ld'.b }) } :=
        ⟨rel.g.ext (hnew.ext.trans c2.ext), p2.rel, rel.r.ext (hnew.ext.trans c2.ext), rel.d.ext (hnew.ext.trans c2.ext)⟩
      have he' : (match pend with
          | none => some (AX.normal, { s with h := h1.put s.h.next (.loop .exhausted pend n r ps as bd d') })
          | some c => F.code ro c { s with h := h1.put s.h.next (.loop .exhausted pend n r ps as bd d') }) = some (x, s') := by
        cases st <;> first | exact absurd rfl hne | (cases pend <;> exact he)
      cases pend with
      | none =>
        cases he'
        exact ⟨μ1, _, _, hmoves, hsame, hrel, hst2⟩
      | some c =>
        have := fok.code _ _ _ _ _ he' μ1 _ _ b k cs hrel (hro.ext (hnew.ext.trans c2.ext))
        exact this.after hmoves hsame hst2
    · cases he
end
end Go.Ev
