/-
  The machine: what a frame's slots, marks and memory stand for; one operation of a region.
-/
import Derived.Test.YtkdjcmpgnkecfaaGreatDoorE18
import Derived.AtR
noncomputable section
namespace Go.Ev
set_option linter.unusedVariables false
set_option linter.unusedSimpArgs false

def DsRel (μ : Map) : List Nat → List Deferred → Prop
  | [], ds => ds = []
  | d :: ids, ds => ∃ loc ds', ds = { target := .collected loc.b, args := #[] } :: ds' ∧ μ d = some loc ∧ DsRel μ ids ds'

theorem DsRel.ext {μ μ' : Map} (h : Ext μ μ') : ∀ {ids : List Nat} {ds : List Deferred}, DsRel μ ids ds → DsRel μ' ids ds
  | [], _, r => r
  | d :: ids, _, ⟨loc, ds', e, hm, r⟩ => ⟨loc, ds', e, h _ _ hm, DsRel.ext h r⟩

theorem GRel.ext {E : Env} {μ μ' : Map} (h : Ext μ μ') (hg : GRel E μ) : GRel E μ' := fun g hl => let ⟨room, e⟩ := hg g hl; ⟨room, h _ _ e⟩

structure SRel (E : Env) (σ : Nat → Int) (μ : Map) (s : St) (a : Act) (w : World) : Prop where
  g : GRel E μ
  h : HRel σ μ s.h w.heap
  r : RRel σ μ s.n s.r a.tmps
  d : DsRel μ s.ds a.defers

def RoRel (μ : Map) (ro : Option Nat) (b : Frame) : Prop :=
  match ro with
  | none => b.roundOf = none
  | some l => ∃ loc, μ l = some loc ∧ b.roundOf = some loc.b

theorem RoRel.ext {μ μ' : Map} (h : Ext μ μ') {ro : Option Nat} {b : Frame} (r : RoRel μ ro b) : RoRel μ' ro b := by
  cases ro with
  | none => exact r
  | some l => obtain ⟨loc, h1, h2⟩ := r; exact ⟨loc, h _ _ h1, h2⟩

/-- where a piece of code leaves the machine -/
def Arr (P : Program) (m : Machine) (b : Frame) (k : List Item) (cs : List Frame) (a : Act) (w : World) : AX → Prop
  | .normal => Steps P m (lone (b.atR a k) cs w)
  | .exit id => ∃ k₁, exitTo id k₁ = exitTo id k ∧ Steps P m (lone (b.atR a (.code (.exit id) :: k₁)) cs w)
  | .goto l => ∃ k₁, gotoIn l k₁ = gotoIn l k ∧ Steps P m (lone (b.atR a (.code (.goto l) :: k₁)) cs w)
  | .ret => ∃ k₁, Steps P m (lone (b.atR a (.code .ret :: k₁)) cs w)

theorem Arr.of_steps {P : Program} {m m' : Machine} {b : Frame} {k : List Item} {cs : List Frame} {a : Act} {w : World} {x : AX} (h : Steps P m m') (r : Arr P m' b k cs a w x) : Arr P m b k cs a w x := by
  cases x with
  | normal => exact h.trans r
  | exit id => obtain ⟨k₁, e, r⟩ := r; exact ⟨k₁, e, h.trans r⟩
  | goto l => obtain ⟨k₁, e, r⟩ := r; exact ⟨k₁, e, h.trans r⟩
  | ret => obtain ⟨k₁, r⟩ := r; exact ⟨k₁, h.trans r⟩

def Ends (P : Program) (E : Env) (σ : Nat → Int) (b : Frame) (μ : Map) (h : AH) (w : World) (m : Machine) (k : List Item) (cs : List Frame) (x : AX) (s' : St) : Prop :=
  ∃ μ' w' a', Moves σ μ h w.heap μ' s'.h w'.heap ∧ Same3 w w' ∧ SRel E σ μ' s' a' w' ∧ Arr P m b k cs a' w' x

theorem Ends.of_steps {P : Program} {E : Env} {σ : Nat → Int} {b : Frame} {μ : Map} {h : AH} {w : World} {m m' : Machine} {k : List Item} {cs : List Frame} {x : AX} {s' : St}
    (hs : Steps P m m') (r : Ends P E σ b μ h w m' k cs x s') : Ends P E σ b μ h w m k cs x s' := by
  obtain ⟨μ', w', a', h1, h2, h3, h4⟩ := r
  exact ⟨μ', w', a', h1, h2, h3, h4.of_steps hs⟩

/-- what stood behind moves on -/
theorem Ends.after {P : Program} {E : Env} {σ : Nat → Int} {b : Frame} {μ μ₁ : Map} {h h₁ : AH} {w w₁ : World} {m m₁ : Machine} {k : List Item} {cs : List Frame} {x : AX} {s' : St}
    (hm : Moves σ μ h w.heap μ₁ h₁ w₁.heap) (h3 : Same3 w w₁) (hs : Steps P m m₁) (r : Ends P E σ b μ₁ h₁ w₁ m₁ k cs x s') : Ends P E σ b μ h w m k cs x s' := by
  obtain ⟨μ', w', a', e1, e2, e3, e4⟩ := r
  exact ⟨μ', w', a', hm.trans e1, h3.trans e2, e3, e4.of_steps hs⟩

abbrev inv (u : Value) (us : Array Value) : Sem Next := do let d ← Deferred.ofValue u us; invoke d.target d.args

/-- what a call of a value comes to -/
def CallRel (P : Program) (σ : Nat → Int) (μ : Map) (h : AH) (w : World) (u : Value) (us : Array Value) (v : AV) (h' : AH) : Prop :=
  (∃ f args, (inv u us).run P w = .ok (.enter f args) w ∧ ∀ cs, ∃ fr q w' μ', Steps P (lone (Frame.enter P f args .normal) cs w) (lone fr cs w') ∧ fr.fn = f ∧ fr.leaving P w' (.returned q) ∧
    Same3 w w' ∧ Moves σ μ h w.heap μ' h' w'.heap ∧ VRel σ μ' v q) ∨
  (∃ l f tmps assign body, (inv u us).run P w = .ok (.round l f tmps assign body) w ∧ ∀ c cs, ∃ q w' μ', Steps P (lone (Frame.round l f tmps assign body .normal) (c :: cs) w) (lone (c.finish q) cs w') ∧
    Same3 w w' ∧ Moves σ μ h w.heap μ' h' w'.heap ∧ VRel σ μ' v q) ∨
  (∃ q w' μ', (inv u us).run P w = .ok (.value q) w' ∧ Same3 w w' ∧ Moves σ μ h w.heap μ' h' w'.heap ∧ VRel σ μ' v q)

structure FnsOk (P : Program) (E : Env) (σ : Nat → Int) (F : Fns) : Prop where
  code : ∀ ro c s x s', F.code ro c s = some (x, s') → ∀ μ w a b k cs, SRel E σ μ s a w → RoRel μ ro b → Ends P E σ b μ s.h w (lone (b.atR a (.code c :: k)) cs w) k cs x s'
  call : ∀ f args h v h', F.call f args h = some (v, h') → ∀ μ w u us, GRel E μ → HRel σ μ h w.heap → VRel σ μ f u → VsRel σ μ args us.toList → CallRel P σ μ h w u us v h'

section
variable {P : Program} {E : Env} {σ : Nat → Int} {μ : Map} {h h' : AH} {w : World}

def goAt (fr : Frame) (cs : List Frame) (w : World) : GStep := .go { frame := fr, callers := cs, status := .running, dying := none } w

/-- a call that is made in a frame comes back -/
theorem call_back {u : Value} {us : Array Value} {v : AV} (hc : CallRel P σ μ h w u us v h') (fr : Frame) (cs : List Frame)
    (hk : (∃ ops l k, fr.todo = .inRegion ops l :: k) ∨ ∃ l k, fr.todo = .inRangeFunc l :: k) :
    ∃ q w' μ', Same3 w w' ∧ Moves σ μ h w.heap μ' h' w'.heap ∧ VRel σ μ' v q ∧
      ∀ m, (∀ fr' cs' w'', (stepG.apply P true fr cs none (inv u us) w).bare = goAt fr' cs' w'' → step P m = .next (lone fr' cs' w'')) → Steps P m (lone (fr.finish q) cs w') := by
  rcases hc with ⟨f, args, hr, hcall⟩ | ⟨l, f, tmps, assign, body, hr, hcall⟩ | ⟨q, w', μ', hr, h3, hm, hv⟩
  · obtain ⟨fr1, q, w', μ', hs, hfn, hl, h3, hm, hv⟩ := hcall (fr :: cs)
    refine ⟨q, w', μ', h3, hm, hv, fun m hstep => ?_⟩
    have := hstep (Frame.enter P f args .normal) (fr :: cs) w (by
      rcases hk with ⟨ops, l, k, e⟩ | ⟨l, k, e⟩ <;> simp [stepG.apply, hr, e, goAt])
    exact .head this (hs.trans (.one (step_leave_returned hl)))
  · obtain ⟨q, w', μ', hs, h3, hm, hv⟩ := hcall fr cs
    refine ⟨q, w', μ', h3, hm, hv, fun m hstep => ?_⟩
    have := hstep (Frame.round l f tmps assign body .normal) (fr :: cs) w (by
      rcases hk with ⟨ops, l, k, e⟩ | ⟨l, k, e⟩ <;> simp [stepG.apply, hr, e, goAt])
    exact .head this hs
  · refine ⟨q, w', μ', h3, hm, hv, fun m hstep => ?_⟩
    exact .one (hstep (fr.finish q) cs w' (by
      rcases hk with ⟨ops, l, k, e⟩ | ⟨l, k, e⟩ <;> simp [stepG.apply, hr, e, goAt]))

/-! ### slots -/
theorem RRel.put {n : Nat} {r : Regs} {tmps : Array Value} {d : Nat} {v : AV} {q : Value} (hr : RRel σ μ n r tmps) (hd : d < n) (hv : VRel σ μ v q) : RRel σ μ n (r.set d v) (tmps.setIfInBounds d q) := by
  refine ⟨by simpa using hr.1, fun i => ?_⟩
  by_cases e : i = d
  · subst e
    have h1 : Regs.get (Tr.set r i v) i = v := by simp [Regs.get, Tr.get_set]
    have h2 : (tmps.setIfInBounds i q).getD i undef = q := by
      have : i < tmps.size := by rw [hr.1]; exact hd
      simp [this]
    rw [h1, h2]
    exact hv
  · have h1 : Regs.get (Tr.set r d v) i = Regs.get r i := by simp [Regs.get, Tr.get_set, e]
    have h2 : (tmps.setIfInBounds d q).getD i undef = tmps.getD i undef := by
      simp [Array.getElem?_setIfInBounds_ne (Ne.symm e)]
    rw [h1, h2]
    exact hr.2 i

theorem setReg_rel {s s' : St} {a : Act} {d : Option Tmp} {v : AV} {q : Value} {h' : AH} {w' : World} {μ' : Map} (hs : setReg s d v h' = some s') (rel : SRel E σ μ s a w)
    (hm : Moves σ μ s.h w.heap μ' h' w'.heap) (hv : VRel σ μ' v q) : SRel E σ μ' s' (a.put d q) w' ∧ s'.h = h' := by
  unfold setReg at hs
  cases d with
  | none =>
    cases hs
    exact ⟨⟨rel.g.ext hm.ext, hm.rel, rel.r.ext hm.ext, rel.d.ext hm.ext⟩, rfl⟩
  | some d =>
    simp only at hs
    replace hs := bif_some hs; obtain ⟨hb, hs⟩ := hs
    cases hs
    exact ⟨⟨rel.g.ext hm.ext, hm.rel, (rel.r.ext hm.ext).put (blt_true.1 hb) hv, rel.d.ext hm.ext⟩, rfl⟩

theorem bool_rel {v : AV} {b : Bool} : VRel σ μ v (.bool b) ↔ v = .bool b := by
  constructor
  · intro hv
    cases v <;> first
      | (have e : Value.bool b = _ := hv; cases e; rfl; done)
      | (have e : Value.bool b = _ := hv; cases e; done)
      | (have e := hv.2; cases e; done)
      | (obtain ⟨_, _, e⟩ := hv; cases e; done)
      | (obtain ⟨_, e, _⟩ := hv; cases e; done)
      | (obtain ⟨_, _, e, _⟩ := hv; cases e; done)
      | (obtain ⟨_, _, _, _, e, _⟩ := hv; cases e; done)
  · rintro rfl; rfl

theorem guard_wanted {n : Nat} {r : Regs} {tmps : Array Value} (hr : RRel σ μ n r tmps) (ops : Array Oper) (o : Oper) : Region.wanted o (yielded ops tmps) = guardOk ops r o := by
  unfold Region.wanted guardOk
  cases hg : o.guard with
  | none => rfl
  | some jw =>
    obtain ⟨j, want⟩ := jw
    simp only
    unfold yielded
    cases hj : ops[j]? with
    | none => rfl
    | some g =>
      simp only [Option.bind_some]
      cases hd : g.dst with
      | none => rfl
      | some d =>
        simp only [Option.bind_some]
        have hv := hr.2 d
        cases ht : tmps[d]? with
        | none =>
          have e : tmps.getD d undef = undef := by simp [ht]
          rw [e] at hv
          generalize hrd : r.get d = x at hv
          have : ∀ b, x ≠ .bool b := fun b e => by subst e; have : undef = Value.bool b := hv; cases this
          cases x <;> first | rfl | exact absurd rfl (this _)
        | some y =>
          have e : tmps.getD d undef = y := by simp [ht]
          rw [e] at hv
          by_cases hb : ∃ b, y = .bool b
          · obtain ⟨b, rfl⟩ := hb
            rw [bool_rel.1 hv]
            rfl
          · have h1 : ∀ b, r.get d ≠ .bool b := fun b e => hb ⟨b, by rw [e] at hv; exact hv⟩
            have h2 : ∀ b, y ≠ .bool b := fun b e => hb ⟨b, e⟩
            generalize r.get d = x at h1
            have l : ∀ z : Option Bool, z = none → (z == some want) = false := fun z hz => by rw [hz]; rfl
            cases x <;> first
              | exact absurd rfl (h1 _)
              | (refine l _ ?_; cases y <;> first | rfl | exact absurd rfl (h2 _))

/-! ### one operation -/
theorem eval_atR_opv (b : Frame) (a : Act) : a.eval = opv a.tmps := by funext x; cases x <;> rfl

theorem op_nodefer {r : Regs} {o : Oper} {c : Call} (ho : o.op = .defer c) : opA E r h o.op = .bad := by rw [ho]; rfl

theorem op_steps {F : Fns} (ok : EnvOk P E σ) (fok : FnsOk P E σ F) {ops : Array Oper} {i : Nat} {rest : List Nat} {o : Oper} (hi : ops[i]? = some o) {s s' : St} (hs : opStep E F ops o s = some s')
    {a : Act} (rel : SRel E σ μ s a w) (b : Frame) (k : List Item) (cs : List Frame) :
    ∃ μ' w' a', Moves σ μ s.h w.heap μ' s'.h w'.heap ∧ Same3 w w' ∧ SRel E σ μ' s' a' w' ∧
      Steps P (lone (b.atR a (.inRegion ops (i :: rest) :: k)) cs w) (lone (b.atR a' (.inRegion ops rest :: k)) cs w') := by
  unfold opStep at hs
  have hgw := guard_wanted rel.r ops o
  split at hs
  · rename_i hg
    obtain ⟨hr, he⟩ := setReg_rel (q := undef) hs rel (Moves.refl rel.h) rfl
    refine ⟨μ, w, a.put o.dst undef, by rw [he]; exact Moves.refl rel.h, Same3.refl _, hr, ?_⟩
    have := stepR_op_skip (P := P) (b := b) (a := a) (k := k) (cs := cs) (w := w) (ops := ops) (i := i) (rest := rest) (by rw [hi]; simp [hgw, hg])
    rw [hi] at this
    exact .one this
  · rename_i hg
    have hop := op_sound (P := P) (w := w) ok rel.h rel.g rel.r.2 o
    have hnd : ∀ c, o.op ≠ .defer c := fun c hc => by rw [op_nodefer hc] at hs; cases hs
    have hw : Region.wanted o (yielded ops a.tmps) = true := by rw [hgw, hg]
    have hstepG := stepGR_op (P := P) (b := b) (k := k) (cs := cs) (w := w) (rest := rest) hi hw
    rw [Oper.semAt_eq _ _ _ hnd, eval_atR_opv b a] at hstepG
    have hfin : ∀ v, (b.atR a (.inRegion ops (i :: rest) :: k)).finish v = b.atR (a.put o.dst v) (.inRegion ops rest :: k) := by
      intro v; rw [Frame.finish_atR, hi]; rfl
    split at hs
    · rename_i v h1 heq
      rw [heq] at hop
      obtain ⟨q, w', μ', e1, e2, e3, e4⟩ := hop
      obtain ⟨hr, he⟩ := setReg_rel hs rel e3 e4
      refine ⟨μ', w', a.put o.dst q, by rw [he]; exact e3, e2, hr, .one (step_lone_go ?_)⟩
      rw [hstepG, ← hfin]; simp [stepG.apply, e1]
    · rename_i h1 heq
      rw [heq] at hop
      obtain ⟨w', μ', e1, e2, e3⟩ := hop
      obtain ⟨hr, he⟩ := setReg_rel (q := undef) hs rel e3 rfl
      refine ⟨μ', w', a.put o.dst undef, by rw [he]; exact e3, e2, hr, .one (step_lone_go ?_)⟩
      rw [hstepG, ← hfin]; simp [stepG.apply, e1]
    · rename_i f args heq
      rw [heq] at hop
      obtain ⟨u, us, e1, e2, e3⟩ := hop
      split at hs
      · rename_i v h1 hcall
        have hc := fok.call _ _ _ _ _ hcall μ w u us rel.g rel.h e1 e2
        obtain ⟨q, w', μ', c1, c2, c3, c4⟩ := call_back hc (b.atR a (.inRegion ops (i :: rest) :: k)) cs (.inl ⟨_, _, _, rfl⟩)
        obtain ⟨hr, he⟩ := setReg_rel hs rel c2 c3
        refine ⟨μ', w', a.put o.dst q, by rw [he]; exact c2, c1, hr, ?_⟩
        rw [← hfin]
        refine c4 _ fun fr' cs' w'' hgo => step_lone_go ?_
        rw [hstepG, e3]
        exact hgo
      · cases hs
    · cases hs
end
end Go.Ev
