/-
  From the evaluator to contracts, and from contracts to known functions; tables of types and functions.
-/
import Derived.Test.YtkdjcmpgnkecfaaGreatDoorE27
import Derived.Below
import Derived.Laws.Tables
noncomputable section
namespace Go.Ev
open Go.RowKit
set_option linter.unusedVariables false
set_option linter.unusedSimpArgs false

section
variable {P : Program} {E : Env} {σ : Nat → Int}

theorem inv_func {f : FuncId} {fn : Func} {body : Code} (ok : EnvOk P E σ) (hf : E.fn f = some fn) (hb : fn.body = some body) (us : Array Value) (w : World) :
    (inv (.func (.func f) #[] #[]) us).run P w = .ok (.enter f us) w := by
  obtain ⟨hpf, hname⟩ := ok.fn f fn hf
  simp only [inv, Deferred.ofValue, Sem.run_bind, Sem.run_pure, Result.andThen_ok, invoke, callFunc, run_program, hpf, hname, hb, Option.isNone_some, Bool.false_eq_true, if_false, Array.empty_append, Array.append_empty]

/-- a function of the program, called with known arguments where nothing is known of memory -/
theorem calls_at {F : Fns} (ok : EnvOk P E σ) (fok : FnsOk P E σ F) {f : FuncId} {fn : Func} {body : Code} (hf : E.fn f = some fn) (hb : fn.body = some body) {args : List AV} {h h' : AH} {v : AV}
    (he : F.call (.func f [] []) args h = some (v, h')) {μ : Map} {w : World} {us : Array Value} (hg : GRel E μ) (rel : HRel σ μ h w.heap) (hu : VsRel σ μ args us.toList) :
    Calls P f us w fun e w' => ∃ q μ', e = .returned q ∧ VRel σ μ' v q ∧ Same3 w w' ∧ Moves σ μ h w.heap μ' h' w'.heap := by
  have hc := fok.call _ _ _ _ _ he μ w (.func (.func f) #[] #[]) us hg rel ⟨#[], #[], rfl, rfl, rfl⟩ hu
  have hi := inv_func ok hf hb us w
  rcases hc with ⟨f', args', hr, hcall⟩ | ⟨_, _, _, _, _, hr, _⟩ | ⟨_, _, _, hr, _⟩
  · rw [hi] at hr
    cases hr
    intro cs
    obtain ⟨fr, q, w', μ', h1, h2, h3, h4, h5, h6⟩ := hcall cs
    exact ⟨.returned q, w', fr, ⟨q, μ', rfl, h6, h4, h5⟩, h1, h2, h3⟩
  · rw [hi] at hr; cases hr
  · rw [hi] at hr; cases hr

def AH.none : AH := { next := 0, tr := .nil }
theorem HRel.none (H : Array Obj) : HRel σ (fun _ => Option.none) AH.none H where
  obj := fun _ _ _ h => by cases h
  inj := fun _ _ _ _ h => by cases h
  lt := fun _ _ h => by cases h
  topμ := fun _ _ => rfl
  toph := fun id _ => Tr.get_nil id

theorem below_of_moves {μ μ' : Map} {h h' : AH} {w w' : World} (hs : Same3 w w') (hm : Moves σ μ h w.heap μ' h' w'.heap) (hno : ∀ b, ¬ Own μ h b) : Below w.heap.size w w' :=
  ⟨hs.1, hs.2.1, hs.2.2, hm.size, fun k hk => hm.frame k hk (hno k)⟩

/-- .. where the program's package-level variables are not looked at -/
theorem calls_none {F : Fns} (ok : EnvOk P E σ) (fok : FnsOk P E σ F) (hng : E.ng = 0) {f : FuncId} {fn : Func} {body : Code} (hf : E.fn f = some fn) (hb : fn.body = some body) {args : List AV} {h' : AH} {v : AV}
    (he : F.call (.func f [] []) args AH.none = some (v, h')) {w : World} {us : Array Value} (hu : VsRel σ (fun _ => Option.none) args us.toList) :
    Calls P f us w fun e w' => ∃ q μ', e = .returned q ∧ VRel σ μ' v q ∧ Below w.heap.size w w' := by
  have := calls_at ok fok hf hb he (μ := fun _ => Option.none) (w := w) (us := us) (fun g hl => by rw [hng] at hl; omega) (HRel.none _) hu
  refine this.mono fun e w' ⟨q, μ', h1, h2, h3, h4⟩ => ⟨q, μ', h1, h2, below_of_moves h3 h4 ?_⟩
  rintro b ⟨id, loc, o, hm, _⟩
  cases hm

/-! ### known functions -/
theorem moves_below {μ : Map} {h : AH} {w w' : World} (rel : HRel σ μ h w.heap) (hb : Below w.heap.size w w') : Moves σ μ h w.heap μ h w'.heap where
  ext := Ext.refl _
  rel :=
    { obj := fun id loc o hm ho => by rw [hb.block _ (rel.lt id loc hm)]; exact rel.obj id loc o hm ho
      inj := rel.inj
      lt := fun id loc hm => Nat.lt_of_lt_of_le (rel.lt id loc hm) hb.size
      topμ := rel.topμ
      toph := rel.toph }
  next := Nat.le_refl _
  keptμ := fun _ _ h => h
  kept := fun _ _ _ => rfl
  size := hb.size
  own := fun _ _ h => h
  frame := fun b hlt _ => hb.block b hlt

theorem callRel_of_calls (ok : EnvOk P E σ) {f : FuncId} {fn : Func} {body : Code} (hf : E.fn f = some fn) (hb : fn.body = some body) {us : Array Value} {v : AV} {μ : Map} {h : AH} {w : World} (rel : HRel σ μ h w.heap)
    (hc : Calls P f us w fun e w' => ∃ q, e = .returned q ∧ VRel σ μ v q ∧ Below w.heap.size w w') : CallRel P σ μ h w (.func (.func f) #[] #[]) us v h := by
  refine .inl ⟨f, us, inv_func ok hf hb us w, fun cs => ?_⟩
  obtain ⟨e, w', fr, ⟨q, rfl, hv, hbl⟩, h1, h2, h3⟩ := hc cs
  exact ⟨fr, q, w', μ, h1, h2, h3, ⟨hbl.os, hbl.tape, hbl.output⟩, moves_below rel hbl, hv⟩

def pure1 (g : List AV → Option AV) : List AV → AH → Option (AV × AH) := fun args h => match g args with
  | some v => some (v, h)
  | none => none

/-- a table of known functions -/
def primsOf : List (FuncId × (List AV → AH → Option (AV × AH))) → Prims
  | [], _ => none
  | (f, q) :: r, g => bif Nat.beq g f then some q else primsOf r g

def PrimOk (P : Program) (E : Env) (σ : Nat → Int) (f : FuncId) (q : List AV → AH → Option (AV × AH)) : Prop :=
  ∀ args h v h', q args h = some (v, h') → ∀ μ w (us : Array Value), GRel E μ → HRel σ μ h w.heap → VsRel σ μ args us.toList → CallRel P σ μ h w (.func (.func f) #[] #[]) us v h'

theorem prims_nil : PrimsOk P E σ (primsOf []) := fun g q h => by cases h
theorem prims_cons {f : FuncId} {q : List AV → AH → Option (AV × AH)} {r : List (FuncId × (List AV → AH → Option (AV × AH)))} (h1 : PrimOk P E σ f q) (h2 : PrimsOk P E σ (primsOf r)) : PrimsOk P E σ (primsOf ((f, q) :: r)) := by
  intro g q' h
  simp only [primsOf] at h
  cases hb : Nat.beq g f with
  | true =>
    rw [hb] at h
    cases h
    have := Go.Ev.beq_true.1 hb
    subst this
    exact h1
  | false => rw [hb] at h; exact h2 g q' h

theorem pure_ok (ok : EnvOk P E σ) {f : FuncId} {fn : Func} {body : Code} (hf : E.fn f = some fn) (hb : fn.body = some body) {g : List AV → Option AV}
    (hc : ∀ args v, g args = some v → ∀ μ (us : Array Value) w, VsRel σ μ args us.toList → Calls P f us w fun e w' => ∃ q, e = .returned q ∧ VRel σ μ v q ∧ Below w.heap.size w w') : PrimOk P E σ f (pure1 g) := by
  intro args h v h' he μ w us hg rel hu
  unfold pure1 at he
  cases hga : g args with
  | none => rw [hga] at he; cases he
  | some v' =>
    rw [hga] at he
    cases he
    exact callRel_of_calls ok hf hb rel (hc args v hga μ us w hu)

/-! ### tables -/
def noBlank : TypeDesc → Bool
  | .struct fs => fs.toList.all fun f => f.name != "_"
  | _ => true

def partsOf (P : Program) : TypeDesc → Option (List (Nat × Nat))
  | .struct fs => fs.toList.mapM fun f => (P.info? f.type).map fun i => (f.offset, i.size)
  | _ => some []

/-- what the program says of a type -/
def mkTy (P : Program) (t : TypeId) : TyI :=
  { desc := (P.underlying t).getD .bool
    size := ((P.info? t).map fun i => i.size).getD 0
    bytes := ((P.info? t).map fun i => i.bytes).getD 0
    zero := ((((P.info? t).bind fun i => i.zero).bind constAV).map AV.cells).getD []
    plain := !P.stoodInHeld t && !P.eqGuardType P.depth t && noBlank ((P.underlying t).getD .bool)
    parts := (partsOf P ((P.underlying t).getD .bool)).getD [] }

structure TyNow (P : Program) (t : TypeId) (i : TyI) : Prop where
  und : P.underlying t = some i.desc
  info : ((P.info? t).bind fun inf => inf.zero.bind fun z => (constAV z).map fun a => (inf.size, inf.bytes, a)) = some (i.size, i.bytes, i.zeroV)
  cells : i.zeroV.cells = i.zero
  parts : partsOf P i.desc = some i.parts
  zlen : Nat.beq i.zero.length i.size = true
  scal1 : (isAggD i.desc || Nat.beq i.size 1) = true
  plain : (!i.plain || (!P.stoodInHeld t && !P.eqGuardType P.depth t && noBlank i.desc)) = true

theorem mapM_pair (w : World) (fs : List Field) (l : List (Nat × Nat)) (h : fs.mapM (fun f => (P.info? f.type).map fun i => (f.offset, i.size)) = some l) :
    (fs.mapM (fun f => do pure (f.offset, ← sizeOf f.type) : Field → Sem (Nat × Nat))).run P w = .ok l w := by
  have e : (fun f => do pure (f.offset, ← sizeOf f.type) : Field → Sem (Nat × Nat)) = fun f => Prod.mk f.offset <$> sizeOf f.type := by
    funext f
    rw [map_eq_pure_bind]
  rw [e]
  exact run_places w fs l h

theorem TyNow.ok {t : TypeId} {i : TyI} (h : TyNow P t i) : TyOk P σ t i where
  und := h.und
  info := by
    have := h.info
    cases hi : P.info? t with
    | none => rw [hi] at this; cases this
    | some inf =>
      rw [hi] at this
      simp only [Option.bind_some] at this
      cases hz : inf.zero with
      | none => rw [hz] at this; cases this
      | some z =>
        rw [hz] at this
        simp only [Option.bind_some] at this
        cases hc : constAV z with
        | none => rw [hc] at this; cases this
        | some a =>
          rw [hc] at this
          simp only [Option.map_some, Option.some.injEq, Prod.mk.injEq] at this
          obtain ⟨e1, e2, e3⟩ := this
          subst e3
          refine ⟨inf, z, rfl, e1, e2, hz, fun μ => const_rel hc, fun μ => ?_⟩
          have := cells_rel (σ := σ) (μ := μ) (const_rel hc)
          rwa [h.cells] at this
  parts := fun fs hd w => by
    have := h.parts
    rw [hd] at this
    have := mapM_pair (P := P) w fs.toList i.parts this
    rw [Array.mapM_eq_mapM_toList]
    simp only [map_eq_pure_bind, Sem.run_bind, this, Result.andThen_ok, Sem.run_pure]
  zlen := Go.Ev.beq_true.1 h.zlen
  scal1 := fun ha => by
    have := h.scal1
    rw [ha, Bool.false_or] at this
    exact Go.Ev.beq_true.1 this
  plain := fun hp => by
    have := h.plain
    rw [hp] at this
    simp only [Bool.not_true, Bool.false_or, Bool.and_eq_true, Bool.not_eq_true'] at this
    refine ⟨this.1.1, this.1.2, fun fs hd f hf => ?_⟩
    have hb := this.2
    rw [hd] at hb
    simp only [noBlank, List.all_eq_true] at hb
    simpa using hb f hf

def tysOf : List (TypeId × TyI) → TypeId → Option TyI
  | [], _ => none
  | (t, i) :: r, u => bif Nat.beq u t then some i else tysOf r u
def TysNow (P : Program) : List (TypeId × TyI) → Prop
  | [] => True
  | (t, i) :: r => TyNow P t i ∧ TysNow P r
theorem tys_ok : ∀ {l : List (TypeId × TyI)}, TysNow P l → ∀ t i, tysOf l t = some i → TyOk P σ t i
  | [], _, t, i, h => by cases h
  | (u, j) :: r, ⟨h1, h2⟩, t, i, h => by
    simp only [tysOf] at h
    cases hb : Nat.beq t u with
    | true =>
      rw [hb] at h
      cases h
      have := Go.Ev.beq_true.1 hb
      subst this
      exact h1.ok
    | false => rw [hb] at h; exact tys_ok h2 t i h

def fnsOf : List (FuncId × Func) → FuncId → Option Func
  | [], _ => none
  | (f, fn) :: r, g => bif Nat.beq g f then some fn else fnsOf r g
def FnsNow (P : Program) : List (FuncId × Func) → Prop
  | [] => True
  | (f, fn) :: r => (P.funcs[f]? = some fn ∧ (fn.name == "runtime.NumGoroutine") = false) ∧ FnsNow P r
theorem fnsOf_ok : ∀ {l : List (FuncId × Func)}, FnsNow P l → ∀ f fn, fnsOf l f = some fn → P.funcs[f]? = some fn ∧ (fn.name == "runtime.NumGoroutine") = false
  | [], _, t, i, h => by cases h
  | (u, j) :: r, ⟨h1, h2⟩, t, i, h => by
    simp only [fnsOf] at h
    cases hb : Nat.beq t u with
    | true =>
      rw [hb] at h
      cases h
      have := Go.Ev.beq_true.1 hb
      subst this
      exact h1
    | false => rw [hb] at h; exact fnsOf_ok h2 t i h
end
end Go.Ev
