/-
  Aggregates; all operations that only look, and all that make memory.
-/
import Derived.Test.YtkdjcmpgnkecfaaGreatDoorE11
noncomputable section
namespace Go.Ev
set_option linter.unusedVariables false
set_option linter.unusedSimpArgs false

section
variable {P : Program} {E : Env} {σ : Nat → Int} {μ : Map} {h : AH} {w : World} {r : Regs} {tmps : Array Value}

theorem VsRel.set : ∀ {as : List AV} {vs : List Value}, VsRel σ μ as vs → ∀ (i : Nat) {a : AV} {v : Value}, VRel σ μ a v → VsRel σ μ (as.set i a) (vs.set i v)
  | [], _, e, i, a, v, _ => by rw [VsRel.nil_iff.1 e]; rfl
  | b :: as, _, ⟨u, us, rfl, p, q⟩, 0, a, v, hv => ⟨v, us, rfl, hv, q⟩
  | b :: as, _, ⟨u, us, rfl, p, q⟩, i + 1, a, v, hv => ⟨u, _, rfl, p, VsRel.set q i hv⟩

theorem setRange_rel : ∀ (vs : List AV) (us : List Value) (cs : List AV) (xs : Array Value) (off n : Nat), VsRel σ μ vs us → VsRel σ μ cs xs.toList →
    VsRel σ μ (setRange cs (off + n) vs) ((us.zipIdx n).foldl (fun (cs : Array Value) (p : Value × Nat) => cs.setIfInBounds (off + p.2) p.1) xs).toList
  | [], us, cs, xs, off, n, hv, hc => by rw [VsRel.nil_iff.1 hv]; exact hc
  | v :: vs, _, cs, xs, off, n, ⟨u, us, rfl, hu, hus⟩, hc => by
    simp only [setRange, List.zipIdx_cons, List.foldl_cons]
    have := setRange_rel vs us (cs.set (off + n) v) (xs.setIfInBounds (off + n) u) off (n + 1) hus (by rw [Array.toList_setIfInBounds]; exact hc.set _ hu)
    rwa [← Nat.add_assoc] at this

theorem setRange_length : ∀ (vs cs : List AV) (i : Nat), (setRange cs i vs).length = cs.length
  | [], cs, i => rfl
  | v :: vs, cs, i => by simp only [setRange, setRange_length vs, List.length_set]

def PsRel (σ : Nat → Int) (μ : Map) : List (Nat × AV) → List (Nat × Value) → Prop
  | [], qs => qs = []
  | (i, v) :: ps, qs => ∃ x qs', qs = (i, x) :: qs' ∧ VRel σ μ v x ∧ PsRel σ μ ps qs'

theorem parts_rel (hg : GRel E μ) (hr : ∀ i, VRel σ μ (r.get i) (tmps.getD i undef)) : ∀ {ps : List (Nat × Operand)} {l : List (Nat × AV)}, evalParts E r ps = some l →
    PsRel σ μ l (ps.map fun (p : Nat × Operand) => (p.1, opv tmps p.2))
  | [], _, he => by cases he; rfl
  | (i, x) :: ps, _, he => by
    unfold evalParts at he
    split at he
    · rename_i v l h1 h2
      cases he
      exact ⟨_, _, rfl, opd_rel hg hr h1, parts_rel hg hr h2⟩
    · cases he

theorem fill_sound {pl : Nat → Option (Nat × Nat)} : ∀ (ps : List (Nat × AV)) (qs : List (Nat × Value)) (cs cs' : List AV) (xs : Array Value), fillA pl cs ps = some cs' → PsRel σ μ ps qs → VsRel σ μ cs xs.toList →
    ∃ xs', Instr.fill pl xs qs = some xs' ∧ VsRel σ μ cs' xs'.toList
  | [], qs, cs, cs', xs, he, hp, hc => by
    have : qs = [] := hp
    subst this
    simp only [fillA] at he
    cases he
    exact ⟨xs, rfl, hc⟩
  | (i, v) :: ps, _, cs, cs', xs, he, ⟨x, qs, rfl, hx, hp⟩, hc => by
    simp only [fillA] at he
    split at he
    · cases he
    · rename_i off size hpl
      replace he := bif_some he; obtain ⟨hb, he⟩ := he
      have hcx := cells_rel hx
      have l1 : x.cells.size = size := by rw [← beq_true.1 (and_true2 hb).1, hcx.length, Array.length_toList]
      have l2 : off + x.cells.size ≤ xs.size := by
        have := ble_true.1 (and_true2 hb).2
        rw [hcx.length, hc.length, Array.length_toList, Array.length_toList] at this
        exact this
      have h2 := setRange_rel v.cells x.cells.toList cs xs off 0 hcx hc
      obtain ⟨xs', e, rx⟩ := fill_sound ps qs _ cs' _ he hp h2
      refine ⟨xs', ?_, rx⟩
      have hcond : (decide (x.cells.size ≠ size) || decide (off + x.cells.size > xs.size)) = false := by simp [l1]; omega
      simp only [Instr.fill, hpl, hcond, Bool.false_eq_true, if_false]
      rw [← Array.foldl_toList, Array.toList_zipIdx]
      exact e

theorem build_sound (ok : EnvOk P E σ) {t : TypeId} {ps : List (Nat × AV)} {qs : Array (Nat × Value)} {i : TyI} {v : AV} (ht : E.ty t = some i) (hp : PsRel σ μ ps qs.toList)
    (hv : (match i.desc with
      | .struct _ => match fillA (fun k => i.parts[k]?) i.zero ps with
        | some cs => some (.agg cs)
        | none => none
      | .array _ e => match E.ty e with
        | some ie => match fillA (fun k => some (k * ie.size, ie.size)) i.zero ps with
          | some cs => some (.agg cs)
          | none => none
        | none => none
      | _ => none) = some v) : ∃ q, (Instr.build t qs).run P w = .ok q w ∧ VRel σ μ v q := by
  obtain ⟨z, hz, _, rz⟩ := run_zero (P := P) ok ht
  split at hv
  · rename_i fs hd
    split at hv
    · rename_i cs hf
      cases hv
      obtain ⟨xs, hx, rx⟩ := fill_sound ps qs.toList i.zero cs z.cells hf hp (rz μ)
      refine ⟨.agg xs, ?_, xs, rfl, rx⟩
      have hparts := (ok.ty t i ht).parts fs hd w
      have hx' : Instr.fill (fun k => i.parts.toArray[k]?) z.cells qs.toList = some xs := by
        rw [← hx]
        congr 1
        funext k
        simp
      simp only [Instr.build, Sem.run_bind, hz, Result.andThen_ok, run_und ok ht, hd]
      rw [hparts]
      simp only [Result.andThen_ok, hx', Sem.run_pure]
    · cases hv
  · rename_i n e hd
    split at hv
    · rename_i ie hie
      split at hv
      · rename_i cs hf
        cases hv
        obtain ⟨xs, hx, rx⟩ := fill_sound ps qs.toList i.zero cs z.cells hf hp (rz μ)
        exact ⟨.agg xs, by simp [Instr.build, hz, run_und ok ht, hd, run_size ok hie, hx], xs, rfl, rx⟩
      · cases hv
    · cases hv
  · cases hv

theorem look_sound (ok : EnvOk P E σ) (rel : HRel σ μ h w.heap) (hg : GRel E μ) (hr : ∀ i, VRel σ μ (r.get i) (tmps.getD i undef)) {o : Oper} {v : AV} (hv : lookOp E r h o.op = some v) :
    ∃ q, (execOp (opv tmps) o).run P w = .ok (.value q) w ∧ VRel σ μ v q := by
  obtain ⟨dst, op, ty, pos, after, guard⟩ := o
  simp only at hv
  have wrap : ∀ {s : Sem Value} {v : AV}, (∃ q, s.run P w = .ok q w ∧ VRel σ μ v q) → ∃ q, (do pure (Next.value (← s)) : Sem Next).run P w = .ok (.value q) w ∧ VRel σ μ v q :=
    fun ⟨q, e, rq⟩ => ⟨q, by simp [e], rq⟩
  have O := fun {x : Operand} {v : AV} (he : evalOperand E r x = some v) => opd_rel (σ := σ) hg hr he
  cases op <;> simp only [lookOp] at hv <;> first | (cases hv; done) | skip
  case move x => exact ⟨_, rfl, O hv⟩
  case assign x => exact ⟨_, rfl, O hv⟩
  case pick c a b =>
    split at hv
    · rename_i hc
      have e : opv tmps c = _ := O hc
      exact ⟨_, by simp [execOp, e, asBool], O hv⟩
    · rename_i hc
      have e : opv tmps c = _ := O hc
      exact ⟨_, by simp [execOp, e, asBool], O hv⟩
    · cases hv
  case build t parts =>
    split at hv
    · rename_i i ps ht hps
      have := parts_rel (σ := σ) hg hr hps
      refine wrap (build_sound (P := P) ok ht (qs := parts.map fun (i, x) => (i, opv tmps x)) ?_ hv)
      rw [Array.toList_map]
      exact this
    · cases hv
  case load t a =>
    split at hv
    · rename_i id off ha
      obtain ⟨loc, hm, e⟩ := O ha
      obtain ⟨q, hq, rq⟩ := load_rel (P := P) ok rel hm hv
      exact ⟨q, by simp [execOp, Instr.loadAt, Instr.sureAddr, e, hq], rq⟩
    · cases hv
  case nilCheck x =>
    split at hv
    · rename_i id off ha
      have ro := O ha
      obtain ⟨loc, hm, e⟩ := ro
      cases hv
      exact ⟨_, by simp only [execOp, e]; rfl, loc, hm, rfl⟩
    · rename_i f a b ha
      have ro := O ha
      obtain ⟨x1, y1, e, ra, rb⟩ := ro
      cases hv
      exact ⟨_, by simp only [execOp, e]; rfl, x1, y1, rfl, ra, rb⟩
    · rename_i l ha
      have ro := O ha
      obtain ⟨loc, hm, e⟩ := ro
      cases hv
      exact ⟨_, by simp only [execOp, e]; rfl, loc, hm, rfl⟩
    · cases hv
  case binOp op t x y yt =>
    split at hv
    · rename_i a b ha hb
      exact wrap (bin_sound (P := P) ok rel hv x y (O ha) (O hb))
    · cases hv
  case unOp op t x =>
    split at hv
    · rename_i a ha
      exact wrap (un_sound hv (O ha))
    · cases hv
  case convert s d x =>
    split at hv
    · rename_i a ha
      exact wrap (conv_sound (P := P) ok rel hv (O ha))
    · cases hv
  case makeFunc fn first captured =>
    split at hv
    · rename_i f a b h1 h2
      cases hv
      have r1 := opds_rel (σ := σ) hg hr h1
      have r2 := opds_rel (σ := σ) hg hr h2
      exact ⟨.func (.func f) (first.map (opv tmps)) (captured.map (opv tmps)), by simp [execOp, Instr.makeFunc], _, _, rfl, by rw [Array.toList_map]; exact r1, by rw [Array.toList_map]; exact r2⟩
    · cases hv
  case slice t x lo hi mx =>
    split at hv
    · rename_i v' lo' hi' mx' h1 h2 h3 h4
      exact wrap (slice_sound (P := P) ok rel hv (O h1) (optInt_sound (σ := σ) hg hr h2) (optInt_sound (σ := σ) hg hr h3) (optInt_sound (σ := σ) hg hr h4))
    · cases hv
  case fieldAddr s x f =>
    split at hv
    · rename_i a ha
      exact wrap (fieldAddr_sound (P := P) ok hv (O ha))
    · cases hv
  case field s x f =>
    split at hv
    · rename_i a ha
      exact wrap (field_sound (P := P) ok hv (O ha))
    · cases hv
  case indexAddr t x ix =>
    split at hv
    · rename_i a b ha hb
      exact wrap (indexAddr_sound (P := P) ok hv (O ha) (O hb))
    · cases hv
  case index t x ix =>
    split at hv
    · rename_i a b ha hb
      exact wrap (index_sound (P := P) ok hv (O ha) (O hb))
    · cases hv
  case lookup t x ix b =>
    split at hv
    · rename_i a b ha hb
      exact wrap (lookup_sound (P := P) ok rel hv (O ha) (O hb))
    · cases hv
  case extract t i =>
    split at hv
    · rename_i vs ha
      obtain ⟨us, e, ru⟩ := O ha
      obtain ⟨q, hq, rq⟩ := ru.get i v hv
      have hq' : us[i]? = some q := by simpa using hq
      exact ⟨q, by simp [execOp, Instr.extract, e, hq'], rq⟩
    · cases hv
  case call c =>
    obtain ⟨callee, args, argTypes⟩ := c
    simp only at hv
    have args1 : ∀ {x : AV}, evalOperands E r args.toList = some [x] → ∃ u, args.map (opv tmps) = #[u] ∧ VRel σ μ x u := by
      intro x hx
      obtain ⟨u, us, e, ru, rn⟩ := opds_rel (σ := σ) hg hr hx
      rw [VsRel.nil_iff.1 rn] at e
      refine ⟨u, ?_, ru⟩
      apply Array.toList_inj.1
      rw [Array.toList_map, e]
    split at hv
    · rename_i x ha
      split at hv
      · rename_i t ht
        obtain ⟨u, e, ru⟩ := args1 ha
        obtain ⟨q, hq, rq⟩ := len_sound (P := P) ok rel argTypes ht ty hv ru
        exact ⟨q, by simp [execOp, resolve, invoke, builtin, e, hq], rq⟩
      · cases hv
    · rename_i x ha
      split at hv
      · rename_i t ht
        obtain ⟨u, e, ru⟩ := args1 ha
        obtain ⟨q, hq, rq⟩ := cap_sound (P := P) (w := w) ok argTypes ht ty hv ru
        exact ⟨q, by simp [execOp, resolve, invoke, builtin, e, hq], rq⟩
      · cases hv
    · rename_i x xs ha
      obtain ⟨u, us, e, ru, rn⟩ := opds_rel (σ := σ) hg hr ha
      obtain ⟨q, hq, rq⟩ := min_sound (P := P) (w := w) xs x v us u hv ru rn
      have e' : (args.map (opv tmps)).toList = u :: us := by rw [Array.toList_map, e]
      exact ⟨q, by simp [execOp, resolve, invoke, builtin, Builtin.min_, e, hq], rq⟩
    · rename_i x xs ha
      obtain ⟨u, us, e, ru, rn⟩ := opds_rel (σ := σ) hg hr ha
      obtain ⟨q, hq, rq⟩ := max_sound (P := P) (w := w) xs x v us u hv ru rn
      have e' : (args.map (opv tmps)).toList = u :: us := by rw [Array.toList_map, e]
      exact ⟨q, by simp [execOp, resolve, invoke, builtin, Builtin.max_, e, hq], rq⟩
    · cases hv
end
end Go.Ev
