/-
  What lifted code computes is what the evaluator computes: regions that draw their order.
-/
import Derived.Test.YtkdjcmpgnkecfaaGreatDoorL3
noncomputable section
namespace Go.Ev
set_option linter.unusedVariables false
set_option linter.unusedSimpArgs false

theorem eqI_refl (a : Int) : eqI a a = true := by cases a <;> exact beq_true.2 rfl
theorem eqK_refl (k : IntKind) : eqK k k = true := by cases k <;> rfl
theorem nbeq_refl (a : Nat) : Nat.beq a a = true := beq_true.2 rfl
mutual
theorem AV.beq_refl : ∀ v : AV, AV.beq v v = true
  | .undef | .nilPtr | .nilSlice | .nilMap | .nilFunc | .nilIface => by simp only [AV.beq]
  | .bool b => by simp [AV.beq]
  | .int k n => by simp [AV.beq, eqK_refl, eqI_refl]
  | .sym k e => by simp [AV.beq, eqK_refl, nbeq_refl]
  | .str l n => by simp [AV.beq, nbeq_refl]
  | .ptr a b => by simp [AV.beq, nbeq_refl]
  | .slice a b c d e f => by simp [AV.beq, nbeq_refl]
  | .map a => by simp [AV.beq, nbeq_refl]
  | .func f a b => by simp [AV.beq, nbeq_refl, AV.beqL_refl a, AV.beqL_refl b]
  | .yield a => by simp [AV.beq, nbeq_refl]
  | .iface t v => by simp [AV.beq, nbeq_refl, AV.beq_refl v]
  | .agg l => by simp [AV.beq, AV.beqL_refl l]
  | .tuple l => by simp [AV.beq, AV.beqL_refl l]
theorem AV.beqL_refl : ∀ l : List AV, AV.beqL l l = true
  | [] => by simp [AV.beqL]
  | v :: l => by simp [AV.beqL, AV.beq_refl v, AV.beqL_refl l]
end

section
variable {E : Env} {p : Prims} {n : Nat}

theorem eqA_simple {t : TypeId} (hs : isSimpleTy E t = true) (h g : AH) (d : Nat) (x y : AV) : eqA E h (d + 1) t x y = eqA E g (d + 1) t x y := by
  unfold isSimpleTy at hs
  unfold eqA
  cases ht : E.ty t with
  | none => rfl
  | some i =>
    rw [ht] at hs
    dsimp only at hs ⊢
    cases hd : i.desc <;> rw [hd] at hs <;> first | (cases hs; done) | (cases x <;> cases y <;> rfl)

theorem binA_simple {t : TypeId} (hs : isSimpleTy E t = true) (h g : AH) (op : BinOp) (x y : AV) : binA E h op t x y = binA E g op t x y := by
  have e : ∀ a b, eqA E h 9 t a b = eqA E g 9 t a b := fun a b => eqA_simple hs h g 8 a b
  unfold binA
  simp only [e]

theorem convA_simple {s d : TypeId} (hs : (isIntTy E d || isStrTy E s) = true) (h g : AH) (x : AV) : convA E h s d x = convA E g s d x := by
  unfold convA
  unfold isIntTy isStrTy at hs
  cases h1 : E.ty s with
  | none => rfl
  | some i =>
    cases h2 : E.ty d with
    | none => rfl
    | some j =>
      rw [h1, h2] at hs
      cases x <;> try rfl
      dsimp only at hs ⊢
      simp only [Bool.or_eq_true] at hs
      rcases hs with hs | hs
      · cases hd : j.desc <;> rw [hd] at hs <;> first | (cases hs; done) | (cases i.desc <;> rfl)
      · cases hd : i.desc <;> rw [hd] at hs <;> first | (cases hs; done) | (cases j.desc <;> rfl)

theorem sliceA_simple {t : TypeId} (hs : isArrTy E t = false) (h g : AH) (x : AV) (lo hi mx : Option Int) : sliceA E h t x lo hi mx = sliceA E g t x lo hi mx := by
  unfold sliceA
  unfold isArrTy at hs
  cases h1 : E.ty t with
  | none => rfl
  | some i =>
    rw [h1] at hs
    dsimp only at hs ⊢
    cases hd : i.desc <;> rw [hd] at hs <;> first | (cases hs; done) | (cases x <;> rfl)

theorem lenOpA_simple {t : TypeId} (hs : isMapTy E t = false) (h g : AH) (x : AV) : lenOpA E h t x = lenOpA E g t x := by
  unfold lenOpA
  unfold isMapTy at hs
  cases h1 : E.ty t with
  | none => rfl
  | some i =>
    rw [h1] at hs
    dsimp only at hs ⊢
    cases hd : i.desc <;> rw [hd] at hs <;> first | (cases hs; done) | (cases x <;> rfl)

/-- a look that does not hang on memory -/
theorem relook_free {ρ r : Regs} (hk : Kno ρ r) {op : Op} (hr : relook E ρ op = none) (h g : AH) : lookOp E r h op = lookOp E r g op := by
  cases op <;> simp only [relook] at hr <;> try (first | (cases hr; done) | rfl)
  case load t a => split at hr <;> cases hr
  case binOp op t x y u =>
    simp only [lookOp]
    cases hs : isSimpleTy E t with
    | true =>
      split
      · exact binA_simple hs h g _ _ _
      · rfl
    | false => rw [hs] at hr; dsimp only [cond] at hr; split at hr <;> cases hr
  case convert s d x =>
    simp only [lookOp]
    cases hs : (isIntTy E d || isStrTy E s) with
    | true =>
      split
      · exact convA_simple hs h g _
      · rfl
    | false => rw [hs] at hr; dsimp only [cond] at hr; split at hr <;> cases hr
  case slice t x lo hi mx =>
    simp only [lookOp]
    cases hs : isArrTy E t with
    | false =>
      split
      · exact sliceA_simple hs h g _ _ _ _
      · rfl
    | true => rw [hs] at hr; dsimp only [cond] at hr; split at hr <;> cases hr
  case lookup t x i ok => split at hr <;> cases hr
  case call c =>
    obtain ⟨callee, args, ts⟩ := c
    simp only [lookOp]
    dsimp only at hr
    split at hr
    · rename_i v ha
      split at hr
      · rename_i t ht
        cases hs : isMapTy E t with
        | true => rw [hs] at hr; cases hr
        | false =>
          rw [atomsD_ok hk ha]
          dsimp only
          rw [ht]
          exact lenOpA_simple hs h g _
      · cases hr
    · rcases evalOperands E r args.toList with _ | ⟨_ | ⟨_, _ | ⟨_, _⟩⟩⟩ <;> rfl
    · rcases evalOperands E r args.toList with _ | ⟨_ | ⟨_, _ | ⟨_, _⟩⟩⟩ <;> rfl
    · rcases evalOperands E r args.toList with _ | ⟨_ | ⟨_, _ | ⟨_, _⟩⟩⟩ <;> rfl
    · cases hr
  all_goals cases hr

theorem relook_some {ρ r : Regs} (hk : Kno ρ r) {op : Op} {f : AH → Option AV} (hr : relook E ρ op = some f) {g : AH} {w : AV} (hf : f g = some w) : lookOp E r g op = some w := by
  cases op <;> simp only [relook] at hr <;> try (first | (cases hr; cases hf; done) | (cases hr; done))
  case load t a =>
    split at hr
    · rename_i ha
      cases hr
      simp only [lookOp, atomD_ok hk ha]
      unfold loadV at hf
      split at hf
      · exact hf
      · cases hf
    · cases hr; cases hf
  case binOp op t x y u =>
    simp only [lookOp]
    cases hs : isSimpleTy E t with
    | true => rw [hs] at hr; cases hr
    | false =>
      rw [hs] at hr
      dsimp only [cond] at hr
      split at hr
      · rename_i ha hb
        cases hr
        rw [atomD_ok hk ha, atomD_ok hk hb]
        exact hf
      · cases hr; cases hf
  case convert s d x =>
    simp only [lookOp]
    cases hs : (isIntTy E d || isStrTy E s) with
    | true => rw [hs] at hr; cases hr
    | false =>
      rw [hs] at hr
      dsimp only [cond] at hr
      split at hr
      · rename_i ha
        cases hr
        rw [atomD_ok hk ha]
        exact hf
      · cases hr; cases hf
  case slice t x lo hi mx =>
    simp only [lookOp]
    cases hs : isArrTy E t with
    | false => rw [hs] at hr; cases hr
    | true =>
      rw [hs] at hr
      dsimp only [cond] at hr
      split at hr
      · rename_i ha hb hc hd
        cases hr
        rw [atomD_ok hk ha, optD_ok hk hb, optD_ok hk hc, optD_ok hk hd]
        unfold sliceV at hf
        split at hf
        · rename_i e1 e2 e3
          rw [e1, e2, e3]
          exact hf
        · cases hf
      · cases hr; cases hf
  case lookup t x i ok =>
    split at hr
    · rename_i ha hb
      cases hr
      simp only [lookOp, atomD_ok hk ha, atomD_ok hk hb]
      exact hf
    · cases hr; cases hf
  case call c =>
    obtain ⟨callee, args, ts⟩ := c
    dsimp only at hr
    split at hr
    · rename_i v ha
      split at hr
      · rename_i t ht
        cases hs : isMapTy E t with
        | false => rw [hs] at hr; cases hr
        | true =>
          rw [hs] at hr
          cases hr
          simp only [lookOp, atomsD_ok hk ha, ht]
          exact hf
      · cases hr; cases hf
    · cases hr
    · cases hr
    · cases hr
    · cases hr; cases hf

def strip (l : List (Nat × Nat × AH)) : List (Nat × AH) := l.map fun q => (q.1, q.2.2)

inductive SyncL (E : Env) (mem : Nat → AH) (ver : Nat) : List SeenD → List Seen → Prop where
  | nil : SyncL E mem ver [] []
  | cons {sd : SeenD} {se : Seen} {l l'} (hi : se.i = sd.i) (hv : se.v = sd.v) (ho : se.o.op = sd.op) (hk : Kno sd.ρ se.r) (hver : sd.ver ≤ ver) (hl : lookOp E se.r (mem sd.ver) sd.op = some sd.v) (t : SyncL E mem ver l l') :
      SyncL E mem ver (sd :: l) (se :: l')

structure Sync (E : Env) (mem : Nat → AH) (ver : Nat) (h : AH) (gs : List (Nat × Nat × AH)) (ls : List SeenD) (gs' : List (Nat × AH)) (ls' : List Seen) : Prop where
  now : mem ver = h
  acts : gs' = strip gs
  old : ∀ q, q ∈ gs → q.2.1 ≤ ver ∧ q.2.2 = mem q.2.1
  looks : SyncL E mem ver ls ls'

theorem SyncL.next {mem : Nat → AH} {ver : Nat} {g : AH} {l l'} (h : SyncL E mem ver l l') : SyncL E (fun q => if q = ver + 1 then g else mem q) (ver + 1) l l' := by
  induction h with
  | nil => exact .nil
  | cons hi hv ho hk hver hl t ih => exact .cons hi hv ho hk (by omega) (by rw [if_neg (by omega)]; exact hl) ih

theorem Sync.next {mem : Nat → AH} {ver : Nat} {h g : AH} {gs ls gs' ls'} (s : Sync E mem ver h gs ls gs' ls') : Sync E (fun q => if q = ver + 1 then g else mem q) (ver + 1) g gs ls gs' ls' where
  now := if_pos rfl
  acts := s.acts
  old := fun q hq => by
    obtain ⟨h1, h2⟩ := s.old q hq
    exact ⟨by omega, by rw [if_neg (by omega)]; exact h2⟩
  looks := s.looks.next
theorem Sync.act {mem : Nat → AH} {ver : Nat} {h : AH} {gs ls gs' ls'} (s : Sync E mem ver h gs ls gs' ls') (i : Nat) : Sync E mem ver h ((i, ver, h) :: gs) ls ((i, h) :: gs') ls' where
  now := s.now
  acts := by rw [s.acts]; rfl
  old := fun q hq => by
    rcases List.mem_cons.1 hq with rfl | hq
    · exact ⟨Nat.le_refl _, s.now.symm⟩
    · exact s.old q hq
  looks := s.looks

theorem newD_ok {ρ r : Regs} (hk : Kno ρ r) {id : Nat} {h : AH} {op : Op} {K : AV → AH → Option R0} {res : R0} (hm : kindOf E op = .make) (hd : newD E ρ id h op K = some res) :
    ∃ f ob, newOp E r op = some (f, ob) ∧ K (f id) (h.put id ob) = some res := by
  have fin : ∀ {o : Option ((Nat → AV) × AObj)}, bM o id h K = some res → ∃ f ob, o = some (f, ob) ∧ K (f id) (h.put id ob) = some res := by
    intro o hb
    unfold bM at hb
    split at hb
    · exact ⟨_, _, rfl, hb⟩
    · cases hb
  cases op <;> simp only [newD] at hd <;> try (cases hd; done)
  case alloc t => exact fin hd
  case box t x =>
    obtain ⟨v, h1, h2⟩ := a1_some hd
    obtain ⟨f, ob, h3, h4⟩ := fin h2
    refine ⟨f, ob, ?_, h4⟩
    unfold boxN at h3
    simp only [newOp, atomD_ok hk h1]
    split at h3
    · rename_i i hi; rw [hi]; exact h3
    · cases h3
  case buildSlice t len ps =>
    split at hd
    · rename_i l hp
      obtain ⟨f, ob, h1, h2⟩ := fin hd
      refine ⟨f, ob, ?_, h2⟩
      simp only [newOp, partsD_ok hk hp]
      unfold buildSliceN at h1
      cases ht : E.ty t with
      | none => rw [ht] at h1; cases h1
      | some i => rw [ht] at h1; exact h1
    · cases hd
  case makeMap t rv =>
    cases rv with
    | none =>
      obtain ⟨f, ob, h1, h2⟩ := fin hd
      cases h1
      exact ⟨_, _, rfl, h2⟩
    | some x => cases hd
  case makeSlice t l c =>
    obtain ⟨a, b, h1, h2, h3⟩ := a2_some hd
    obtain ⟨f, ob, h4, h5⟩ := fin h3
    refine ⟨f, ob, ?_, h5⟩
    simp only [newOp, atomD_ok hk h1, atomD_ok hk h2]
    exact h4
  case convert s d x =>
    obtain ⟨v, h1, h2⟩ := a1_some hd
    split at h2
    · rename_i i hi
      obtain ⟨f, ob, h3, h4⟩ := fin h2
      refine ⟨f, ob, ?_, h4⟩
      simp only [newOp, atomD_ok hk h1, hi]
      unfold convN at h3
      split at h3
      · rename_i he; rw [he]; exact h3
      · cases h3
    · cases h2

/-- a piece of the text's order -/
structure Tr1 (E : Env) (p : Prims) (ops : Array Oper) (base : Nat) (l : List Oper) (i : Nat) (s : St) (gs : List (Nat × AH)) (ls : List Seen) (s' : St) (gs' : List (Nat × AH)) (ls' : List Seen) : Prop where
  runs : ∃ m, ∀ k, m ≤ k → ∀ rest, evTrace E (fns E p k) ops base (l ++ rest) i s gs ls = evTrace E (fns E p k) ops base rest (i + l.length) s' gs' ls'
  n : s'.n = s.n
  ds : s'.ds = s.ds
  other : ∀ t, t ∉ dstL l → Regs.get s'.r t = Regs.get s.r t

theorem Tr1.append {ops : Array Oper} {base : Nat} {l1 l2 : List Oper} {i : Nat} {s s1 s2 : St} {gs gs1 gs2 : List (Nat × AH)} {ls ls1 ls2 : List Seen} (a : Tr1 E p ops base l1 i s gs ls s1 gs1 ls1) (b : Tr1 E p ops base l2 (i + l1.length) s1 gs1 ls1 s2 gs2 ls2) :
    Tr1 E p ops base (l1 ++ l2) i s gs ls s2 gs2 ls2 where
  runs := by
    obtain ⟨m1, h1⟩ := a.runs
    obtain ⟨m2, h2⟩ := b.runs
    refine ⟨max m1 m2, fun k hk rest => ?_⟩
    rw [List.append_assoc, h1 k (by omega), h2 k (by omega), List.length_append, Nat.add_assoc]
  n := b.n.trans a.n
  ds := b.ds.trans a.ds
  other := fun t ht => by
    rw [dstL_append] at ht
    rw [b.other t fun h => ht (List.mem_append_right _ h), a.other t fun h => ht (List.mem_append_left _ h)]

theorem trD_ok {ops : Array Oper} {base : Nat} {gd : Option (Nat × Bool)} {run : Bool} {K : TK} {res : R0} : ∀ {l : List Oper} {i ver : Nat} {ρ : Regs} {s : St} {gs : List (Nat × Nat × AH)} {ls : List SeenD} {mem : Nat → AH} {gs' : List (Nat × AH)} {ls' : List Seen},
    trD E (call E p) n base run l K i ver ρ s.h gs ls = some res → (∀ o, o ∈ l → o.guard = gd) → Stable ops gd (dstL l) → guardV ops s.r gd = run → Kno ρ s.r → s.n = n → Sync E mem ver s.h gs ls gs' ls' →
    ∃ s' ver' ρ' gs2 ls2 mem' gs2' ls2', Tr1 E p ops base l i s gs' ls' s' gs2' ls2' ∧ Kno ρ' s'.r ∧ Sync E mem' ver' s'.h gs2 ls2 gs2' ls2' ∧ K (i + l.length) ver' ρ' s'.h gs2 ls2 = some res
  | [], i, ver, ρ, s, gs, ls, mem, gs', ls', h, _, _, _, hk, _, sy => ⟨s, ver, ρ, gs, ls, mem, gs', ls', ⟨⟨0, fun _ _ _ => rfl⟩, rfl, rfl, fun _ _ => rfl⟩, hk, sy, h⟩
  | o :: l, i, ver, ρ, s, gs, ls, mem, gs', ls', h, hg, hst, hv, hk, hn, sy => by
    unfold trD at h
    cases hdo : dstOk n o with
    | false => rw [hdo] at h; cases h
    | true =>
      rw [hdo] at h
      dsimp only [cond] at h
      have hd : ∀ t, o.dst = some t → t < s.n := fun t e => by rw [hn]; exact dstOk_lt hdo t e
      have hgo : guardOk ops s.r o = run := by rw [guardOk_eq, hg o List.mem_cons_self]; exact hv
      have hst1 : Stable ops gd (dstL [o]) := fun j w q d e1 e2 e3 hm => hst j w q d e1 e2 e3 (by rw [dstL_cons]; exact List.mem_append_left _ hm)
      have next : ∀ (v : AV) (g : AH) (ver1 : Nat) (gs1 : List (Nat × Nat × AH)) (ls1 : List SeenD) (mem1 : Nat → AH) (gs1' : List (Nat × AH)) (ls1' : List Seen),
          trD E (call E p) n base run l K (i + 1) ver1 (setD ρ o.dst v) g gs1 ls1 = some res → Sync E mem1 ver1 g gs1 ls1 gs1' ls1' →
          (∃ m, ∀ k, m ≤ k → ∀ rest, evTrace E (fns E p k) ops base (o :: rest) i s gs' ls' = evTrace E (fns E p k) ops base rest (i + 1) { s with r := setD s.r o.dst v, h := g } gs1' ls1') →
          ∃ s' ver' ρ' gs2 ls2 mem' gs2' ls2', Tr1 E p ops base (o :: l) i s gs' ls' s' gs2' ls2' ∧ Kno ρ' s'.r ∧ Sync E mem' ver' s'.h gs2 ls2 gs2' ls2' ∧ K (i + (o :: l).length) ver' ρ' s'.h gs2 ls2 = some res := by
        intro v g ver1 gs1 ls1 mem1 gs1' ls1' hK sy1 hrun
        obtain ⟨s', ver', ρ', gs2, ls2, mem', gs2', ls2', t2, hk2, sy2, hK2⟩ := trD_ok (l := l) (s := { s with r := setD s.r o.dst v, h := g }) hK (fun x hx => hg x (List.mem_cons_of_mem _ hx))
          (fun j w q d e1 e2 e3 hm => hst j w q d e1 e2 e3 (by rw [dstL_cons]; exact List.mem_append_right _ hm)) (by rw [guardV_same hst1 (fun t ht => setD_other ht)]; exact hv) (hk.setD o.dst v) hn sy1
        have t1 : Tr1 E p ops base [o] i s gs' ls' { s with r := setD s.r o.dst v, h := g } gs1' ls1' := ⟨hrun, rfl, rfl, fun t ht => setD_other ht⟩
        refine ⟨s', ver', ρ', gs2, ls2, mem', gs2', ls2', t1.append t2, hk2, sy2, ?_⟩
        rw [List.length_cons, show i + (l.length + 1) = i + 1 + l.length by omega]
        exact hK2
      cases hko : kindOf E o.op with
      | act =>
        cases run with
        | true =>
          rw [hko] at h
          dsimp only at h
          obtain ⟨v, g, ho, hK⟩ := opD_ok hk h
          obtain ⟨m, hm⟩ := ho.step (ops := ops) (o := o) (s := s) hgo hd
          refine next v g (ver + 1) _ _ _ _ _ hK (sy.act i).next ⟨m, fun k hk' rest => ?_⟩
          conv => lhs; unfold evTrace
          rw [hko]
          dsimp only
          rw [hm k hk']
        | false =>
          rw [hko] at h
          dsimp only at h
          refine next .undef s.h ver _ _ _ _ _ h (sy.act i) ⟨0, fun k hk' rest => ?_⟩
          conv => lhs; unfold evTrace
          rw [hko]
          dsimp only
          unfold opStep
          rw [hgo]
          dsimp only
          rw [setReg_of hd]
      | make =>
        cases run with
        | true =>
          rw [hko] at h
          dsimp only at h
          obtain ⟨f, ob, h1, h2⟩ := newD_ok hk hko h
          refine next _ _ (ver + 1) _ _ _ _ _ h2 sy.next ⟨0, fun k hk' rest => ?_⟩
          conv => lhs; unfold evTrace
          rw [hko, hgo]
          dsimp only
          rw [h1]
          dsimp only
          rw [setReg_of hd]
        | false =>
          rw [hko] at h
          dsimp only at h
          refine next .undef s.h ver _ _ _ _ _ h sy ⟨0, fun k hk' rest => ?_⟩
          conv => lhs; unfold evTrace
          rw [hko, hgo]
          dsimp only
          rw [setReg_of hd]
      | look =>
        cases run with
        | true =>
          rw [hko] at h
          dsimp only at h
          obtain ⟨v, g, ho, hK⟩ := opD_ok hk h
          have hlk : lookOp E s.r s.h o.op = some v := by
            have e : opA E s.r s.h o.op = AN.ofO (lookOp E s.r s.h o.op) s.h := by unfold opA; rw [hko]
            rcases ho with ho | ⟨ho, _⟩ | ⟨_, _, ho, _⟩
            all_goals
              rw [e] at ho
              cases hl : lookOp E s.r s.h o.op <;> rw [hl] at ho <;> cases ho
            rfl
          refine next v s.h ver gs _ mem gs' _ hK ⟨sy.now, sy.acts, sy.old, .cons (se := { i, o, r := s.r, v }) rfl rfl rfl hk (Nat.le_refl _) (by rw [sy.now]; exact hlk) sy.looks⟩ ⟨0, fun k hk' rest => ?_⟩
          conv => lhs; unfold evTrace
          rw [hko, hgo]
          dsimp only
          rw [hlk]
          dsimp only
          rw [setReg_of hd]
        | false =>
          rw [hko] at h
          dsimp only at h
          refine next .undef s.h ver _ _ _ _ _ h sy ⟨0, fun k hk' rest => ?_⟩
          conv => lhs; unfold evTrace
          rw [hko, hgo]
          dsimp only
          rw [setReg_of hd]

theorem bAll_some {f : AH → Option AV} {v : AV} {k : Option R0} {res : R0} : ∀ {l : List AH}, bAll l f v k = some res → (∀ g, g ∈ l → ∃ w, f g = some w ∧ AV.beq w v = true) ∧ k = some res
  | [], h => ⟨(fun g hg => by cases hg), h⟩
  | g :: l, h => by
    unfold bAll at h
    split at h
    · rename_i w hw
      replace h := bif_some h
      obtain ⟨h1, h2⟩ := bAll_some h.2
      refine ⟨fun q hq => ?_, h2⟩
      rcases List.mem_cons.1 hq with rfl | hq
      · exact ⟨w, hw, h.1⟩
      · exact h1 q hq
    · cases h

theorem lookWin_of {bs : List Nat} {i ver lastVer : Nat} {last : AH} {f : AH → Bool} (hl : lastVer = ver → f last = true) : ∀ {gs : List (Nat × Nat × AH)}, (∀ g, g ∈ cands bs i ver lastVer last gs → f g = true) → (∀ q, q ∈ gs → q.2.1 = ver → f q.2.2 = true) →
    lookWin bs i f last (strip gs) = true
  | [], hc, _ => by
    show f last = true
    unfold cands at hc
    cases hb : Nat.beq ver lastVer with
    | true => exact hl (beq_true.1 hb).symm
    | false => rw [hb] at hc; exact hc last (by simp [cond])
  | (a, v, g) :: rest, hc, hs => by
    have ih := fun hc' => lookWin_of (bs := bs) (i := i) (ver := ver) (lastVer := lastVer) (last := last) (f := f) hl (gs := rest) hc' fun q hq => hs q (List.mem_cons_of_mem _ hq)
    show lookWin bs i f last ((a, g) :: strip rest) = true
    unfold lookWin
    unfold cands at hc
    cases h1 : bitB (bs.getD i 0) a with
    | true =>
      rw [h1] at hc
      exact ih hc
    | false =>
      rw [h1] at hc
      dsimp only [cond] at hc ⊢
      have hg : f g = true := by
        by_cases e : v = ver
        · exact hs (a, v, g) List.mem_cons_self e
        · have : Nat.beq ver v = false := beq_false.2 fun h => e h.symm
          rw [this] at hc
          cases h2 : bitB (bs.getD a 0) i with
          | true => rw [h2] at hc; exact hc g (by simp [cond])
          | false => rw [h2] at hc; exact hc g (by simp [cond])
      rw [hg]
      cases h2 : bitB (bs.getD a 0) i with
      | true => rfl
      | false =>
        rw [h2] at hc
        dsimp only [cond] at hc
        simp only [Bool.true_and, Bool.false_or]
        refine ih fun q hq => hc q ?_
        cases Nat.beq ver v with
        | true => exact hq
        | false => exact List.mem_cons_of_mem _ hq

theorem chkD_ok {bs : List Nat} {gs : List (Nat × Nat × AH)} {last : AH} {lastVer : Nat} {mem : Nat → AH} (hnow : mem lastVer = last) (hold : ∀ q, q ∈ gs → q.2.2 = mem q.2.1) {k : Option R0} {res : R0} : ∀ {ls : List SeenD} {ls' : List Seen}, SyncL E mem lastVer ls ls' →
    chkD E bs gs last lastVer ls k = some res → looksOk E bs (strip gs) last ls' = true ∧ k = some res
  | _, _, .nil, h => ⟨rfl, h⟩
  | _, _, .cons (sd := sd) (se := se) hi hv ho hk hver hl t, h => by
    unfold chkD at h
    have same : ∀ q, q ∈ gs → q.2.1 = sd.ver → lookSame E se q.2.2 = true := fun q hq e => by
      unfold lookSame
      rw [ho, hold q hq, e, hl]
      dsimp only
      rw [hv]
      exact AV.beq_refl _
    have lastOk : lastVer = sd.ver → lookSame E se last = true := fun e => by
      unfold lookSame
      rw [ho, ← hnow, e, hl]
      dsimp only
      rw [hv]
      exact AV.beq_refl _
    cases hr : relook E sd.ρ sd.op with
    | none =>
      rw [hr] at h
      dsimp only at h
      obtain ⟨h1, h2⟩ := chkD_ok hnow hold t h
      refine ⟨?_, h2⟩
      unfold looksOk
      rw [Bool.and_eq_true]
      refine ⟨?_, h1⟩
      have all : ∀ g, lookSame E se g = true := fun g => by
        unfold lookSame
        rw [ho, relook_free hk hr g (mem sd.ver), hl]
        dsimp only
        rw [hv]
        exact AV.beq_refl _
      rw [hi]
      exact lookWin_of lastOk (ver := sd.ver) (fun g _ => all g) same
    | some f =>
      rw [hr] at h
      dsimp only at h
      obtain ⟨h0, h⟩ := bAll_some h
      obtain ⟨h1, h2⟩ := chkD_ok hnow hold t h
      refine ⟨?_, h2⟩
      unfold looksOk
      rw [Bool.and_eq_true]
      refine ⟨?_, h1⟩
      rw [hi]
      refine lookWin_of lastOk (ver := sd.ver) (fun g hg => ?_) same
      obtain ⟨w, hw, hb⟩ := h0 g hg
      unfold lookSame
      rw [ho, relook_some hk hr hw]
      dsimp only
      rw [hv]
      exact hb

theorem trG_ok {ops : Array Oper} {base : Nat} {bs : List Nat} {K : Regs → AH → Option R0} {res : R0} : ∀ {gl : List Grp} {i ver : Nat} {ρ : Regs} {s : St} {gs : List (Nat × Nat × AH)} {ls : List SeenD} {mem : Nat → AH} {gs' : List (Nat × AH)} {ls' : List Seen},
    trG E (call E p) n base bs ops gl K i ver ρ s.h gs ls = some res → (∀ g, g ∈ gl → ∀ o, o ∈ g.2 → o.guard = g.1) → Kno ρ s.r → s.n = n → Sync E mem ver s.h gs ls gs' ls' →
    ∃ s' ρ' gs2' ls2', Tr1 E p ops base (gl.flatMap (·.2)) i s gs' ls' s' gs2' ls2' ∧ Kno ρ' s'.r ∧ looksOk E bs gs2'.reverse s'.h ls2' = true ∧ K ρ' s'.h = some res
  | [], i, ver, ρ, s, gs, ls, mem, gs', ls', h, _, hk, _, sy => by
    unfold trG at h
    obtain ⟨h1, h2⟩ := chkD_ok (gs := gs.reverse) sy.now (fun q hq => (sy.old q (by simpa using hq)).2) sy.looks h
    refine ⟨s, ρ, gs', ls', ⟨⟨0, fun _ _ _ => rfl⟩, rfl, rfl, fun _ _ => rfl⟩, hk, ?_, h2⟩
    rw [sy.acts]
    have : (strip gs).reverse = strip gs.reverse := by unfold strip; rw [List.map_reverse]
    rw [this]
    exact h1
  | (none, l) :: gl, i, ver, ρ, s, gs, ls, mem, gs', ls', h, hg, hk, hn, sy => by
    unfold trG at h
    obtain ⟨s1, ver1, ρ1, gs1, ls1, mem1, gs1', ls1', t1, hk1, sy1, hK1⟩ := trD_ok (gd := none) h (hg (none, l) List.mem_cons_self) (fun j w q d e => by cases e) rfl hk hn sy
    obtain ⟨s', ρ', gs2', ls2', t2, hk2, hl2, hK2⟩ := trG_ok (gl := gl) hK1 (fun g hgm => hg g (List.mem_cons_of_mem _ hgm)) hk1 (t1.n.trans hn) sy1
    exact ⟨s', ρ', gs2', ls2', t1.append t2, hk2, hl2, hK2⟩
  | (some (j, w), l) :: gl, i, ver, ρ, s, gs, ls, mem, gs', ls', h, hg, hk, hn, sy => by
    unfold trG at h
    split at h
    · rename_i g hj
      split at h
      · rename_i d hd
        replace h := bif_none h
        obtain ⟨hb, h⟩ := h
        have hnd : d ∉ dstL l := fun hm => by rw [memB_iff.2 hm] at hb; cases hb
        split at h
        · rename_i v hv
          have hrv : Regs.get s.r d = v := hk d v hv
          have hst : Stable ops (some (j, w)) (dstL l) := fun j' w' q d' e1 e2 e3 hm => by
            cases e1
            rw [hj] at e2
            cases e2
            rw [hd] at e3
            cases e3
            exact hnd hm
          have gv : ∀ b, v = .bool b → guardV ops s.r (some (j, w)) = (b == w) := fun b e => by
            subst e
            simp only [guardV, hj, hd, hrv]
          have fin : ∀ run, guardV ops s.r (some (j, w)) = run → trD E (call E p) n base run l (trG E (call E p) n base bs ops gl K) i ver ρ s.h gs ls = some res →
              ∃ s' ρ' gs2' ls2', Tr1 E p ops base (((some (j, w), l) :: gl).flatMap (·.2)) i s gs' ls' s' gs2' ls2' ∧ Kno ρ' s'.r ∧ looksOk E bs gs2'.reverse s'.h ls2' = true ∧ K ρ' s'.h = some res := by
            intro run hrun h
            obtain ⟨s1, ver1, ρ1, gs1, ls1, mem1, gs1', ls1', t1, hk1, sy1, hK1⟩ := trD_ok (gd := some (j, w)) h (hg (some (j, w), l) List.mem_cons_self) hst hrun hk hn sy
            obtain ⟨s', ρ', gs2', ls2', t2, hk2, hl2, hK2⟩ := trG_ok (gl := gl) hK1 (fun g hgm => hg g (List.mem_cons_of_mem _ hgm)) hk1 (t1.n.trans hn) sy1
            exact ⟨s', ρ', gs2', ls2', t1.append t2, hk2, hl2, hK2⟩
          cases w with
          | true =>
            dsimp only at h
            unfold onT at h
            split at h
            · exact fin true (gv true rfl) h
            · exact fin false (gv false rfl) h
            · cases h
          | false =>
            dsimp only at h
            unfold onT at h
            split at h
            · exact fin false (gv true rfl) h
            · exact fin true (gv false rfl) h
            · cases h
        · cases h
      · cases h
    · cases h

theorem drawD_ok {ops : Array Oper} {K : Regs → AH → Option R0} {ρ : Regs} {s : St} {res : R0} (h : drawD E (call E p) n ops K ρ s.h = some res) (hk : Kno ρ s.r) (hn : s.n = n) :
    ∃ s' ρ' m, (∀ k, m ≤ k → evDrawn E (fns E p k) ops s = some s') ∧ s'.n = s.n ∧ s'.ds = s.ds ∧ (∀ t, t ∉ dstL ops.toList → Regs.get s'.r t = Regs.get s.r t) ∧ Kno ρ' s'.r ∧ K ρ' s'.h = some res := by
  unfold drawD at h
  replace h := bif_some h
  obtain ⟨hst, h⟩ := h
  obtain ⟨e1, e2⟩ := grps_spec ops.toList
  obtain ⟨s', ρ', gs', ls', t, hk', hl, hK⟩ := trG_ok (s := { s with h := s.h.rsv ops.size }) (mem := fun _ => s.h.rsv ops.size) (gs' := []) (ls' := []) h e2 hk hn ⟨rfl, rfl, (fun q hq => by cases hq), .nil⟩
  rw [e1] at t
  obtain ⟨m, hm⟩ := t.runs
  refine ⟨s', ρ', m, fun k hk => ?_, t.n, t.ds, t.other, hk', hK⟩
  unfold evDrawn
  dsimp only
  rw [hst]
  dsimp only [cond]
  have := hm k hk []
  rw [List.append_nil] at this
  rw [show ({ s with h := { s.h with next := s.h.next + ops.size } } : St) = { s with h := s.h.rsv ops.size } from rfl, this]
  unfold evTrace
  dsimp only
  rw [hl]
end
end Go.Ev
