/-
  Regions that draw their order: what the checks say.
-/
import Derived.Test.YtkdjcmpgnkecfaaGreatDoorE24
noncomputable section
namespace Go.Ev
set_option linter.unusedVariables false
set_option linter.unusedSimpArgs false

mutual
theorem AV.beq_sound : ∀ (a b : AV), AV.beq a b = true → a = b
  | .undef, b, h => by cases b <;> first | rfl | (simp only [AV.beq] at h; cases h; done)
  | .bool a, b, h => by cases b <;> first | (simp only [AV.beq, beq_iff_eq] at h; rw [h]; done) | (simp only [AV.beq] at h; cases h; done)
  | .int k a, b, h => by
    cases b <;> first
      | (simp only [AV.beq, Bool.and_eq_true] at h; rw [eqK_true.1 h.1, eqI_true.1 h.2]; done)
      | (simp only [AV.beq] at h; cases h; done)
  | .sym k a, b, h => by
    cases b <;> first
      | (simp only [AV.beq, Bool.and_eq_true] at h; rw [eqK_true.1 h.1, Go.Ev.beq_true.1 h.2]; done)
      | (simp only [AV.beq] at h; cases h; done)
  | .str l a, b, h => by
    cases b <;> first
      | (simp only [AV.beq, Bool.and_eq_true] at h; rw [Go.Ev.beq_true.1 h.1, Go.Ev.beq_true.1 h.2]; done)
      | (simp only [AV.beq] at h; cases h; done)
  | .nilPtr, b, h => by cases b <;> first | rfl | (simp only [AV.beq] at h; cases h; done)
  | .ptr l a, b, h => by
    cases b <;> first
      | (simp only [AV.beq, Bool.and_eq_true] at h; rw [Go.Ev.beq_true.1 h.1, Go.Ev.beq_true.1 h.2]; done)
      | (simp only [AV.beq] at h; cases h; done)
  | .nilSlice, b, h => by cases b <;> first | rfl | (simp only [AV.beq] at h; cases h; done)
  | .slice a1 a2 a3 a4 a5 a6, b, h => by
    cases b <;> first
      | (simp only [AV.beq, Bool.and_eq_true, beq_iff_eq] at h; obtain ⟨⟨⟨⟨⟨h1, h2⟩, h3⟩, h4⟩, h5⟩, h6⟩ := h
         rw [Go.Ev.beq_true.1 h1, Go.Ev.beq_true.1 h2, Go.Ev.beq_true.1 h3, Go.Ev.beq_true.1 h4, Go.Ev.beq_true.1 h5, h6]; done)
      | (simp only [AV.beq] at h; cases h; done)
  | .nilMap, b, h => by cases b <;> first | rfl | (simp only [AV.beq] at h; cases h; done)
  | .map a, b, h => by cases b <;> first | (simp only [AV.beq] at h; rw [Go.Ev.beq_true.1 h]; done) | (simp only [AV.beq] at h; cases h; done)
  | .nilFunc, b, h => by cases b <;> first | rfl | (simp only [AV.beq] at h; cases h; done)
  | .func f x y, b, h => by
    cases b <;> first
      | (simp only [AV.beq, Bool.and_eq_true] at h; obtain ⟨⟨h1, h2⟩, h3⟩ := h; rw [Go.Ev.beq_true.1 h1, AV.beqL_sound _ _ h2, AV.beqL_sound _ _ h3]; done)
      | (simp only [AV.beq] at h; cases h; done)
  | .yield a, b, h => by cases b <;> first | (simp only [AV.beq] at h; rw [Go.Ev.beq_true.1 h]; done) | (simp only [AV.beq] at h; cases h; done)
  | .nilIface, b, h => by cases b <;> first | rfl | (simp only [AV.beq] at h; cases h; done)
  | .iface t x, b, h => by
    cases b <;> first
      | (simp only [AV.beq, Bool.and_eq_true] at h; rw [Go.Ev.beq_true.1 h.1, AV.beq_sound _ _ h.2]; done)
      | (simp only [AV.beq] at h; cases h; done)
  | .agg x, b, h => by cases b <;> first | (simp only [AV.beq] at h; rw [AV.beqL_sound _ _ h]; done) | (simp only [AV.beq] at h; cases h; done)
  | .tuple x, b, h => by cases b <;> first | (simp only [AV.beq] at h; rw [AV.beqL_sound _ _ h]; done) | (simp only [AV.beq] at h; cases h; done)
theorem AV.beqL_sound : ∀ (a b : List AV), AV.beqL a b = true → a = b
  | [], b, h => by cases b <;> first | rfl | (simp only [AV.beqL] at h; cases h; done)
  | x :: xs, b, h => by
    cases b <;> first
      | (simp only [AV.beqL, Bool.and_eq_true] at h; rw [AV.beq_sound _ _ h.1, AV.beqL_sound _ _ h.2]; done)
      | (simp only [AV.beqL] at h; cases h; done)
end

/-! ### bits -/
theorem bitB_eq (n i : Nat) : bitB n i = n.testBit i := by
  unfold bitB
  rw [Nat.testBit_eq_decide_div_mod_eq, Nat.shiftRight_eq_div_pow, beq_decide]

theorem edgeBits_bit {acc : List Nat} {x : Nat} : ∀ (es : List Edge), bitB (edgeBits acc es) x = true → ∃ e, e ∈ es ∧ Region.binds .any e = true ∧ (x = e.on ∨ bitB (acc.getD e.on 0) x = true)
  | [], h => by rw [bitB_eq] at h; simp [edgeBits] at h
  | e :: es, h => by
    simp only [edgeBits] at h
    cases hb : Region.binds .any e with
    | false =>
      rw [hb] at h
      obtain ⟨e', h1, h2, h3⟩ := edgeBits_bit es h
      exact ⟨e', List.mem_cons_of_mem _ h1, h2, h3⟩
    | true =>
      rw [hb, cond_true, bitB_eq, Nat.testBit_or, Nat.testBit_or, Nat.testBit_two_pow] at h
      simp only [Bool.or_eq_true, decide_eq_true_eq] at h
      rcases h with (h | h) | h
      · exact ⟨e, List.mem_cons_self, hb, .inl h.symm⟩
      · exact ⟨e, List.mem_cons_self, hb, .inr (by rw [bitB_eq]; exact h)⟩
      · obtain ⟨e', h1, h2, h3⟩ := edgeBits_bit es (by rw [bitB_eq]; exact h)
        exact ⟨e', List.mem_cons_of_mem _ h1, h2, h3⟩

theorem befores_pre : ∀ (l : List Oper) (acc : List Nat), (befores l acc).take acc.length = acc ∧ ∀ k o, l[k]? = some o →
    (befores l acc).getD (acc.length + k) 0 = edgeBits ((befores l acc).take (acc.length + k)) o.after.toList
  | [], acc => ⟨by simp [befores], fun k o h => by simp at h⟩
  | o :: rest, acc => by
    obtain ⟨h1, h2⟩ := befores_pre rest (acc ++ [edgeBits acc o.after.toList])
    simp only [befores]
    generalize hb : befores rest (acc ++ [edgeBits acc o.after.toList]) = bs at h1 h2
    simp only [List.length_append, List.length_cons, List.length_nil, Nat.zero_add] at h1 h2
    have h3 : bs.take acc.length = acc := by
      have : (bs.take (acc.length + 1)).take acc.length = acc := by rw [h1]; simp
      rwa [List.take_take, Nat.min_eq_left (Nat.le_succ _)] at this
    refine ⟨h3, fun k o' hk => ?_⟩
    cases k with
    | zero =>
      simp at hk
      subst hk
      rw [Nat.add_zero, h3]
      have : (bs.take (acc.length + 1))[acc.length]? = some (edgeBits acc o.after.toList) := by rw [h1]; simp
      rw [List.getElem?_take] at this
      simp at this
      simp [this]
    | succ k =>
      have := h2 k o' (by simpa using hk)
      rwa [show acc.length + 1 + k = acc.length + (k + 1) by omega] at this

/-- what must have been done ahead has been done -/
theorem before_done {ops : Array Oper} {D : Nat → Prop} (hD : ∀ j o, ops[j]? = some o → D j → ∀ e, e ∈ o.after → Region.binds .any e = true → D e.on)
    (hE : ∀ j o, ops[j]? = some o → ∀ e, e ∈ o.after → Region.binds .any e = true → e.on < j) :
    ∀ i o x, ops[i]? = some o → (∀ e, e ∈ o.after → Region.binds .any e = true → D e.on) → bitB ((befores ops.toList []).getD i 0) x = true → D x := by
  intro i
  induction i using Nat.strongRecOn with
  | _ i ih =>
    intro o x ho hr hb
    obtain ⟨_, h2⟩ := befores_pre ops.toList []
    have := h2 i o (by simpa using ho)
    rw [List.length_nil, Nat.zero_add] at this
    rw [this] at hb
    obtain ⟨e, he, hbind, hx⟩ := edgeBits_bit _ hb
    have he' : e ∈ o.after := by simpa using he
    have hlt := hE i o ho e he' hbind
    rcases hx with rfl | hx
    · exact hr e he' hbind
    · have hget : ((befores ops.toList []).take i).getD e.on 0 = (befores ops.toList []).getD e.on 0 := by
        rw [List.getD_eq_getElem?_getD, List.getD_eq_getElem?_getD, List.getElem?_take, if_pos hlt]
      rw [hget] at hx
      have hn : e.on < ops.size := Nat.lt_trans hlt (Array.getElem?_eq_some_iff.1 ho).1
      have hoe : ops[e.on]? = some ops[e.on] := Array.getElem?_eq_getElem hn
      exact ih e.on hlt _ x hoe (hD _ _ hoe (hr e he' hbind)) hx

theorem edgesTo_spec {j : Nat} : ∀ {es : List Edge}, edgesTo j es = true → ∀ e, e ∈ es → Region.binds .any e = true → e.on < j
  | [], _, e, he, _ => by cases he
  | f :: es, h, e, he, hb => by
    simp only [edgesTo, Bool.and_eq_true, Bool.or_eq_true, Bool.not_eq_true'] at h
    rcases List.mem_cons.1 he with rfl | he
    · rcases h.1 with h1 | h1
      · rw [h1] at hb; cases hb
      · exact blt_true.1 h1
    · exact edgesTo_spec h.2 e he hb

def Apart (E : Env) (ops : Array Oper) (x y : Oper) : Prop := (isAct E x && isAct E y) = false ∧ apartB ops x y = true

theorem pairsTo_spec {E : Env} {ops : Array Oper} {b j : Nat} {y : Oper} : ∀ (xs : List Oper) (i : Nat), pairsTo E ops b j y xs i = true → ∀ k x, xs[k]? = some x → i + k < j → bitB b (i + k) = true ∨ Apart E ops x y
  | [], i, _, k, x, hk, _ => by simp at hk
  | z :: zs, i, h, k, x, hk, hlt => by
    simp only [pairsTo] at h
    rw [blt_true.2 (by omega), cond_true, Bool.and_eq_true, Bool.or_eq_true, Bool.and_eq_true, Bool.not_eq_true'] at h
    cases k with
    | zero => simp at hk; subst hk; exact h.1
    | succ k =>
      have := pairsTo_spec zs (i + 1) h.2 k x (by simpa using hk) (by omega)
      rwa [show i + 1 + k = i + (k + 1) by omega] at this

theorem staticTo_spec {E : Env} {ops : Array Oper} {bs : List Nat} : ∀ (l : List Oper) (j : Nat), staticTo E ops bs l j = true → ∀ k y, l[k]? = some y →
    (∀ e, e ∈ y.after → Region.binds .any e = true → e.on < j + k) ∧ ∀ i x, ops[i]? = some x → i < j + k → bitB (bs.getD (j + k) 0) i = true ∨ Apart E ops x y
  | [], j, _, k, y, hk => by simp at hk
  | z :: zs, j, h, k, y, hk => by
    simp only [staticTo, Bool.and_eq_true] at h
    cases k with
    | zero =>
      simp at hk
      subst hk
      refine ⟨fun e he hb => edgesTo_spec h.1.1 e (by simpa using he) hb, fun i x hx hi => ?_⟩
      have := pairsTo_spec ops.toList 0 h.1.2 i x (by simpa using hx) (by omega)
      simpa using this
    | succ k =>
      have := staticTo_spec zs (j + 1) h.2 k y (by simpa using hk)
      rwa [show j + 1 + k = j + (k + 1) by omega] at this

theorem apart_spec {ops : Array Oper} {x y : Oper} (h : apartB ops x y = true) :
    (∀ d, x.dst = some d → d ∉ tmpsOf ops y) ∧ (∀ d, x.dst = some d → y.dst ≠ some d) ∧ (∀ d, y.dst = some d → d ∉ tmpsOf ops x) := by
  unfold apartB at h
  refine ⟨fun d hd hm => ?_, fun d hd he => ?_, fun d hd hm => ?_⟩
  · rw [hd] at h
    simp only [memB_iff.2 hm, Bool.not_true, Bool.false_and] at h
    cases h
  · rw [hd, he] at h
    simp only [Go.Ev.beq_true.2 rfl, Bool.not_true, Bool.and_false, Bool.false_and] at h
    cases h
  · rw [hd] at h
    simp only [memB_iff.2 hm, Bool.not_true, Bool.and_false] at h
    cases h

/-! ### the text's order -/
structure StepOk (E : Env) (F : Fns) (ops : Array Oper) (base i : Nat) (o : Oper) (s s' : St) (v : AV) : Prop where
  dst : ∀ t, o.dst = some t → t < s.n
  regs : s' = { s with r := setD s.r o.dst v, h := s'.h }
  off : guardOk ops s.r o = false → v = .undef ∧ s'.h = s.h
  act : kindOf E o.op = .act → ∀ r', Agree ops o r' s.r → opStep E F ops o { s with r := r' } = some { s with r := setD r' o.dst v, h := s'.h }
  make : kindOf E o.op = .make → guardOk ops s.r o = true → ∃ f ob, newOp E s.r o.op = some (f, ob) ∧ v = f (base + i) ∧ s'.h = s.h.put (base + i) ob
  look : kindOf E o.op = .look → guardOk ops s.r o = true → lookOp E s.r s.h o.op = some v ∧ s'.h = s.h

def actList (E : Env) (S : Nat → St) : List Oper → Nat → List (Nat × AH)
  | [], _ => []
  | o :: rest, i => match kindOf E o.op with
    | .act => (i, (S i).h) :: actList E S rest (i + 1)
    | _ => actList E S rest (i + 1)

theorem actList_congr {E : Env} {S S' : Nat → St} : ∀ (l : List Oper) (i : Nat), (∀ j, i ≤ j → S j = S' j) → actList E S l i = actList E S' l i
  | [], _, _ => rfl
  | o :: rest, i, h => by
    simp only [actList, h i (Nat.le_refl _), actList_congr rest (i + 1) fun j hj => h j (by omega)]

theorem trace_ok {E : Env} {F : Fns} {ops : Array Oper} {base : Nat} : ∀ (l : List Oper) (i : Nat) (s : St) (gs : List (Nat × AH)) (ls : List Seen) (s' : St) (gs' : List (Nat × AH)) (ls' : List Seen),
    evTrace E F ops base l i s gs ls = some (s', gs', ls') → ∃ (S : Nat → St) (V : Nat → AV), S i = s ∧ S (i + l.length) = s' ∧
      (∀ k o, l[k]? = some o → StepOk E F ops base (i + k) o (S (i + k)) (S (i + k + 1)) (V (i + k))) ∧ gs' = (actList E S l i).reverse ++ gs ∧ (∀ x, x ∈ ls → x ∈ ls') ∧
      (∀ k o, l[k]? = some o → kindOf E o.op = .look → guardOk ops (S (i + k)).r o = true → ({ i := i + k, o, r := (S (i + k)).r, v := V (i + k) } : Seen) ∈ ls')
  | [], i, s, gs, ls, s', gs', ls', he => by
    simp only [evTrace] at he
    cases he
    exact ⟨fun _ => s, fun _ => .undef, rfl, rfl, fun k o h => by simp at h, by simp [actList], fun x hx => hx, fun k o h => by simp at h⟩
  | o :: rest, i, s, gs, ls, s', gs', ls', he => by
    have build : ∀ (s1 : St) (v : AV) (gs1 : List (Nat × AH)) (ls1 : List Seen), evTrace E F ops base rest (i + 1) s1 gs1 ls1 = some (s', gs', ls') → StepOk E F ops base i o s s1 v →
        (gs1 = match kindOf E o.op with | .act => (i, s.h) :: gs | _ => gs) → (∀ x, x ∈ ls → x ∈ ls1) → (kindOf E o.op = .look → guardOk ops s.r o = true → ({ i, o, r := s.r, v } : Seen) ∈ ls1) →
        ∃ (S : Nat → St) (V : Nat → AV), S i = s ∧ S (i + (o :: rest).length) = s' ∧
          (∀ k o', (o :: rest)[k]? = some o' → StepOk E F ops base (i + k) o' (S (i + k)) (S (i + k + 1)) (V (i + k))) ∧ gs' = (actList E S (o :: rest) i).reverse ++ gs ∧ (∀ x, x ∈ ls → x ∈ ls') ∧
          (∀ k o', (o :: rest)[k]? = some o' → kindOf E o'.op = .look → guardOk ops (S (i + k)).r o' = true → ({ i := i + k, o := o', r := (S (i + k)).r, v := V (i + k) } : Seen) ∈ ls') := by
      intro s1 v gs1 ls1 he1 hs hgs hls hlook
      obtain ⟨S, V, h1, h2, h3, h4, h5, h6⟩ := trace_ok rest (i + 1) s1 gs1 ls1 s' gs' ls' he1
      let S' : Nat → St := fun j => if j = i then s else S j
      let V' : Nat → AV := fun j => if j = i then v else V j
      have eS : S' i = s := by simp [S']
      have eV : V' i = v := by simp [V']
      have eS' : ∀ j, i < j → S' j = S j := fun j hj => by simp only [S']; rw [if_neg (by omega)]
      have eV' : ∀ j, i < j → V' j = V j := fun j hj => by simp only [V']; rw [if_neg (by omega)]
      refine ⟨S', V', eS, ?_, fun k o' hk => ?_, ?_, fun x hx => h5 x (hls x hx), fun k o' hk hl hg => ?_⟩
      · rw [eS' _ (by simp), List.length_cons, ← h2]; congr 1; omega
      · cases k with
        | zero =>
          simp at hk
          subst hk
          rw [Nat.add_zero, eS, eV, eS' _ (by omega), h1]
          exact hs
        | succ k =>
          have := h3 k o' (by simpa using hk)
          rw [show i + (k + 1) = i + 1 + k by omega, eS' _ (by omega), eS' _ (by omega), eV' _ (by omega)]
          exact this
      · rw [h4, hgs]
        have ec := actList_congr (E := E) (S := S') (S' := S) rest (i + 1) fun j hj => eS' j (by omega)
        simp only [actList, eS, ec]
        cases kindOf E o.op <;> simp
      · cases k with
        | zero =>
          simp at hk
          subst hk
          rw [Nat.add_zero, eS] at hg ⊢
          rw [eV]
          exact h5 _ (hlook hl hg)
        | succ k =>
          rw [show i + (k + 1) = i + 1 + k by omega] at hg ⊢
          rw [eS' _ (by omega)] at hg ⊢
          rw [eV' _ (by omega)]
          exact h6 k o' (by simpa using hk) hl hg
    simp only [evTrace] at he
    split at he
    · rename_i hk
      split at he
      · rename_i s1 h1
        obtain ⟨v, c1, c2, c3, c4⟩ := opStep_congr h1
        exact build s1 v _ _ he ⟨c1, c2, c3, fun _ => c4, (fun h => by rw [hk] at h; cases h), (fun h => by rw [hk] at h; cases h)⟩ (by rw [hk]) (fun x hx => hx) (fun h => by rw [hk] at h; cases h)
      · cases he
    · rename_i hk hg
      split at he
      · rename_i f ob hn
        split at he
        · rename_i s1 h1
          obtain ⟨d1, d2⟩ := setReg_some h1
          refine build s1 _ _ _ he ⟨d1, by rw [d2], (fun h => by rw [hg] at h; cases h), (fun h => by rw [hk] at h; cases h), fun _ _ => ⟨f, ob, hn, rfl, by rw [d2]⟩, (fun h => by rw [hk] at h; cases h)⟩ (by rw [hk]) (fun x hx => hx) (fun h => by rw [hk] at h; cases h)
        · cases he
      · cases he
    · rename_i hk hg
      split at he
      · rename_i v hv
        split at he
        · rename_i s1 h1
          obtain ⟨d1, d2⟩ := setReg_some h1
          refine build s1 v _ _ he ⟨d1, by rw [d2], (fun h => by rw [hg] at h; cases h), (fun h => by rw [hk] at h; cases h), (fun h => by rw [hk] at h; cases h), fun _ _ => ⟨hv, by rw [d2]⟩⟩ (by rw [hk]) (fun x hx => List.mem_cons_of_mem _ hx) (fun _ _ => List.mem_cons_self)
        · cases he
      · cases he
    · rename_i hg hna
      split at he
      · rename_i s1 h1
        obtain ⟨d1, d2⟩ := setReg_some h1
        have hk : kindOf E o.op ≠ .act := fun h => hna h
        refine build s1 .undef _ _ he ⟨d1, by rw [d2], fun _ => ⟨rfl, by rw [d2]⟩, fun h => absurd h hk, (fun _ h => by rw [hg] at h; cases h), (fun _ h => by rw [hg] at h; cases h)⟩ ?_ (fun x hx => hx) (fun _ h => by rw [hg] at h; cases h)
        cases hkk : kindOf E o.op <;> first | rfl | exact absurd hkk hk
      · cases he

theorem looksOk_spec {E : Env} {bs : List Nat} {gs : List (Nat × AH)} {last : AH} : ∀ {ls : List Seen}, looksOk E bs gs last ls = true → ∀ s, s ∈ ls → lookWin bs s.i (lookSame E s) last gs = true
  | [], _, s, hs => by cases hs
  | x :: xs, h, s, hs => by
    simp only [looksOk, Bool.and_eq_true] at h
    rcases List.mem_cons.1 hs with rfl | hs
    · exact h.1
    · exact looksOk_spec h.2 s hs

theorem lookWin_spec {E : Env} {bs : List Nat} {i : Nat} {f : AH → Bool} {S : Nat → St} {n p : Nat} {D : Nat → Prop} (h1 : ∀ a, bitB (bs.getD i 0) a = true → D a) (h2 : ∀ a, D a → bitB (bs.getD a 0) i = true → False) :
    ∀ (l : List Oper) (k : Nat), k + l.length = n → k ≤ p → p ≤ n → (∀ j o, l[j]? = some o → k + j < p → kindOf E o.op = .act → D (k + j)) → (∀ j o, l[j]? = some o → k + j = p → kindOf E o.op = .act ∧ ¬ D p) →
      lookWin bs i f (S n).h (actList E S l k) = true → f (S p).h = true
  | [], k, hn, hk, hp, _, _, hw => by
    simp only [List.length_nil] at hn
    have : p = n := by omega
    subst this
    exact hw
  | o :: rest, k, hn, hk, hp, ha, hpos, hw => by
    have hrec : k < p → lookWin bs i f (S n).h (actList E S rest (k + 1)) = true → f (S p).h = true := fun hlt hw' =>
      lookWin_spec h1 h2 rest (k + 1) (by simp only [List.length_cons] at hn; omega) hlt hp
        (fun j o' hj hl hko => by have := ha (j + 1) o' (by simpa using hj) (by omega) hko; rwa [show k + (j + 1) = k + 1 + j by omega] at this)
        (fun j o' hj he => hpos (j + 1) o' (by simpa using hj) (by omega)) hw'
    simp only [actList] at hw
    by_cases hkp : k = p
    · subst hkp
      obtain ⟨hact, hnd⟩ := hpos 0 o rfl rfl
      rw [hact] at hw
      simp only [lookWin] at hw
      have hb : bitB (bs.getD i 0) k = false := by
        cases hb : bitB (bs.getD i 0) k with
        | false => rfl
        | true => exact absurd (h1 k hb) hnd
      rw [hb, cond_false, Bool.and_eq_true] at hw
      exact hw.1
    · have hlt : k < p := by omega
      cases hko : kindOf E o.op with
      | act =>
        rw [hko] at hw
        simp only [lookWin] at hw
        cases hb : bitB (bs.getD i 0) k with
        | true => rw [hb, cond_true] at hw; exact hrec hlt hw
        | false =>
          rw [hb, cond_false, Bool.and_eq_true, Bool.or_eq_true] at hw
          rcases hw.2 with hw | hw
          · exact (h2 k (ha 0 o rfl (by omega) hko) hw).elim
          · exact hrec hlt hw
      | look => rw [hko] at hw; exact hrec hlt hw
      | make => rw [hko] at hw; exact hrec hlt hw
end Go.Ev
