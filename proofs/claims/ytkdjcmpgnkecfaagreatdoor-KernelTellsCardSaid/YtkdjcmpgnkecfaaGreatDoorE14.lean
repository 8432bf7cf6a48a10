/-
  Bytes that are written; maps that are changed.
-/
import Derived.Test.YtkdjcmpgnkecfaaGreatDoorE13
noncomputable section
namespace Go.Ev
set_option linter.unusedVariables false
set_option linter.unusedSimpArgs false

section
variable {P : Program} {E : Env} {σ : Nat → Int} {μ : Map} {h : AH} {w : World} {r : Regs} {tmps : Array Value}

/-! ### bytes -/
def avBytes : Nat → Nat → List AV
  | 0, _ => []
  | l + 1, m => .int .u8 (.ofNat (m % 256)) :: avBytes l (m / 256)

theorem avBytes_rel : ∀ (l m : Nat), VsRel σ μ (avBytes l m) (bvals l m)
  | 0, _ => rfl
  | l + 1, m => by
    refine ⟨.int .u8 (UInt8.ofNat (m % 256)).toNat, bvals l (m / 256), rfl, ?_, avBytes_rel l (m / 256)⟩
    have : m % 256 < 256 := Nat.mod_lt _ (by decide)
    rw [VRel]
    congr 1
    simp

theorem bytes_writes (size : Nat) (s : Bool) : ∀ (l m n off : Nat), off + l ≤ size →
    ∃ n', (AObj.bytes size s n).writes off (avBytes l m) = some (.bytes size s n') ∧ ∀ i, byteAt n' i = if off ≤ i ∧ i < off + l then byteAt m (i - off) else byteAt n i
  | 0, m, n, off, _ => ⟨n, rfl, fun i => by rw [if_neg (by omega)]⟩
  | l + 1, m, n, off, hle => by
    have hb : m % 256 < 256 := Nat.mod_lt _ (by decide)
    obtain ⟨n', e, hn⟩ := bytes_writes size s l (m / 256) (n - (byteAt n off) <<< (8 * off) + (m % 256) <<< (8 * off)) (off + 1) (by omega)
    refine ⟨n', ?_, fun i => ?_⟩
    · have hc : (Nat.blt off size && Nat.blt (m % 256) 256) = true := by rw [blt_true.2 (by omega), blt_true.2 hb]; rfl
      simp only [avBytes, AObj.writes, AObj.write, hc, cond_true]
      exact e
    · rw [hn]
      have hput := byteAt_put n off 1 (m % 256) i (by simpa using hb)
      have e1 : (n >>> (8 * off)) % 2 ^ (8 * 1) = byteAt n off := rfl
      rw [e1] at hput
      rw [hput]
      have e8 : (2 : Nat) ^ (8 * 1) = 256 := by decide
      by_cases h1 : off + 1 ≤ i ∧ i < off + 1 + l
      · rw [if_pos h1, if_pos (by omega)]
        obtain ⟨j, rfl⟩ : ∃ j, i = off + 1 + j := ⟨i - off - 1, by omega⟩
        rw [show off + 1 + j - (off + 1) = j by omega, show off + 1 + j - off = j + 1 by omega, byteAt_eq, byteAt_eq, Nat.mul_add, Nat.add_comm (8 * j), Nat.pow_add, ← Nat.div_div_eq_div_mul, e8]
      · rw [if_neg h1]
        by_cases h2 : off ≤ i ∧ i < off + 1
        · obtain rfl : i = off := by omega
          rw [if_pos h2, if_pos (by omega), Nat.sub_self, byteAt_eq, byteAt_eq]
          simp
        · rw [if_neg h2, if_neg (by omega)]

theorem bytes_same {size : Nat} {st : Bool} {n n' : Nat} {loc : Loc} {x : Option Obj} (hr : ORel σ μ (.bytes size st n) loc x) (he : ∀ i, i < size → byteAt n i = byteAt n' i) : ORel σ μ (.bytes size st n') loc x := by
  obtain ⟨c, E', fr, h1, h2, h3, h4, h5, h6⟩ := hr
  refine ⟨c, E', fr, h1, h2, h3, h4, h5, fun i hi => ?_⟩
  obtain ⟨v, y, a, b, d⟩ := h6 i hi
  refine ⟨v, y, ?_, b, d⟩
  rw [← a]
  simp only [AObj.cell, he i hi]

theorem write_nat (rel : HRel σ μ h w.heap) {id off len m : Nat} {loc : Loc} {h' : AH} (hm : μ id = some loc) (hw : writeNat h id off len m = some h') (hlt : m < 2 ^ (8 * len)) :
    ∃ w', (storeCells ⟨loc.b, loc.o + off, none⟩ (bvals len m)).run P w = .ok () w' ∧ Same3 w w' ∧ Moves σ μ h w.heap μ h' w'.heap := by
  unfold writeNat at hw
  split at hw
  · rename_i size st n hg
    replace hw := bif_some hw; obtain ⟨hle, hw⟩ := hw
    cases hw
    have hle' := ble_true.1 hle
    have hnd : h.get id ≠ .dead := by rw [hg]; simp
    have ho := AH.get_live hnd
    obtain ⟨n', e, hn⟩ := bytes_writes size st len m n off hle'
    have hor := rel.obj id loc _ hm ho
    rw [hg] at hor ho
    obtain ⟨w', a, b, c, d, f⟩ := writes_rel (P := P) (avBytes len m) (bvals len m) (.bytes size st n) (.bytes size st n') off 0 w hor e (avBytes_rel len m)
    refine ⟨w', a, b, rel.put hm ho rfl c d (bytes_same f fun i hi => ?_)⟩
    rw [hn, byteAt_put _ _ _ _ _ hlt]
  · cases hw

/-! ### maps -/
theorem setObj_map (rel : HRel σ μ h w.heap) {id : Nat} {loc : Loc} {es es2 : List (AV × AV × Nat)} {clock clock2 : Nat} {es' : Array MapEntry} (hm : μ id = some loc) (hg : h.get id = .map es clock)
    (hr : EsRel σ μ es2 es'.toList) :
    (setObj loc.b (.map es' clock2)).run P w = .ok () { w with heap := w.heap.setIfInBounds loc.b (.map es' clock2) } ∧
      Moves σ μ h w.heap μ (h.put id (.map es2 clock2)) (w.heap.setIfInBounds loc.b (.map es' clock2)) := by
  have hnd : h.get id ≠ .dead := by rw [hg]; simp
  have ho := AH.get_live hnd
  rw [hg] at ho
  obtain ⟨es0, e, _⟩ := rel.obj id loc _ hm ho
  refine ⟨by simp [setObj, Sem.run, e], rel.put hm ho rfl (by simp) (fun b hb => by rw [Array.getElem?_setIfInBounds_ne (Ne.symm hb)]) ⟨es', ?_, hr⟩⟩
  rw [Array.getElem?_setIfInBounds_self, if_pos (rel.lt id loc hm)]

theorem EsRel.snoc : ∀ {as : List (AV × AV × Nat)} {es : List MapEntry} {k v : AV} {b : Nat} {e : MapEntry}, EsRel σ μ as es → VRel σ μ k e.key → VRel σ μ v e.val → e.born = b → EsRel σ μ (as ++ [(k, v, b)]) (es ++ [e])
  | [], _, k, v, b, e, hr, h1, h2, h3 => by
    have : _ = _ := hr
    subst this
    exact ⟨e, [], rfl, h1, h2, h3, rfl⟩
  | (k', v', b') :: as, _, k, v, b, e, ⟨e', es', rfl, p, q, s, t⟩, h1, h2, h3 => ⟨e', _, rfl, p, q, s, EsRel.snoc t h1 h2 h3⟩

theorem EsRel.set : ∀ {as : List (AV × AV × Nat)} {es : List MapEntry} (i : Nat) {v : AV} {x : Value}, EsRel σ μ as es → VRel σ μ v x → EsRel σ μ (mapSet as i v) (es.modify i fun e => { e with val := x })
  | [], _, i, v, x, hr, hv => by
    have : _ = _ := hr
    subst this
    cases i <;> rfl
  | (k', v', b') :: as, _, 0, v, x, ⟨e', es', rfl, p, q, s, t⟩, hv => ⟨{ e' with val := x }, es', rfl, p, hv, s, t⟩
  | (k', v', b') :: as, _, i + 1, v, x, ⟨e', es', rfl, p, q, s, t⟩, hv => ⟨e', _, rfl, p, q, s, EsRel.set i t hv⟩

theorem EsRel.erase : ∀ {as : List (AV × AV × Nat)} {es : List MapEntry} (i : Nat), EsRel σ μ as es → EsRel σ μ (as.eraseIdx i) (es.eraseIdx i)
  | [], _, i, hr => by
    have : _ = _ := hr
    subst this
    cases i <;> rfl
  | (k', v', b') :: as, _, 0, ⟨e', es', rfl, p, q, s, t⟩ => t
  | (k', v', b') :: as, _, i + 1, ⟨e', es', rfl, p, q, s, t⟩ => ⟨e', _, rfl, p, q, s, EsRel.erase i t⟩

/-- numbers, bools, texts -/
def flatV : Value → Bool
  | .int _ _ | .bool _ | .string _ => true
  | _ => false

theorem sameBits_flat {v : Value} (hv : flatV v = true) (n : Nat) : Instr.sameBits n v v = true := by
  cases v <;> first | cases hv | skip
  · cases n <;> simp [Instr.sameBits]
  · cases n <;> simp [Instr.sameBits]
  · cases n <;> simp [Instr.sameBits, beq_toListBytes]

theorem sameNow_flat {d : TypeDesc} {u u' : Value} {b : Bool} (hs : Instr.sameNow d u u' = some b) : flatV u = true := by
  unfold Instr.sameNow at hs
  split at hs <;> first | rfl | cases hs

theorem sameBits_list (n : Nat) : ∀ (l : List Value), (∀ v, v ∈ l → flatV v = true) → (l.zip l).all (fun p => Instr.sameBits n p.1 p.2) = true
  | [], _ => rfl
  | v :: l, hl => by
    simp only [List.zip_cons_cons, List.all_cons, sameBits_flat (hl v List.mem_cons_self), Bool.true_and]
    exact sameBits_list n l fun u hu => hl u (List.mem_cons_of_mem _ hu)

theorem eqFields_flat (ok : EnvOk P E σ) {d : Nat} {xs : List AV} {us : Array Value} (rx : VsRel σ μ xs us.toList) :
    ∀ (fs : List Field), (∀ f, f ∈ fs → ∃ fi, E.ty f.type = some fi ∧ isKeyD fi.desc = true ∧ fi.size = 1) → eqFields E (eqA E h (d + 1)) fs xs xs = some true →
      ∀ f, f ∈ fs → ∃ x, us[f.offset]? = some x ∧ flatV x = true
  | [], _, _, f, hf => by cases hf
  | f :: fs, hk, he, g, hg => by
    simp only [eqFields] at he
    obtain ⟨fi, hfi, hkd, hsz⟩ := hk f List.mem_cons_self
    have hag : isAggD fi.desc = false := by rcases isKeyD_cases hkd with ⟨k, e⟩ | e | e <;> rw [e] <;> rfl
    cases h1 : partA E f.type xs f.offset with
    | none => rw [h1] at he; cases he
    | some a =>
      rw [h1] at he
      simp only at he
      cases h3 : eqA E h (d + 1) f.type a a with
      | none => rw [h3] at he; cases he
      | some q =>
        rw [h3] at he
        cases q with
        | false => cases he
        | true =>
          simp only at he
          rcases List.mem_cons.1 hg with rfl | hg
          · unfold partA at h1
            rw [hfi] at h1
            simp only [hag] at h1
            obtain ⟨x, hx, r1⟩ := rx.get _ _ h1
            exact ⟨x, by simpa using hx, sameNow_flat (key_now ok hfi hkd h3 r1 r1).1⟩
          · exact eqFields_flat ok rx fs (fun f hf => hk f (List.mem_cons_of_mem _ hf)) he g hg

theorem key_bits (ok : EnvOk P E σ) {kt : TypeId} {k : AV} {u : Value} (hk : keyOk E h kt k = true) (hu : VRel σ μ k u) (n : Nat) : Instr.sameBits (n + 1) u u = true := by
  unfold keyOk at hk
  obtain ⟨h12, h3⟩ := and_true2 hk
  obtain ⟨h1, h2⟩ := and_true2 h12
  cases ht : E.ty kt with
  | none => simp only [keyTy, ht] at h1; cases h1
  | some i =>
    split at h2
    · rename_i b hb
      subst h2
      rcases keyTy_flat h1 ht with hf | ⟨fs, hd, ⟨ho, hs⟩, hall⟩
      · exact sameBits_flat (sameNow_flat (key_now ok ht hf hb hu hu).1) _
      · obtain ⟨xs, ys, rfl, e2, _, he⟩ := eqA_struct ht hd hb
        cases e2
        obtain ⟨us, rfl, ru⟩ := hu
        have hn := eqFields_flat ok ru fs.toList hall he
        rw [ht] at h3
        have l1 : xs.length = fs.toList.length := by rw [beq_true.1 h3, hs]
        have e1 := ru.length
        simp only [Instr.sameBits, beq_self_eq_true, Bool.true_and]
        refine sameBits_list n us.toList fun v hv => ?_
        obtain ⟨j, hj, ej⟩ := List.getElem_of_mem hv
        obtain ⟨f, hf, ef⟩ := offs_field fs.toList 0 ho j (by omega)
        obtain ⟨x, hx, hfl⟩ := hn f hf
        rw [ef, Nat.zero_add] at hx
        have : us.toList[j]? = some v := by rw [List.getElem?_eq_getElem hj, ej]
        have hx' : us.toList[j]? = some x := by simpa using hx
        rw [this] at hx'
        cases hx'
        exact hfl
    · cases h2

theorem stays_sound (ok : EnvOk P E σ) {kt : TypeId} {k : AV} {u : Value} (hk : keyOk E h kt k = true) (hu : VRel σ μ k u) : (Instr.keyThatStays u u).run P w = .ok u w := by
  have := key_bits ok hk hu 9999
  simp [Instr.keyThatStays, this]

theorem modify_key {es : Array MapEntry} {i : Nat} {e : MapEntry} {u x : Value} (he : es.toList[i]? = some e) (hk : e.key = u) :
    (es.modify i fun e => { e with key := u, val := x }).toList = es.toList.modify i fun e => { e with val := x } := by
  rw [Array.toList_modify]
  apply List.ext_getElem?
  intro j
  rw [List.getElem?_modify, List.getElem?_modify]
  by_cases hj : i = j
  · subst hj
    rw [he]
    simp [hk]
  · simp [hj]

theorem mapUpdate_sound (ok : EnvOk P E σ) (rel : HRel σ μ h w.heap) {t : TypeId} {x k v : AV} {u z y : Value} {h' : AH} (hv : mapUpdateA E h t x k v = some h') (hu : VRel σ μ x u) (hz : VRel σ μ k z) (hy : VRel σ μ v y) :
    ∃ w', (Instr.mapUpdate t u z y).run P w = .ok () w' ∧ Same3 w w' ∧ Moves σ μ h w.heap μ h' w'.heap := by
  unfold mapUpdateA at hv
  split at hv
  · rename_i i id ht
    obtain ⟨loc, hm, eu⟩ := hu
    subst eu
    split at hv
    · rename_i kt e es clock hd hg
      replace hv := bif_some hv; obtain ⟨hk, hv⟩ := hv
      obtain ⟨es', e1, e2, e3⟩ := getObj_map (P := P) rel hm hg
      split at hv
      · rename_i j v' b' hfk
        cases hv
        obtain ⟨q, hq, yy, ent, hqe, ry, hle, hent, hkey, hval, hb⟩ := find_sound (P := P) ok rel hk hz hfk e2
        subst hqe
        rw [Nat.sub_zero] at hent
        have hent' : es'[j]? = some ent := by simpa using hent
        obtain ⟨s1, s2⟩ := setObj_map (P := P) rel hm hg (es2 := mapSet es j v) (clock2 := clock) (es' := es'.modify j fun e => { e with key := z, val := y }) (by rw [modify_key hent hkey]; exact EsRel.set j e2 hy)
        refine ⟨{ w with heap := w.heap.setIfInBounds loc.b (.map _ _) }, ?_, ⟨rfl, rfl, rfl⟩, s2⟩
        simp [Instr.mapUpdate, run_und ok ht, hd, e3, checkKey_sound ok false hk hz, hq, hent', hkey, stays_sound ok hk hz, s1]
      · rename_i hfk
        cases hv
        obtain ⟨q, hq, hff⟩ := find_sound (P := P) ok rel hk hz hfk e2
        have : q = none := hff
        subst this
        obtain ⟨s1, s2⟩ := setObj_map (P := P) rel hm hg (es2 := es ++ [(k, v, clock)]) (clock2 := clock + 1) (es' := es'.push { key := z, val := y, born := clock }) (by rw [Array.toList_push]; exact EsRel.snoc e2 hz hy rfl)
        refine ⟨{ w with heap := w.heap.setIfInBounds loc.b (.map _ _) }, ?_, ⟨rfl, rfl, rfl⟩, s2⟩
        simp [Instr.mapUpdate, run_und ok ht, hd, e3, checkKey_sound ok false hk hz, hq, s1]
      · cases hv
    · cases hv
  · cases hv

theorem delete_sound (ok : EnvOk P E σ) (rel : HRel σ μ h w.heap) {t : TypeId} {x k : AV} {u z : Value} {h' : AH} (ts : Array TypeId) (hts : ts[0]? = some t) (rt : TypeId) (hv : deleteA E h t x k = some h') (hu : VRel σ μ x u) (hz : VRel σ μ k z) :
    ∃ w', (Builtin.delete_ ts rt #[u, z]).run P w = .ok (.tuple #[]) w' ∧ Same3 w w' ∧ Moves σ μ h w.heap μ h' w'.heap := by
  unfold deleteA at hv
  split at hv
  · rename_i i id ht
    obtain ⟨loc, hm, eu⟩ := hu
    subst eu
    split at hv
    · rename_i kt e es clock hd hg
      replace hv := bif_some hv; obtain ⟨hk, hv⟩ := hv
      obtain ⟨es', e1, e2, e3⟩ := getObj_map (P := P) rel hm hg
      split at hv
      · rename_i j v' b' hfk
        cases hv
        obtain ⟨q, hq, yy, ent, hqe, ry, hle, hent, hkey, hval, hb⟩ := find_sound (P := P) ok rel hk hz hfk e2
        subst hqe
        obtain ⟨s1, s2⟩ := setObj_map (P := P) rel hm hg (es2 := es.eraseIdx j) (clock2 := clock) (es' := es'.eraseIdxIfInBounds j) (by rw [Array.toList_eraseIdxIfInBounds]; exact EsRel.erase j e2)
        refine ⟨{ w with heap := w.heap.setIfInBounds loc.b (.map _ _) }, ?_, ⟨rfl, rfl, rfl⟩, s2⟩
        simp [Builtin.delete_, hts, run_und ok ht, hd, e3, checkKey_sound ok es'.isEmpty hk hz, hq, s1]
      · rename_i hfk
        cases hv
        obtain ⟨q, hq, hff⟩ := find_sound (P := P) ok rel hk hz hfk e2
        have : q = none := hff
        subst this
        have hset : w.heap.setIfInBounds loc.b (.map es' clock) = w.heap := by
          apply Array.ext_getElem?
          intro b
          by_cases hb : loc.b = b
          · subst hb
            rw [Array.getElem?_setIfInBounds_self, if_pos (rel.lt id loc hm), e1]
          · rw [Array.getElem?_setIfInBounds_ne hb]
        refine ⟨w, ?_, Same3.refl _, Moves.refl rel⟩
        simp [Builtin.delete_, hts, run_und ok ht, hd, e3, checkKey_sound ok es'.isEmpty hk hz, hq, setObj, Sem.run, e1, hset]
      · cases hv
    · cases hv
  · cases hv
end
end Go.Ev
