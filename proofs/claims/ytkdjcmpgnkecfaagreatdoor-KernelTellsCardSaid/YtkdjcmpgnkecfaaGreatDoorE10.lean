/-
  The operations that only look: places, elements, maps, lengths, aggregates; all of them.
-/
import Derived.Test.YtkdjcmpgnkecfaaGreatDoorE9
noncomputable section
namespace Go.Ev
set_option linter.unusedVariables false
set_option linter.unusedSimpArgs false

section
variable {P : Program} {E : Env} {σ : Nat → Int} {μ : Map} {h : AH} {w : World} {r : Regs} {tmps : Array Value}

theorem fieldAddr_sound (ok : EnvOk P E σ) {s : TypeId} {x v : AV} {u : Value} {f : Nat} (hv : fieldAddrA E s x f = some v) (hu : VRel σ μ x u) :
    ∃ q, (Instr.fieldAt s u f).run P w = .ok q w ∧ VRel σ μ v q := by
  unfold fieldAddrA at hv
  split at hv
  · rename_i i id off hs
    obtain ⟨loc, hm, eu⟩ := hu
    subst eu
    split at hv
    · rename_i fs hd
      split at hv
      · rename_i fd hf
        split at hv
        · rename_i fi hfi
          replace hv := bif_none hv; obtain ⟨h0, hv⟩ := hv
          cases hv
          have hz : ¬ fi.size = 0 := beq_false.1 h0
          refine ⟨.pointer (some ⟨loc.b, loc.o + (off + fd.offset), none⟩), ?_, loc, hm, rfl⟩
          simp [Instr.fieldAt, run_und ok hs, hd, hf, Instr.sureAddr, fieldPlace, run_size ok hfi, hz, add_eq, Nat.add_assoc]
        · cases hv
      · cases hv
    · cases hv
  · cases hv

theorem field_sound (ok : EnvOk P E σ) {s : TypeId} {x v : AV} {u : Value} {f : Nat} (hv : fieldA E s x f = some v) (hu : VRel σ μ x u) :
    ∃ q, (Instr.field s u f).run P w = .ok q w ∧ VRel σ μ v q := by
  unfold fieldA at hv
  split at hv
  · rename_i i cs hs
    obtain ⟨vs, eu, rv⟩ := hu
    subst eu
    split at hv
    · rename_i fs hd
      split at hv
      · rename_i fd hf
        obtain ⟨q, hq, rq⟩ := part_sound (P := P) ok rv hv w
        exact ⟨q, by simp [Instr.field, run_und ok hs, hd, hf, asAgg, hq], rq⟩
      · cases hv
    · cases hv
  · cases hv

theorem idx_sound {x : Int} {n j : Nat} (hj : idxA x n = some j) : 0 ≤ x ∧ x < (n : Int) ∧ x.toNat = j ∧ j < n := by
  cases x with
  | negSucc m => cases hj
  | ofNat m =>
    simp only [idxA] at hj
    replace hj := bif_some hj; obtain ⟨hlt, hj⟩ := hj
    cases hj
    have := blt_true.1 hlt
    simp
    omega

theorem indexAddr_sound (ok : EnvOk P E σ) {t : TypeId} {x ix v : AV} {u z : Value} (hv : indexAddrA E t x ix = some v) (hu : VRel σ μ x u) (hz : VRel σ μ ix z) :
    ∃ q, (Instr.indexAt t u z).run P w = .ok q w ∧ VRel σ μ v q := by
  unfold indexAddrA at hv
  split at hv
  · rename_i i k n ht
    have ez : z = _ := hz; subst ez
    have ut := run_und (P := P) ok ht w
    split at hv
    · rename_i len e id off hd
      obtain ⟨loc, hm, eu⟩ := hu
      subst eu
      split at hv
      · rename_i ie j hie hj
        cases hv
        obtain ⟨a, b, c, d⟩ := idx_sound hj
        refine ⟨.pointer (some ⟨loc.b, loc.o + (off + j * ie.size), none⟩), ?_, loc, hm, rfl⟩
        simp [Instr.indexAt, asIntOf, ut, hd, Instr.sureAddr, run_size ok hie, a, b, c, add_eq, Nat.add_assoc]
      · cases hv
    · rename_i e id off len cap esz ex hd
      obtain ⟨loc, ad, cc, hm, eu, hlc, hcc, hex, ha, hroom⟩ := hu
      subst eu
      split at hv
      · rename_i ie j hie hj
        replace hv := bif_some hv; obtain ⟨hsz, hv⟩ := hv
        cases hv
        obtain ⟨a, b, c, d⟩ := idx_sound hj
        have hsz' := beq_true.1 hsz
        have had := ha (by omega)
        subst had
        refine ⟨.pointer (some ⟨loc.b, loc.o + (off + j * esz), none⟩), ?_, loc, hm, rfl⟩
        simp [Instr.indexAt, asIntOf, ut, hd, run_size ok hie, a, b, c, hsz', add_eq, Nat.add_assoc]
      · cases hv
    · cases hv
  · cases hv

theorem str_get (l : List UInt8) (j : Nat) : (⟨l.toArray⟩ : ByteArray)[j]? = l[j]? := by
  by_cases hj : j < l.length
  · rw [getElem?_pos (⟨l.toArray⟩ : ByteArray) j (by show j < l.toArray.size; simpa using hj), List.getElem?_eq_getElem hj]
    rfl
  · rw [getElem?_neg (⟨l.toArray⟩ : ByteArray) j (by show ¬ j < l.toArray.size; simpa using hj), List.getElem?_eq_none (by omega)]

theorem index_sound (ok : EnvOk P E σ) {t : TypeId} {x ix v : AV} {u z : Value} (hv : indexA E t x ix = some v) (hu : VRel σ μ x u) (hz : VRel σ μ ix z) :
    ∃ q, (Instr.index t u z).run P w = .ok q w ∧ VRel σ μ v q := by
  unfold indexA at hv
  split at hv
  · rename_i i k n ht
    have ez : z = _ := hz; subst ez
    have ut := run_und (P := P) ok ht w
    split at hv
    · rename_i len e cs hd
      obtain ⟨vs, eu, rv⟩ := hu
      subst eu
      split at hv
      · rename_i ie j hie hj
        obtain ⟨a, b, c, d⟩ := idx_sound hj
        obtain ⟨q, hq, rq⟩ := part_sound (P := P) ok rv hv w
        exact ⟨q, by simp [Instr.index, asIntOf, ut, hd, run_size ok hie, a, b, c, hq], rq⟩
      · cases hv
    · rename_i len m hd
      obtain ⟨hlt, eu⟩ := hu; subst eu
      split at hv
      · rename_i j hj
        cases hv
        obtain ⟨a, b, c, d⟩ := idx_sound hj
        have hg : (⟨(bytesOf len m).toArray⟩ : ByteArray)[j]? = some (UInt8.ofNat (byteAt m j)) := by rw [str_get, bytesOf_get, if_pos d]
        have hb := byteAt_lt m j
        refine ⟨.int .u8 (UInt8.ofNat (byteAt m j)).toNat, by simp [Instr.index, asIntOf, ut, hd, a, c, hg], ?_⟩
        rw [VRel]
        congr 1
        simp
        omega
      · cases hv
    · cases hv
  · cases hv

/-! ### maps -/
theorem isKeyD_cases {d : TypeDesc} (hd : isKeyD d = true) : (∃ k, d = .int k) ∨ d = .string ∨ d = .bool := by
  unfold isKeyD at hd
  split at hd
  · exact .inl ⟨_, rfl⟩
  · exact .inr (.inl rfl)
  · exact .inr (.inr rfl)
  · cases hd

theorem checkKey_flat (em : Bool) (D : Nat) {t : TypeId} {d : TypeDesc} (hu : P.underlying t = some d) (hd : isKeyD d = true) (u : Value) : (Instr.checkKey em (D + 1) t u).run P w = .ok () w := by
  rcases isKeyD_cases hd with ⟨k, rfl⟩ | rfl | rfl <;> simp [Instr.checkKey, run_underlying hu]

theorem keyTy_flat {i : TyI} {kt : TypeId} (hk : keyTy E kt = true) (ht : E.ty kt = some i) : isKeyD i.desc = true ∨
    ∃ fs, i.desc = .struct fs ∧ (offsOk fs.toList 0 = true ∧ i.size = fs.toList.length) ∧ ∀ f, f ∈ fs.toList → ∃ fi, E.ty f.type = some fi ∧ isKeyD fi.desc = true ∧ fi.size = 1 := by
  unfold keyTy at hk
  rw [ht] at hk
  simp only [Bool.or_eq_true] at hk
  rcases hk with hk | hk
  · exact .inl hk
  · right
    split at hk
    · rename_i fs hd
      simp only [Bool.and_eq_true, List.all_eq_true] at hk
      refine ⟨fs, hd, ⟨hk.1.1.2, beq_true.1 hk.1.2⟩, fun f hf => ?_⟩
      have := hk.2 f hf
      split at this
      · rename_i fi hfi
        exact ⟨fi, hfi, (and_true2 this).1, beq_true.1 (and_true2 this).2⟩
      · cases this
    · cases hk

theorem checkFields (ok : EnvOk P E σ) (em : Bool) (D : Nat) {xs : List AV} {us : Array Value} (rx : VsRel σ μ xs us.toList) {g : TypeId → AV → AV → Option Bool} :
    ∀ (fs : List Field) (b : Bool), (∀ f, f ∈ fs → ∃ fi, E.ty f.type = some fi ∧ isKeyD fi.desc = true) → eqFields E g fs xs xs = some true →
      (forIn fs PUnit.unit fun f (_ : PUnit) => (if f.name ≠ "_" then do
        let x ← part f.type us f.offset
        Instr.checkKey em (D + 1) f.type x
        pure (ForInStep.yield PUnit.unit) else pure (ForInStep.yield PUnit.unit) : Sem (ForInStep PUnit))).run P w = .ok PUnit.unit w
  | [], b, _, _ => by simp
  | f :: fs, b, hf, he => by
    simp only [eqFields] at he
    cases h1 : partA E f.type xs f.offset with
    | none => rw [h1] at he; cases he
    | some a =>
      rw [h1] at he
      simp only at he
      cases h2 : g f.type a a with
      | none => rw [h2] at he; cases he
      | some q =>
        rw [h2] at he
        cases q with
        | false => cases he
        | true =>
          simp only at he
          obtain ⟨x, hx, _⟩ := part_sound (P := P) ok rx h1 w
          obtain ⟨fi, hfi, hk⟩ := hf f List.mem_cons_self
          have ih := checkFields ok em D rx fs b (fun f hf' => hf f (List.mem_cons_of_mem _ hf')) he
          simp only [List.forIn_cons, Sem.run_bind, Sem.run_ite]
          by_cases hn : f.name ≠ "_"
          · rw [if_pos hn]
            simp only [Sem.run_bind, hx, Result.andThen_ok, checkKey_flat em D (ok.ty _ _ hfi).und hk, Sem.run_pure]
            exact ih
          · rw [if_neg hn]
            simp only [Sem.run_pure, Result.andThen_ok]
            exact ih

theorem eqA_struct {t : TypeId} {i : TyI} {fs : Array Field} {d : Nat} {x y : AV} {b : Bool} (ht : E.ty t = some i) (hd : i.desc = .struct fs) (he : eqA E h (d + 1) t x y = some b) :
    ∃ xs ys, x = .agg xs ∧ y = .agg ys ∧ i.plain = true ∧ eqFields E (eqA E h d) fs.toList xs ys = some b := by
  simp only [eqA, ht, hd] at he
  split at he
  all_goals first | contradiction | skip
  rename_i gs xs ys hg
  cases hg
  replace he := bif_some he; obtain ⟨hp, he⟩ := he
  exact ⟨xs, ys, rfl, rfl, hp, he⟩

theorem checkKey_deep (ok : EnvOk P E σ) (em : Bool) (D : Nat) {kt : TypeId} {k : AV} {u : Value} (hk : keyOk E h kt k = true) (hu : VRel σ μ k u) : (Instr.checkKey em (D + 1 + 1) kt u).run P w = .ok () w := by
  unfold keyOk at hk
  obtain ⟨h1, h2⟩ := and_true2 (and_true2 hk).1
  cases ht : E.ty kt with
  | none => simp only [keyTy, ht] at h1; cases h1
  | some i =>
    rcases keyTy_flat h1 ht with hf | ⟨fs, hd, hp, hall⟩
    · exact checkKey_flat em (D + 1) (ok.ty _ _ ht).und hf u
    · split at h2
      · rename_i b hb
        subst h2
        obtain ⟨xs, ys, rfl, e2, _, he⟩ := eqA_struct ht hd hb
        cases e2
        obtain ⟨us, eu, ru⟩ := hu
        subst eu
        have := checkFields (P := P) (w := w) ok em D ru fs.toList true (fun f hf => let ⟨fi, a, b, _⟩ := hall f hf; ⟨fi, a, b⟩) he
        obtain ⟨n, hn⟩ : ∃ n, n = D + 1 := ⟨_, rfl⟩
        rw [← hn] at this ⊢
        simp only [Instr.checkKey, Sem.run_bind, run_und ok ht, hd, Result.andThen_ok]
        rw [← Array.forIn_toList]
        have e := this
        simp only [ne_eq, ite_not, bind_pure_comp] at e ⊢
        rw [e]
        rfl
      · cases h2

theorem checkKey_sound (ok : EnvOk P E σ) (em : Bool) {kt : TypeId} {k : AV} {u : Value} (hk : keyOk E h kt k = true) (hu : VRel σ μ k u) : (Instr.checkKey em 10000 kt u).run P w = .ok () w :=
  checkKey_deep ok em 9998 hk hu

/-- a key that is found, or not -/
def FoundRel (σ : Nat → Int) (μ : Map) (u : Value) (es' : List MapEntry) (i : Nat) : Option (Nat × AV × Nat) → Option (Nat × Value) → Prop
  | none, x => x = none
  | some (j, v, b), x => ∃ y e, x = some (j, y) ∧ VRel σ μ v y ∧ i ≤ j ∧ es'[j - i]? = some e ∧ e.key = u ∧ e.val = y ∧ e.born = b

theorem FoundRel.step {u : Value} {e : MapEntry} {es' : List MapEntry} {i : Nat} {res : Option (Nat × AV × Nat)} {x : Option (Nat × Value)} (hr : FoundRel σ μ u es' (i + 1) res x) : FoundRel σ μ u (e :: es') i res x := by
  cases res with
  | none => exact hr
  | some y =>
    obtain ⟨j, v, b⟩ := y
    obtain ⟨y, e', h1, h2, h3, h4, h5⟩ := hr
    refine ⟨y, e', h1, h2, by omega, ?_, h5⟩
    rw [show j - i = (j - (i + 1)) + 1 by omega, List.getElem?_cons_succ]
    exact h4

theorem key_now (ok : EnvOk P E σ) {kt : TypeId} {i : TyI} (ht : E.ty kt = some i) (hf : isKeyD i.desc = true) {d : Nat} {k k' : AV} {b : Bool} {u u' : Value} (he : eqA E h (d + 1) kt k k' = some b)
    (hu : VRel σ μ k u) (hu' : VRel σ μ k' u') : Instr.sameNow i.desc u u' = some b ∧ (b = true → u = u') := by
  simp only [eqA, ht] at he
  rcases isKeyD_cases hf with ⟨j, hd⟩ | hd | hd
  · rw [hd] at he ⊢
    split at he
    all_goals first | contradiction | skip
    · have eu : u = _ := hu; have eu' : u' = _ := hu'; subst eu eu'
      replace he := bif_some he; obtain ⟨hk, he⟩ := he
      cases he
      rw [eqK_true.1 hk, eqI_eq]
      exact ⟨by simp [Instr.sameNow], fun e => by rw [beq_iff_eq.1 e]⟩
    · have eu : u = _ := hu; have eu' : u' = _ := hu'; subst eu eu'
      replace he := bif_some he; obtain ⟨hk, he⟩ := he
      rw [eqK_true.1 hk, ← eqFact_sound ok he]
      exact ⟨by simp [Instr.sameNow, SI.val], fun e => by have := beq_iff_eq.1 e; simp only [SI.val] at this; rw [this]⟩
    · have eu : u = _ := hu; have eu' : u' = _ := hu'; subst eu eu'
      replace he := bif_some he; obtain ⟨hk, he⟩ := he
      rw [eqK_true.1 hk, ← eqFact_sound ok he]
      exact ⟨by simp [Instr.sameNow, SI.val], fun e => by have := beq_iff_eq.1 e; simp only [SI.val] at this; rw [this]⟩
    · rename_i k a k' b' _
      have eu : u = _ := hu; have eu' : u' = _ := hu'; subst eu eu'
      replace he := bif_some he; obtain ⟨hk, he⟩ := he
      rw [eqK_true.1 hk]
      cases hab : Nat.beq a b' with
      | true =>
        rw [hab] at he; cases he
        rw [beq_true.1 hab]
        exact ⟨by simp [Instr.sameNow], fun _ => rfl⟩
      | false =>
        rw [hab] at he
        rw [← eqFact_sound ok he]
        exact ⟨by simp [Instr.sameNow, SI.val], fun e => by have := beq_iff_eq.1 e; simp only [SI.val] at this; rw [this]⟩
  · rw [hd] at he ⊢
    split at he
    all_goals first | contradiction | skip
    obtain ⟨h1, eu⟩ := hu; obtain ⟨h2, eu'⟩ := hu'; subst eu eu'
    cases he
    refine ⟨by simp only [Instr.sameNow]; rw [beq_toListBytes, str_list, str_list, str_eq h1 h2], fun e => ?_⟩
    rw [beq_true.1 (and_true2 e).1, beq_true.1 (and_true2 e).2]
  · rw [hd] at he ⊢
    split at he
    all_goals first | contradiction | skip
    have eu : u = _ := hu; have eu' : u' = _ := hu'; subst eu eu'
    cases he
    exact ⟨rfl, fun e => by rw [beq_iff_eq.1 e]⟩

/-- keys of which each field is equal are one row of cells -/
theorem eqFields_now (ok : EnvOk P E σ) {d : Nat} {xs ys : List AV} {us vs : Array Value} (rx : VsRel σ μ xs us.toList) (ry : VsRel σ μ ys vs.toList) :
    ∀ (fs : List Field), (∀ f, f ∈ fs → ∃ fi, E.ty f.type = some fi ∧ isKeyD fi.desc = true ∧ fi.size = 1) → eqFields E (eqA E h (d + 1)) fs xs ys = some true →
      ∀ f, f ∈ fs → us[f.offset]? = vs[f.offset]? ∧ (us[f.offset]?).isSome = true
  | [], _, _, f, hf => by cases hf
  | f :: fs, hk, he, g, hg => by
    simp only [eqFields] at he
    obtain ⟨fi, hfi, hkd, hsz⟩ := hk f List.mem_cons_self
    have hag : isAggD fi.desc = false := by rcases isKeyD_cases hkd with ⟨k, e⟩ | e | e <;> rw [e] <;> rfl
    cases h1 : partA E f.type xs f.offset with
    | none => rw [h1] at he; cases he
    | some a =>
      cases h2 : partA E f.type ys f.offset with
      | none => rw [h1, h2] at he; cases he
      | some c =>
        rw [h1, h2] at he
        simp only at he
        cases h3 : eqA E h (d + 1) f.type a c with
        | none => rw [h3] at he; cases he
        | some q =>
          rw [h3] at he
          cases q with
          | false => cases he
          | true =>
            simp only at he
            rcases List.mem_cons.1 hg with rfl | hg
            · unfold partA at h1 h2
              rw [hfi] at h1 h2
              simp only [hag] at h1 h2
              obtain ⟨x, hx, r1⟩ := rx.get _ _ h1
              obtain ⟨y, hy, r2⟩ := ry.get _ _ h2
              have := (key_now ok hfi hkd h3 r1 r2).2 rfl
              subst this
              have hx' : us[g.offset]? = some x := by simpa using hx
              have hy' : vs[g.offset]? = some x := by simpa using hy
              rw [hx', hy']
              exact ⟨rfl, rfl⟩
            · exact eqFields_now ok rx ry fs (fun f hf => hk f (List.mem_cons_of_mem _ hf)) he g hg

theorem ask_sound (ok : EnvOk P E σ) (rel : HRel σ μ h w.heap) {kt : TypeId} {k : AV} {u : Value} (hu : VRel σ μ k u) (same : ∀ k' u', keyLen k k' = true → eqA E h 5 kt k k' = some true → VRel σ μ k' u' → u' = u) :
    ∀ (es : List (AV × AV × Nat)) (es' : List MapEntry) (i : Nat) (res : Option (Nat × AV × Nat)), findKeyA E h kt k es i = some res → EsRel σ μ es es' →
      ∃ x, (Instr.findAsking kt u es' i).run P w = .ok x w ∧ FoundRel σ μ u es' i res x
  | [], _, i, res, he, hr => by
    simp only [findKeyA] at he
    cases he
    have : _ = _ := hr
    subst this
    exact ⟨none, by simp [Instr.findAsking], rfl⟩
  | (k', v, b) :: es, _, i, res, he, ⟨e, es', rfl, hk, hv, hb, hr⟩ => by
    simp only [findKeyA] at he
    replace he := bif_some he; obtain ⟨hkl, he⟩ := he
    cases h1 : eqA E h 5 kt k k' with
    | none => rw [h1] at he; cases he
    | some q =>
      rw [h1] at he
      have hq := eq_sound ok rel 5 10000 kt k k' q (by omega) h1 u e.key hu hk
      have hq' : (Op.equal kt u e.key).run P w = .ok q w := hq
      cases q with
      | true =>
        simp only at he
        cases he
        refine ⟨some (i, e.val), by simp [Instr.findAsking, hq'], e.val, e, rfl, hv, Nat.le_refl _, by simp, same _ _ hkl h1 hk, rfl, hb⟩
      | false =>
        simp only at he
        obtain ⟨x, hx, hf⟩ := ask_sound ok rel hu same es es' (i + 1) res he hr
        exact ⟨x, by simp [Instr.findAsking, hq', hx], hf.step⟩

theorem now_sound (ok : EnvOk P E σ) {kt : TypeId} {i : TyI} (ht : E.ty kt = some i) (hf : isKeyD i.desc = true) {k : AV} {u : Value} (hu : VRel σ μ k u) :
    ∀ (es : List (AV × AV × Nat)) (es' : List MapEntry) (n : Nat) (res : Option (Nat × AV × Nat)), findKeyA E h kt k es n = some res → EsRel σ μ es es' →
      ∃ x, Instr.findNow i.desc u es' n = some x ∧ FoundRel σ μ u es' n res x
  | [], _, n, res, he, hr => by
    simp only [findKeyA] at he
    cases he
    have : _ = _ := hr
    subst this
    exact ⟨none, rfl, rfl⟩
  | (k', v, b) :: es, _, n, res, he, ⟨e, es', rfl, hk, hv, hb, hr⟩ => by
    simp only [findKeyA] at he
    replace he := bif_some he; obtain ⟨hkl, he⟩ := he
    cases h1 : eqA E h 5 kt k k' with
    | none => rw [h1] at he; cases he
    | some q =>
      rw [h1] at he
      obtain ⟨hq, hs⟩ := key_now ok ht hf h1 hu hk
      cases q with
      | true =>
        simp only at he
        cases he
        exact ⟨some (n, e.val), by simp [Instr.findNow, hq], e.val, e, rfl, hv, Nat.le_refl _, by simp, (hs rfl).symm, rfl, hb⟩
      | false =>
        simp only at he
        obtain ⟨x, hx, hff⟩ := now_sound ok ht hf hu es es' (n + 1) res he hr
        exact ⟨x, by simp [Instr.findNow, hq, hx], hff.step⟩
end
end Go.Ev
