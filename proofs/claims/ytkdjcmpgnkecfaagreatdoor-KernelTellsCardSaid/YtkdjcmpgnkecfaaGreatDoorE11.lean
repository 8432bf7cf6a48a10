/-
  Maps looked into; lengths; aggregates; all operations that only look.
-/
import Derived.Test.YtkdjcmpgnkecfaaGreatDoorE10
noncomputable section
namespace Go.Ev
set_option linter.unusedVariables false
set_option linter.unusedSimpArgs false

section
variable {P : Program} {E : Env} {σ : Nat → Int} {μ : Map} {h : AH} {w : World} {r : Regs} {tmps : Array Value}

theorem offs_field : ∀ (fs : List Field) (i : Nat), offsOk fs i = true → ∀ j, j < fs.length → ∃ f, f ∈ fs ∧ f.offset = i + j
  | [], _, _, j, hj => by simp at hj
  | f :: fs, i, ho, 0, _ => ⟨f, List.mem_cons_self, by simp only [offsOk] at ho; have := beq_true.1 (and_true2 ho).1; omega⟩
  | f :: fs, i, ho, j + 1, hj => by
    simp only [offsOk] at ho
    obtain ⟨g, hg, e⟩ := offs_field fs (i + 1) (and_true2 ho).2 j (by simpa using hj)
    exact ⟨g, List.mem_cons_of_mem _ hg, by omega⟩

theorem key_same (ok : EnvOk P E σ) {kt : TypeId} {k : AV} {u : Value} (hk : keyOk E h kt k = true) (hu : VRel σ μ k u) :
    ∀ k' u', keyLen k k' = true → eqA E h 5 kt k k' = some true → VRel σ μ k' u' → u' = u := by
  intro k' u' hl he hu'
  unfold keyOk at hk
  obtain ⟨h12, h3⟩ := and_true2 hk
  obtain ⟨h1, h2⟩ := and_true2 h12
  cases ht : E.ty kt with
  | none => simp only [keyTy, ht] at h1; cases h1
  | some i =>
    rcases keyTy_flat h1 ht with hf | ⟨fs, hd, ⟨ho, hs⟩, hall⟩
    · exact ((key_now ok ht hf he hu hu').2 rfl).symm
    · obtain ⟨xs, ys, rfl, rfl, _, he⟩ := eqA_struct ht hd he
      obtain ⟨us, rfl, ru⟩ := hu
      obtain ⟨vs, rfl, rv⟩ := hu'
      have hn := eqFields_now ok ru rv fs.toList hall he
      rw [ht] at h3
      have l1 : xs.length = fs.toList.length := by rw [beq_true.1 h3, hs]
      have l2 : xs.length = ys.length := beq_true.1 hl
      have e1 := ru.length
      have e2 := rv.length
      congr 1
      apply Array.ext_getElem?
      intro j
      by_cases hj : j < fs.toList.length
      · obtain ⟨f, hf, ef⟩ := offs_field fs.toList 0 ho j hj
        have := (hn f hf).1
        rw [ef, Nat.zero_add] at this
        exact this.symm
      · rw [Array.getElem?_eq_none (by simp only [Array.length_toList] at e1 e2; omega), Array.getElem?_eq_none (by simp only [Array.length_toList] at e1 e2; omega)]

theorem find_sound (ok : EnvOk P E σ) (rel : HRel σ μ h w.heap) {kt : TypeId} {k : AV} {u : Value} (hk : keyOk E h kt k = true) (hu : VRel σ μ k u) {es : List (AV × AV × Nat)} {es' : List MapEntry}
    {res : Option (Nat × AV × Nat)} (he : findKeyA E h kt k es 0 = some res) (hr : EsRel σ μ es es') :
    ∃ x, (Instr.findKey kt u es').run P w = .ok x w ∧ FoundRel σ μ u es' 0 res x := by
  have hk' := hk
  unfold keyOk at hk
  obtain ⟨h12, h3⟩ := and_true2 hk
  obtain ⟨h1, h2⟩ := and_true2 h12
  cases ht : E.ty kt with
  | none => simp only [keyTy, ht] at h1; cases h1
  | some i =>
    rcases keyTy_flat h1 ht with hf | ⟨fs, hd, _, hall⟩
    · obtain ⟨x, hx, hff⟩ := now_sound ok ht hf hu es es' 0 res he hr
      exact ⟨x, by simp [Instr.findKey, run_und ok ht, hx], hff⟩
    · obtain ⟨x, hx, hff⟩ := ask_sound (P := P) ok rel hu (key_same ok hk' hu) es es' 0 res he hr
      refine ⟨x, ?_, hff⟩
      simp only [Instr.findKey, Sem.run_bind, run_und ok ht, hd, Result.andThen_ok]
      cases es' with
      | nil =>
        simp [Instr.findAsking] at hx
        simp [Instr.findNow, hx]
      | cons e es' => simpa [Instr.findNow, Instr.sameNow] using hx

theorem getObj_map (rel : HRel σ μ h w.heap) {id : Nat} {loc : Loc} {es : List (AV × AV × Nat)} {clock : Nat} (hm : μ id = some loc) (hg : h.get id = .map es clock) :
    ∃ es', w.heap[loc.b]? = some (.map es' clock) ∧ EsRel σ μ es es'.toList ∧ (getObj loc.b).run P w = .ok (.map es' clock) w := by
  have hnd : h.get id ≠ .dead := by rw [hg]; simp
  have := rel.obj id loc _ hm (AH.get_live hnd)
  rw [hg] at this
  obtain ⟨es', e, r⟩ := this
  exact ⟨es', e, r, by simp [getObj, Sem.run, e]⟩

theorem lookup_sound (ok : EnvOk P E σ) (rel : HRel σ μ h w.heap) {t : TypeId} {x ix v : AV} {u z : Value} {b : Bool} (hv : lookupA E h t x ix b = some v) (hu : VRel σ μ x u) (hz : VRel σ μ ix z) :
    ∃ q, (Instr.lookup t u z b).run P w = .ok q w ∧ VRel σ μ v q := by
  unfold lookupA at hv
  split at hv
  · cases hv
  · rename_i i ht
    split at hv
    · rename_i kt e hd
      split at hv
      · cases hv
      · rename_i ie hie
        replace hv := bif_some hv; obtain ⟨hk, hv⟩ := hv
        obtain ⟨zv, hzv, rz, _⟩ := run_zero (P := P) ok hie
        have pair : ∀ (a : AV) (q : Value) (c : Bool), VRel σ μ a q → VRel σ μ (bif b then .tuple [a, .bool c] else a) (if b = true then .tuple #[q, .bool c] else q) := by
          intro a q c ra
          cases b with
          | true => exact ⟨_, rfl, q, [.bool c], rfl, ra, .bool c, [], rfl, rfl, rfl⟩
          | false => exact ra
        split at hv
        · have eu : u = _ := hu; subst eu
          split at hv
          · rename_i hfk
            cases hv
            refine ⟨_, ?_, pair _ _ false (rz μ)⟩
            obtain ⟨x, hx, hff⟩ := find_sound (P := P) ok rel hk hz hfk (es' := []) rfl
            have : x = none := hff
            subst this
            simp [Instr.lookup, run_und ok ht, hd, checkKey_sound ok true hk hz, hx, hzv]
          · cases hv
        · rename_i id
          obtain ⟨loc, hm, eu⟩ := hu
          subst eu
          split at hv
          · rename_i es clock hg
            obtain ⟨es', e1, e2, e3⟩ := getObj_map (P := P) rel hm hg
            split at hv
            · rename_i j v' b' hfk
              cases hv
              obtain ⟨x, hx, hff⟩ := find_sound (P := P) ok rel hk hz hfk e2
              obtain ⟨y, ent, hxe, ry, _⟩ := hff
              subst hxe
              refine ⟨_, ?_, pair _ _ true ry⟩
              simp [Instr.lookup, run_und ok ht, hd, e3, checkKey_sound ok es'.isEmpty hk hz, hx]
            · rename_i hfk
              cases hv
              obtain ⟨x, hx, hff⟩ := find_sound (P := P) ok rel hk hz hfk e2
              have : x = none := hff
              subst this
              refine ⟨_, ?_, pair _ _ false (rz μ)⟩
              simp [Instr.lookup, run_und ok ht, hd, e3, checkKey_sound ok es'.isEmpty hk hz, hx, hzv]
            · cases hv
          · cases hv
        · cases hv
    · cases hv

theorem EsRel.length : ∀ {as : List (AV × AV × Nat)} {es : List MapEntry}, EsRel σ μ as es → as.length = es.length
  | [], _, e => by have : _ = _ := e; subst this; rfl
  | (k, v, b) :: as, _, ⟨e, es', rfl, _, _, _, r⟩ => by simp [EsRel.length r]

theorem len_sound (ok : EnvOk P E σ) (rel : HRel σ μ h w.heap) {t : TypeId} {x v : AV} {u : Value} (ts : Array TypeId) (hts : ts[0]? = some t) (rt : TypeId) (hv : lenOpA E h t x = some v) (hu : VRel σ μ x u) :
    ∃ q, (Builtin.len_ ts rt #[u]).run P w = .ok q w ∧ VRel σ μ v q := by
  unfold lenOpA at hv
  split at hv
  · cases hv
  · rename_i i ht
    have ut := run_und (P := P) ok ht w
    split at hv
    · rename_i l n hd
      obtain ⟨_, eu⟩ := hu; subst eu; cases hv
      have hsz : (⟨(bytesOf l n).toArray⟩ : ByteArray).size = l := by show (bytesOf l n).toArray.size = l; simp [bytesOf_length]
      exact ⟨.int .i64 l, by simp [Builtin.len_, hts, ut, hd, goInt, hsz], rfl⟩
    · rename_i n e hd
      cases hv
      exact ⟨.int .i64 n, by simp [Builtin.len_, hts, ut, hd, goInt], rfl⟩
    · rename_i e hd
      have eu : u = _ := hu; subst eu; cases hv
      exact ⟨.int .i64 0, by simp [Builtin.len_, hts, ut, hd, goInt], rfl⟩
    · rename_i e id off len cap esz ex hd
      obtain ⟨loc, a, c, _, eu, _⟩ := hu; subst eu; cases hv
      exact ⟨.int .i64 len, by simp [Builtin.len_, hts, ut, hd, goInt], rfl⟩
    · rename_i a b hd
      have eu : u = _ := hu; subst eu; cases hv
      exact ⟨.int .i64 0, by simp [Builtin.len_, hts, ut, hd, goInt], rfl⟩
    · rename_i a b id hd
      obtain ⟨loc, hm, eu⟩ := hu; subst eu
      split at hv
      · rename_i es clock hg
        cases hv
        obtain ⟨es', e1, e2, e3⟩ := getObj_map (P := P) rel hm hg
        refine ⟨.int .i64 es'.size, by simp [Builtin.len_, hts, ut, hd, goInt, e3], ?_⟩
        rw [VRel, e2.length]; simp
      · cases hv
    · cases hv

theorem cap_sound (ok : EnvOk P E σ) {t : TypeId} {x v : AV} {u : Value} (ts : Array TypeId) (hts : ts[0]? = some t) (rt : TypeId) (hv : capOpA E t x = some v) (hu : VRel σ μ x u) :
    ∃ q, (Builtin.cap_ ts rt #[u]).run P w = .ok q w ∧ VRel σ μ v q := by
  unfold capOpA at hv
  split at hv
  · cases hv
  · rename_i i ht
    have ut := run_und (P := P) ok ht w
    split at hv
    · rename_i e hd
      have eu : u = _ := hu; subst eu; cases hv
      exact ⟨.int .i64 0, by simp [Builtin.cap_, hts, ut, hd, goInt], rfl⟩
    · rename_i e id off len c esz hd
      obtain ⟨loc, a, cc, _, eu, _, _, hex, _⟩ := hu; subst eu; cases hv
      exact ⟨.int .i64 cc, by simp [Builtin.cap_, hts, ut, hd, goInt], by rw [hex rfl]; rfl⟩
    · cases hv

theorem min_sound : ∀ (xs : List AV) (x v : AV) (us : List Value) (u : Value), minA x xs = some v → VRel σ μ x u → VsRel σ μ xs us → ∃ q, (us.foldlM Builtin.min2 u).run P w = .ok q w ∧ VRel σ μ v q
  | [], x, v, us, u, hv, hu, hr => by
    simp only [minA] at hv; cases hv
    rw [VsRel.nil_iff.1 hr]
    exact ⟨u, by simp, hu⟩
  | y :: ys, x, v, _, u, hv, hu, ⟨z, us, rfl, hz, hr⟩ => by
    unfold minA at hv
    split at hv
    · rename_i heq; cases heq
    · rename_i heq
      cases heq
      have eu : u = _ := hu; have ez : z = _ := hz; subst eu ez
      obtain ⟨q, hq, rq⟩ := min_sound _ _ v us _ hv rfl hr
      refine ⟨q, ?_, rq⟩
      simp only [List.foldlM_cons, Sem.run_bind, Builtin.min2, Sem.run_pure, Result.andThen_ok]
      rw [ltI_eq, cond_decide] at hq
      exact hq
    · cases hv

theorem max_sound : ∀ (xs : List AV) (x v : AV) (us : List Value) (u : Value), maxA x xs = some v → VRel σ μ x u → VsRel σ μ xs us → ∃ q, (us.foldlM Builtin.max2 u).run P w = .ok q w ∧ VRel σ μ v q
  | [], x, v, us, u, hv, hu, hr => by
    simp only [maxA] at hv; cases hv
    rw [VsRel.nil_iff.1 hr]
    exact ⟨u, by simp, hu⟩
  | y :: ys, x, v, _, u, hv, hu, ⟨z, us, rfl, hz, hr⟩ => by
    unfold maxA at hv
    split at hv
    · rename_i heq; cases heq
    · rename_i heq
      cases heq
      have eu : u = _ := hu; have ez : z = _ := hz; subst eu ez
      obtain ⟨q, hq, rq⟩ := max_sound _ _ v us _ hv rfl hr
      refine ⟨q, ?_, rq⟩
      simp only [List.foldlM_cons, Sem.run_bind, Builtin.max2, Sem.run_pure, Result.andThen_ok]
      rw [ltI_eq, cond_decide] at hq
      exact hq
    · cases hv
end
end Go.Ev
