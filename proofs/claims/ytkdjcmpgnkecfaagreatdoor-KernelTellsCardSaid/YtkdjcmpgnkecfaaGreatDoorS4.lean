/-
  slices.Sorted of a map's keys, as a known function.
-/
import Derived.Test.YtkdjcmpgnkecfaaGreatDoorS3
noncomputable section
namespace Go.Proofs.YtkdjcmpgnkecfaaGreatDoor
open Go.Ev Go.RowKit Go.Shelf Go.Maps
set_option linter.unusedVariables false
set_option linter.unusedSimpArgs false

/-! ### sorting -/
theorem insI_perm (n : Int) : ∀ l : List Int, (insI n l).Perm (n :: l)
  | [] => List.Perm.refl _
  | m :: l => by
    unfold insI
    cases Go.Ev.leI n m with
    | true => exact List.Perm.refl _
    | false => exact ((insI_perm n l).cons m).trans (List.Perm.swap n m l)
theorem sortI_perm : ∀ l : List Int, (sortI l).Perm l
  | [] => List.Perm.refl _
  | n :: l => (insI_perm n (sortI l)).trans ((sortI_perm l).cons n)
theorem insI_sorted (n : Int) : ∀ l : List Int, l.Pairwise (· ≤ ·) → (insI n l).Pairwise (· ≤ ·)
  | [], _ => List.pairwise_singleton _ _
  | m :: l, h => by
    unfold insI
    have hm := List.pairwise_cons.1 h
    cases e : Go.Ev.leI n m with
    | true =>
      rw [leI_eq, decide_eq_true_eq] at e
      refine List.pairwise_cons.2 ⟨fun x hx => ?_, h⟩
      rcases List.mem_cons.1 hx with rfl | hx
      · exact e
      · exact Int.le_trans e (hm.1 x hx)
    | false =>
      rw [leI_eq, decide_eq_false_iff_not] at e
      refine List.pairwise_cons.2 ⟨fun x hx => ?_, insI_sorted n l hm.2⟩
      rcases List.mem_cons.1 ((insI_perm n l).mem_iff.1 hx) with rfl | hx
      · omega
      · exact hm.1 x hx
theorem sortI_sorted : ∀ l : List Int, (sortI l).Pairwise (· ≤ ·)
  | [] => List.Pairwise.nil
  | n :: l => insI_sorted n _ (sortI_sorted l)
theorem riseI_lt : ∀ l : List Int, riseI l = true → l.Pairwise (· < ·)
  | [], _ => List.Pairwise.nil
  | [a], _ => List.pairwise_singleton _ _
  | a :: b :: l, h => by
    simp only [riseI, Bool.and_eq_true] at h
    have ih := riseI_lt (b :: l) h.2
    have hab : a < b := by have := h.1; rw [ltI_eq, decide_eq_true_eq] at this; exact this
    refine List.pairwise_cons.2 ⟨fun x hx => ?_, ih⟩
    rcases List.mem_cons.1 hx with rfl | hx
    · exact hab
    · exact Int.lt_trans hab ((List.pairwise_cons.1 ih).1 x hx)

theorem insert_perm {H : Type} (x : Lit × DataW H) : ∀ l : List (Lit × DataW H), (DataW.insert x l).Perm (x :: l)
  | [] => List.Perm.refl _
  | y :: l => by
    unfold DataW.insert
    split
    · exact List.Perm.refl _
    · exact ((insert_perm x l).cons y).trans (List.Perm.swap x y l)
theorem foldr_insert_perm {H : Type} : ∀ l : List (Lit × DataW H), (l.foldr DataW.insert []).Perm l
  | [] => List.Perm.refl _
  | x :: l => (insert_perm x _).trans ((foldr_insert_perm l).cons x)

/-! ### a map's entries -/
def rU : Value → Option (DataW Unit × List MemPlace) := fun _ => some (.nil, [])
theorem und3 : Tryz.prog.underlying 3 = some (.int .i64) := Tryz.underlying3

theorem keys_rel {σ : Nat → Int} {μ : Ev.Map} : ∀ {es : List (AV × AV × Nat)} {es' : List MapEntry} {ks : List Int}, EsRel σ μ es es' → keysI es = some ks →
    es'.map (·.key) = ks.map (Value.int .i64) ∧ ∀ n, n ∈ ks → (Lit.int .i64 n).wf = true
  | [], es', ks, he, hk => by
    cases hk
    rw [show es' = [] from he]
    exact ⟨rfl, fun n h => by cases h⟩
  | (k, v, b) :: es, es', ks, he, hk => by
    obtain ⟨e, r, e1, h1, h2, h3, h4⟩ := he
    simp only [keysI] at hk
    split at hk
    · rename_i n l hl
      replace hk := bif_some hk; obtain ⟨hb, hk⟩ := hk
      cases hk
      obtain ⟨g1, g2⟩ := keys_rel h4 hl
      subst e1
      have hkey : e.key = .int .i64 n := h1
      refine ⟨by simp [hkey, g1], fun m hm => ?_⟩
      rcases List.mem_cons.1 hm with rfl | hm
      · simp only [Bool.and_eq_true, leI_eq, decide_eq_true_eq] at hb
        simp only [Lit.wf, Bool.and_eq_true, decide_eq_true_eq]
        exact ⟨hb.1, hb.2⟩
      · exact g2 m hm
    · cases hk

theorem stamp_rel {σ : Nat → Int} {μ : Ev.Map} : ∀ {es : List (AV × AV × Nat)} {es' : List MapEntry} {lo clock : Nat}, EsRel σ μ es es' → stampB es lo clock = true →
    (∀ x, x ∈ es' → lo ≤ x.born ∧ x.born < clock) ∧ (es'.map (·.born)).Nodup
  | [], es', lo, clock, he, hs => by
    rw [show es' = [] from he]
    exact ⟨(fun x h => by cases h), List.nodup_nil⟩
  | (k, v, b) :: es, es', lo, clock, he, hs => by
    obtain ⟨e, r, e1, h1, h2, h3, h4⟩ := he
    simp only [stampB, Bool.and_eq_true] at hs
    obtain ⟨⟨s1, s2⟩, s3⟩ := hs
    have s1 := ble_true.1 s1
    have s2 := blt_true.1 s2
    obtain ⟨g1, g2⟩ := stamp_rel h4 s3
    subst e1
    refine ⟨fun x hx => ?_, ?_⟩
    · rcases List.mem_cons.1 hx with rfl | hx
      · rw [h3]; exact ⟨s1, s2⟩
      · have := g1 x hx; omega
    · rw [List.map_cons, List.nodup_cons]
      refine ⟨fun hm => ?_, g2⟩
      obtain ⟨x, hx, ex⟩ := List.mem_map.1 hm
      have := g1 x hx
      omega

theorem owns_of {σ : Nat → Int} {μ : Ev.Map} {w : World} {b : Nat} {es : List (AV × AV × Nat)} {es' : Array MapEntry} {clock : Nat} {ks : List Int} (hb : w.heap[b]? = some (.map es' clock)) (he : EsRel σ μ es es'.toList) (hk : keysI es = some ks)
    (hs : stampB es 0 clock = true) (hr : riseI (sortI ks) = true) (hl : es.length ≤ 16777216) :
    ∃ D : DataW Unit, w.ownsMap Tryz.prog 3 rU b es.length D ∧ (intKeys D).Perm ks ∧ Maps.size D = es.length := by
  obtain ⟨g1, g2⟩ := keys_rel he hk
  obtain ⟨s1, s2⟩ := stamp_rel he hs
  have hlen : ∀ {es : List (AV × AV × Nat)} {es' : List MapEntry}, EsRel σ μ es es' → es'.length = es.length := by
    intro es
    induction es with
    | nil => intro es' h; rw [show es' = [] from h]; rfl
    | cons p es ih =>
      intro es' h
      obtain ⟨k, v, b⟩ := p
      obtain ⟨e, r, e1, _, _, _, h4⟩ := h
      rw [e1, List.length_cons, ih h4, List.length_cons]
  have hsz : es'.size = es.length := by rw [← Array.length_toList]; exact hlen he
  have hnd : ks.Nodup := by
    have h1 := riseI_lt _ hr
    have h2 : (sortI ks).Nodup := h1.imp fun h => Int.ne_of_lt h
    exact (sortI_perm ks).nodup_iff.1 h2
  have rdx : ∀ x, x ∈ es'.toList → ∃ n, x.key = .int .i64 n ∧ Go.WideElems.rd Tryz.prog 3 rU x = some (.int .i64 n, .nil) := by
    intro x hx
    have hm : x.key ∈ es'.toList.map (·.key) := List.mem_map.2 ⟨x, hx, rfl⟩
    rw [g1] at hm
    obtain ⟨n, hn, e⟩ := List.mem_map.1 hm
    refine ⟨n, e.symm, ?_⟩
    have hko : keyOf Tryz.prog 3 x.key = some (.int .i64 n) := by
      rw [← e]
      simp only [keyOf, und3, mapKey, g2 n hn, and_self, if_true]
    unfold Go.WideElems.rd
    rw [hko]
    rfl
  have fit : Go.WideElems.Fit Tryz.prog 3 rU es' clock :=
    { size := by rw [hsz]; unfold maxLen; omega
      stamped := ⟨fun x hx => (s1 x hx).2, s2, by rw [g1]; exact List.pairwise_map.2 (List.Pairwise.imp (fun h e => h (by cases e; rfl)) hnd)⟩
      reads := fun x hx => let ⟨n, _, h⟩ := rdx x hx; ⟨_, h⟩ }
  refine ⟨_, ⟨es', clock, hb, fit, by omega, rfl⟩, ?_, ?_⟩
  · show (((es'.toList.map (Go.WideElems.rg Tryz.prog 3 rU)).foldr DataW.insert []).map fun p => Go.intOf p.1).Perm ks
    refine ((foldr_insert_perm _).map _).trans ?_
    have : ∀ l : List MapEntry, (∀ x, x ∈ l → ∃ n, x.key = .int .i64 n ∧ Go.WideElems.rd Tryz.prog 3 rU x = some (.int .i64 n, .nil)) →
        ((l.map (Go.WideElems.rg Tryz.prog 3 rU)).map fun p => Go.intOf p.1).map (Value.int .i64) = l.map (·.key) := by
      intro l
      induction l with
      | nil => intro _; rfl
      | cons x l ih =>
        intro h
        obtain ⟨n, e1, e2⟩ := h x List.mem_cons_self
        simp only [List.map_cons, ih fun y hy => h y (List.mem_cons_of_mem _ hy), Go.WideElems.rg_of e2, e1]
        rfl
    have h1 := this es'.toList rdx
    rw [g1] at h1
    have h2 := List.map_inj_right (f := Value.int .i64) (fun a b h => by cases h; rfl) |>.1 h1
    rw [h2]
  · show ((es'.toList.map (Go.WideElems.rg Tryz.prog 3 rU)).foldr DataW.insert []).length = es.length
    rw [(foldr_insert_perm _).length_eq, List.length_map, Array.length_toList, hsz]

/-! ### the contract -/
theorem sorts (m : Nat) : AnyZI.SortsIn Tryz.prog Tryz.sortedA_ren Fence.wide m :=
  ⟨fun blk off cap ss W hH hblk hsz => callsIn_wide.2 (AnyM.slices_Sort_int Tryz.sortA blk off cap ss W hH hblk hsz),
   fun p cap W => callsIn_wide.2 (AnyM.slices_Sort_int_none Tryz.sortA p cap W)⟩

theorem sorted_calls {w : World} {Bm b nn : Nat} {D : DataW Unit} (hBm : Bm < w.heap.size) (hm : w.cell? ⟨Bm, 0, none⟩ = some (.map (some b))) (hown : w.ownsMap Tryz.prog 3 rU b nn D) (hmax : Maps.size D ≤ maxLen) (hbytes : Maps.size D * 8 ≤ 140737488355328) :
    Calls Tryz.prog 172 #[.func (.func 261) #[] #[.pointer (some ⟨Bm, 0, none⟩)]] w fun e w' => ∃ (v : Value) (ss : List Int), e = .returned v ∧ ss.Perm (intKeys D) ∧
      w'.ownsRow w.heap.size 3 1 v ss.length ((ss.mergeSort (fun x y => decide (x ≤ y))).map encZ) ∧ (v = .slice none 0 0 ↔ ss = []) ∧ Below w.heap.size w w' := by
  have hseq : SeqGives Fence.wide 2 Tryz.prog 261 #[.pointer (some ⟨Bm, 0, none⟩)] encZ (fun ss => ss.Perm (intKeys D)) (Maps.size D) w :=
    AnyZI.keys_gives (ρ := Tryz.keysA_ren) { Tryz.keysA with } Fence.wide _ trivial rfl (by omega) Bm b nn D w hBm hm hown
  have cS := AnyZI.sorted_in Tryz.sortedA Fence.wide 5 trivial trivial trivial trivial rfl (by omega) (sorts _) (enters_of Tryz.func260 (by kernel_rfl) rfl) 261 #[.pointer (some ⟨Bm, 0, none⟩)] trivial (enters_of Tryz.func261 (by kernel_rfl) rfl) _ _ hmax hbytes _ hseq
  exact callsIn_wide.1 cS

/-! ### a row that the call has made, taken as a new block -/
theorem adopt {σ : Nat → Int} {μ : Ev.Map} {h : AH} {H H' : Array Obj} {g room : Nat} {o : AObj} (rel : HRel σ μ h H) (hbl : ∀ k, k < H.size → H'[k]? = H[k]?) (hsz : H.size ≤ H'.size) (hg : H.size ≤ g) (hg' : g < H'.size)
    (hr : ORel σ (μ.upd h.next ⟨g, 0, room⟩) o ⟨g, 0, room⟩ H'[g]?) : Moves σ μ h H (μ.upd h.next ⟨g, 0, room⟩) (h.new o) H' := by
  have hn := rel.topμ h.next (Nat.le_refl _)
  have next_new : (h.new o).next = h.next + 1 := rfl
  have old : ∀ j, j ≠ h.next → (μ.upd h.next ⟨g, 0, room⟩) j = μ j := fun j hj => Map.upd_other _ _ hj
  exact
    { ext := Map.upd_ext _ _ hn
      rel :=
        { obj := fun j l q hj hq => by
            rw [tr_new] at hq
            by_cases e : j = h.next
            · rw [if_pos e] at hq
              cases hq
              rw [e, Map.upd_at] at hj
              cases hj
              exact hr
            · rw [if_neg e] at hq
              rw [old j e] at hj
              rw [hbl l.b (rel.lt j l hj)]
              exact (rel.obj j l q hj hq).ext (Map.upd_ext _ _ hn)
          inj := fun i j l l' hi hj hb hdi hdj => by
            rw [tr_new] at hdj
            by_cases ei : i = h.next
            · by_cases ej : j = h.next
              · rw [ei, ej]
              · rw [ei, Map.upd_at] at hi
                cases hi
                rw [old j ej] at hj
                have := rel.lt j l' hj
                simp at hb
                omega
            · rw [old i ei] at hi
              by_cases ej : j = h.next
              · rw [ej, Map.upd_at] at hj
                cases hj
                have := rel.lt i l hi
                simp at hb
                omega
              · rw [old j ej] at hj
                rw [if_neg ej] at hdj
                exact rel.inj i j l l' hi hj hb (fun x hx => hdi x (by rw [tr_new, if_neg ei]; exact hx)) hdj
          lt := fun j l hj => by
            by_cases e : j = h.next
            · rw [e, Map.upd_at] at hj
              cases hj
              exact hg'
            · rw [old j e] at hj
              exact Nat.lt_of_lt_of_le (rel.lt j l hj) hsz
          topμ := fun j hj => by
            rw [next_new] at hj
            rw [old j (by omega)]
            exact rel.topμ j (by omega)
          toph := fun j hj => by
            rw [next_new] at hj
            rw [tr_new, if_neg (by omega)]
            exact rel.toph j (by omega) }
      next := by rw [next_new]; omega
      keptμ := fun j hj hx => by rw [old j (by omega)]; exact hx
      kept := fun j hj _ => by rw [tr_new, if_neg (by omega)]
      size := hsz
      own := fun b hb ⟨id, loc, q, h1, h2, h3, h4⟩ => by
        by_cases e : id = h.next
        · rw [e, Map.upd_at] at h1
          cases h1
          simp at h4
          omega
        · rw [old id e] at h1
          rw [tr_new, if_neg e] at h2
          exact ⟨id, loc, q, h1, h2, h3, h4⟩
      frame := fun b hb _ => hbl b hb }

theorem fnb172 : Tryz.f172.body = some (Tryz.f172.body.getD .skip) := by kernel_rfl
theorem fne172 (fs : List Fact) : (env fs).fn 172 = some Tryz.f172 := by kernel_rfl

theorem get_some {h : AH} {id : Nat} {o : AObj} (hg : h.get id = o) (hd : o ≠ .dead) : h.tr.get id = some o := by
  unfold AH.get at hg
  split at hg
  · rename_i q hq; rw [hq, hg]
  · exact absurd hg.symm hd

theorem sorted_ok {fs : List Fact} {σ : Nat → Int} (ok : EnvOk Tryz.prog (env fs) σ) : PrimOk Tryz.prog (env fs) σ 172 sortedP := by
  intro args h v h' he μ w us hg rel hu
  unfold sortedP at he
  split at he
  · rename_i f a
    replace he := bif_some he; obtain ⟨hf, he⟩ := he
    have hf := Ev.beq_true.1 hf
    subst hf
    split at he
    · rename_i tl id tr ha
      split at he
      · rename_i es clock hid
        split at he
        · rename_i ks hks
          replace he := bif_some he; obtain ⟨hb, he⟩ := he
          simp only [Bool.and_eq_true] at hb
          obtain ⟨⟨hr, hst⟩, hlen⟩ := hb
          have hlen := ble_true.1 hlen
          obtain ⟨u1, r1, e1, ⟨x, y, hu1, hx, hy⟩, e3⟩ := hu
          have hx0 : x = #[] := by apply Array.ext'; exact hx
          obtain ⟨u2, r2, e2, ⟨loc, hm, hu2⟩, e4⟩ := hy
          have oa := rel.obj a loc _ hm (get_some ha (by intro e; cases e))
          obtain ⟨ho0, c, Et, fr0, hc1, hc2, hc3, _, _, hc6⟩ := oa
          obtain ⟨v0, y0, hv0, hy0, hr0⟩ := hc6 0 (by omega)
          have hv0' : v0 = .map id := by
            have : (AObj.ro 1 (.node tl (some (.map id)) tr)).cell 0 = some (.map id) := rfl
            rw [this] at hv0
            exact (Option.some.inj hv0).symm
          subst hv0'
          obtain ⟨lm, hlm, hy0e⟩ := hr0
          have om := rel.obj id lm _ hlm (get_some hid (by intro e; cases e))
          obtain ⟨es', hes, hrel⟩ := om
          obtain ⟨D, hown, hperm, hsize⟩ := owns_of hes hrel hks hst hr hlen
          have eu : us = #[.func (.func 261) #[] #[.pointer (some ⟨loc.b, 0, none⟩)]] := by
            have hy1 : y = #[.pointer (some ⟨loc.b, 0, none⟩)] := by
              apply Array.ext'
              rw [e2, e4, hu2, ho0]
            apply Array.ext'
            rw [e1, e3, hu1, hx0, hy1]
          subst eu
          have hcell : w.cell? ⟨loc.b, 0, none⟩ = some (.map (some lm.b)) := by
            simp only [World.cell?, hc1]
            rw [ho0] at hy0
            simpa [hy0e] using hy0
          refine .inl ⟨172, _, inv_of ok (fne172 fs) fnb172 _ w, fun cs => ?_⟩
          obtain ⟨e, w', fr, ⟨v', ss, rfl, hss, hrow, hnil, hbl⟩, h1, h2, h3⟩ := sorted_calls (rel.lt a loc hm) hcell hown (by rw [hsize]; unfold maxLen; omega) (by rw [hsize]; omega) cs
          have hsort : ss.mergeSort (fun x y => decide (x ≤ y)) = sortI ks := by
            refine List.Perm.eq_of_pairwise (le := fun a b => a ≤ b) (fun a b _ _ p q => Int.le_antisymm p q) ?_ (sortI_sorted ks) (((List.mergeSort_perm ss _).trans (hss.trans hperm)).trans (sortI_perm ks).symm)
            have := List.pairwise_mergeSort (le := fun x y : Int => decide (x ≤ y)) (fun a b c p q => by simp only [decide_eq_true_eq] at *; omega) (fun a b => by simp only [Bool.or_eq_true, decide_eq_true_eq]; omega) ss
            exact this.imp fun p => by simpa using p
          rw [hsort] at hrow
          have hlen2 : ss.length = (sortI ks).length := ((hss.trans hperm).trans (sortI_perm ks).symm).length_eq
          cases hL : sortI ks with
          | nil =>
            rw [hL] at he hlen2
            cases he
            have : ss = [] := List.length_eq_zero_iff.1 hlen2
            have hv := hnil.2 this
            exact ⟨fr, v', w', μ, h1, h2, h3, ⟨hbl.os, hbl.tape, hbl.output⟩, moves_below rel hbl, hv⟩
          | cons k l =>
            rw [hL] at he hlen2 hrow
            cases he
            obtain ⟨hxl, hrow⟩ := hrow
            rcases hrow with ⟨_, h0⟩ | ⟨g, cap, cur, hv, hgb, hgc, hn, hcap, hcs, htk⟩
            · rw [hlen2] at h0; cases h0
            · have hgl : g < w'.heap.size := by
                by_cases hlt : g < w'.heap.size
                · exact hlt
                · rw [Array.getElem?_eq_none (by omega)] at hgc; cases hgc
              simp only [Nat.mul_one] at hcs htk
              have hn' : l.length + 1 ≤ cap := by rw [hlen2] at hn; simpa using hn
              have mv := adopt (o := .cells (l.length + 1) false [] (Tr.ofList ((k :: l).map (AV.int .i64)))) (room := cap) rel (fun b hb => hbl.block b hb) hbl.size hgb hgl
                ⟨cur, 3, (0, 0), hgc, by simp [hcs], hn', (fun _ => rfl), (fun i _ hi => by simp at hi), fun i hi => by
                  have hi' : i < (k :: l).length := by simpa using hi
                  refine ⟨.int .i64 ((k :: l)[i]'hi'), .int .i64 ((k :: l)[i]'hi'), ?_, ?_, rfl⟩
                  · show (bif Nat.blt i (l.length + 1) then _ else none) = _
                    rw [blt_true.2 hi, Tr.get_ofList, List.getElem?_map, List.getElem?_eq_getElem hi']
                    rfl
                  · have e5 : (cur.toList.take ss.length)[i]? = ((k :: l).map encZ)[i]? := by rw [htk]
                    rw [List.getElem?_take, if_pos (by rw [hlen2]; exact hi'), List.getElem?_map, List.getElem?_eq_getElem hi'] at e5
                    simpa using e5⟩
              refine ⟨fr, v', w', _, h1, h2, h3, ⟨hbl.os, hbl.tape, hbl.output⟩, mv, ?_⟩
              refine ⟨⟨g, 0, cap⟩, ⟨g, 0, none⟩, cap, Map.upd_at _ _ _, ?_, Nat.le_refl _, hn', (fun e => by cases e), fun _ => rfl, by simp⟩
              rw [hv, hlen2]
              rfl
        · cases he
      · cases he
    · cases he
  · cases he

theorem prims_ok {fs : List Fact} {σ : Nat → Int} (ok : EnvOk Tryz.prog (env fs) σ) : PrimsOk Tryz.prog (env fs) σ PV :=
  prims_cons (repeat_ok ok) (prims_cons (indexByte_ok ok) (prims_cons (sorted_ok ok) (prims_cons (keys_ok ok) prims_nil)))
end Go.Proofs.YtkdjcmpgnkecfaaGreatDoor
