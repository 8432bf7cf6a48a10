/-
  append, copy, clear, by the evaluator's words; all operations that do something to memory.
-/
import Derived.Test.YtkdjcmpgnkecfaaGreatDoorE16
noncomputable section
namespace Go.Ev
set_option linter.unusedVariables false
set_option linter.unusedSimpArgs false

section
variable {P : Program} {E : Env} {σ : Nat → Int} {μ : Map} {h : AH} {w : World} {r : Regs} {tmps : Array Value}

theorem avBytes_length : ∀ (l m : Nat), (avBytes l m).length = l
  | 0, _ => rfl
  | l + 1, m => by simp [avBytes, avBytes_length l]

theorem avBytes_get : ∀ (l m i : Nat), (avBytes l m)[i]? = if i < l then some (.int .u8 (.ofNat (byteAt m i))) else none
  | 0, m, i => by simp [avBytes]
  | l + 1, m, 0 => by simp [avBytes, byteAt_eq]
  | l + 1, m, i + 1 => by
    have e8 : (2 : Nat) ^ (8 * 1) = 256 := by decide
    simp only [avBytes, List.getElem?_cons_succ, avBytes_get l (m / 256) i]
    have : byteAt (m / 256) i = byteAt m (i + 1) := by
      rw [byteAt_eq, byteAt_eq, Nat.mul_add, Nat.add_comm (8 * i), Nat.pow_add, ← Nat.div_div_eq_div_mul, e8]
    rw [this]
    by_cases h : i < l
    · rw [if_pos h, if_pos (by omega)]
    · rw [if_neg h, if_neg (by omega)]

theorem avBytes_scal : ∀ (l m : Nat), (avBytes l m).all scal = true
  | 0, _ => rfl
  | l + 1, m => by simp [avBytes, scal, avBytes_scal l]

theorem bytes_cell {size : Nat} {st : Bool} {n i : Nat} (hi : i < size) : (AObj.bytes size st n).cell i = some (.int .u8 (.ofNat (byteAt n i))) := by
  simp only [AObj.cell, blt_true.2 hi, cond_true]

theorem readNat_cell {id off len n : Nat} (hr : readNat h id off len = some n) : n < 2 ^ (8 * len) ∧ ∀ j v, (avBytes len n)[j]? = some v → (h.get id).cell (off + j) = some v := by
  unfold readNat at hr
  split at hr
  · rename_i size st N hg
    replace hr := bif_some hr; obtain ⟨hle, hr⟩ := hr
    cases hr
    have hle' := ble_true.1 hle
    refine ⟨cut_lt _ _ _, fun j v hj => ?_⟩
    rw [avBytes_get] at hj
    split at hj
    · rename_i hj'
      cases hj
      rw [hg, bytes_cell (by omega), byteAt_cut _ _ _ _ hj']
    · cases hj
  · cases hr

theorem first_zero {x : AV} {u : Value} {l : Nat} (hl : lenA x = some l) (hu : VRel σ μ x u) (size : Nat) (w' : World) : (Builtin.firstCells size 0 u).run P w' = .ok #[] w' := by
  cases x <;> simp only [lenA] at hl <;> first | (cases hl; done) | skip
  · obtain ⟨_, e⟩ := hu
    subst e
    simp [Builtin.firstCells, ByteArray.data_extract]
  · have e : u = _ := hu
    subst e
    simp [Builtin.firstCells]
  · obtain ⟨loc, a, c, _, e, _⟩ := hu
    subst e
    simp [Builtin.firstCells, loadCells, loadCellsFrom]

theorem append_sound (ok : EnvOk P E σ) (rel : HRel σ μ h w.heap) {sT xT : TypeId} {s x v : AV} {h' : AH} {us ux : Value} {argTypes : Array TypeId} (h0 : argTypes[0]? = some sT) (h1 : argTypes[1]? = some xT) (rt : TypeId)
    (hv : appendA E h sT xT s x = some (v, h')) (hs : VRel σ μ s us) (hx : VRel σ μ x ux) :
    ∃ q w' μ', (Builtin.append_ argTypes rt #[us, ux]).run P w = .ok q w' ∧ Same3 w w' ∧ Moves σ μ h w.heap μ' h' w'.heap ∧ VRel σ μ' v q := by
  unfold appendA at hv
  split at hv
  · rename_i si xi n hsT hxT hlen
    split at hv
    · rename_i e hsd hxd
      split at hv
      · cases hv
      · rename_i ie hie
        obtain ⟨inf, z, hinf, his, hib, hiz, _, rz⟩ := run_info (P := P) ok hie
        obtain ⟨z2, hz, _, rz2⟩ := run_zero (P := P) ok hie
        have hzl : ie.zero.length = ie.size := (ok.ty _ _ hie).zlen
        have hzs : z2.cells.size = ie.size := by rw [← hzl, (rz2 μ).length, Array.length_toList]
        have mkApp : ∀ (m : Nat) (new : List Value), lenA x = some m → (∀ w', w'.heap = w.heap → (Builtin.firstCells ie.size m ux).run P w' = .ok new.toArray w') → App P w argTypes e ie.size ie.bytes ux m new := by
          intro m new hl hc
          refine ⟨⟨sT, xT, xi.desc, h0, h1, fun w => by rw [run_und ok hsT, hsd], fun w => run_und ok hxT w, ?_⟩, fun w => run_size ok hie w, ⟨inf, z2, hinf, hib, hz⟩, fun w => lenA_rel hl hx w, hc⟩
          split at hxd
          · rename_i hd; rw [hd]
          · rename_i hd; rw [hd]
          · cases hxd
        have hz1 : ∀ z, (zeroValue e).run P w = .ok z w → z.cells.size = ie.size := fun z' hz' => by rw [hz] at hz'; cases hz'; exact hzs
        split at hv
        · -- nothing is appended
          have a := mkApp 0 [] hlen fun w' _ => by simpa using first_zero (P := P) hlen hx ie.size w'
          split at hv
          · cases hv
            have e1 : us = _ := hs
            subst e1
            exact ⟨_, w, μ, app_nil_in a rt rfl _ (.inl rfl), Same3.refl _, Moves.refl rel, rfl⟩
          · cases hv
            have hs' := hs
            obtain ⟨loc, ad, cc, _, e1, hlc, hcc, _⟩ := hs
            subst e1
            exact ⟨_, w, μ, app_nil_in a rt rfl _ (.inr ⟨ad, _, cc, rfl, by omega⟩), Same3.refl _, Moves.refl rel, hs'⟩
          · cases hv
        · rename_i n
          split at hv
          · -- bytes
            replace hv := bif_some hv; obtain ⟨hsz, hv⟩ := hv
            have hs1 := beq_true.1 hsz
            split at hv
            · cases hv
            · rename_i new hnew
              have hfb := fun w' hw' => first_bytes (P := P) rel hlen (Nat.le_refl _) hnew hx (by omega) w' hw'
              have hnlt := (hfb w rfl).1
              have a := mkApp (n + 1) (bvals (n + 1) new) hlen fun w' hw' => by rw [hs1]; exact (hfb w' hw').2
              rw [hs1] at a hz1
              split at hv
              · -- a nil slice
                replace hv := bif_some hv; obtain ⟨hroom, hv⟩ := hv
                cases hv
                have e1 : us = _ := hs
                subst e1
                obtain ⟨c, rest, w', g1, g2, g3, g4, g5⟩ := app_grow a rt (base := none) (len := 0) (cap := 0) (by omega) (Nat.le_refl _) (by simpa using hroom) (old := []) fun w' _ => by simp [Builtin.firstCells]
                have hrl := g5 z2 (hz w)
                rw [hz1 z2 (hz w)] at hrl
                have hrow : ∀ μ', ORel σ μ' (.bytes (n + 1) false new) ⟨w.heap.size, 0, c⟩ (some (.cells ([] ++ bvals (n + 1) new ++ rest).toArray e)) := by
                  intro μ'
                  have := row_grown (σ := σ) (μ := μ') (old := []) (new := avBytes (n + 1) new) (us := []) (vs := bvals (n + 1) new) (lenc := 0) (nc := n + 1) (cellNew := (AObj.bytes (n + 1) false new).cell) rfl (avBytes_rel _ _) rfl (avBytes_length _ _)
                    (fun i hi => by rw [bytes_cell (by omega), List.nil_append, avBytes_get, if_pos (by omega)]) (st := false) (loc := ⟨w.heap.size, 0, c⟩) (rest := rest) (E' := e) rfl (by simp only [List.nil_append, List.length_append, bvals_length, hrl]; omega)
                  rw [Nat.zero_add] at this
                  exact this
                have m := rel.new (x := .cells ([] ++ bvals (n + 1) new ++ rest).toArray e) (o := .bytes (n + 1) false new) (room := c) (hrow _)
                rw [← g2] at m
                refine ⟨_, w', _, g1, g3, m, _, _, _, Map.upd_at _ _ _, by rw [Nat.zero_add], Nat.le_refl _, by omega, (fun e => by cases e), fun _ => rfl, by simp⟩
              · rename_i id off len cap esz ex
                replace hv := bif_some hv; obtain ⟨hez, hv⟩ := hv
                have hez1 := beq_true.1 hez
                subst hez1
                cases hcap : Nat.ble (len + (n + 1)) cap with
                | true =>
                  rw [hcap] at hv
                  simp only [cond_true] at hv
                  split at hv
                  · rename_i g hw
                    cases hv
                    have hcap' := ble_true.1 hcap
                    have hs' := hs
                    obtain ⟨loc, ad, cc, hm, e1, hlc, hcc, hex, had, hrm⟩ := hs
                    subst e1
                    have ead := had (by omega)
                    subst ead
                    obtain ⟨w', s1, s2, s3⟩ := write_nat (P := P) rel hm hw hnlt
                    refine ⟨_, w', μ, app_in a rt (by omega) (w' := w') ?_, s2, s3, loc, _, cc, hm, rfl, hcap', hcc, hex, fun _ => rfl, hrm⟩
                    rw [add_eq, Nat.mul_one, Nat.add_assoc]
                    exact s1
                  · cases hv
                | false =>
                  rw [hcap] at hv
                  simp only [cond_false] at hv
                  have hcap' : ¬ len + (n + 1) ≤ cap := fun h => by rw [ble_true.2 h] at hcap; cases hcap
                  split at hv
                  · cases hv
                  · rename_i old hold
                    replace hv := bif_some hv; obtain ⟨hroom, hv⟩ := hv
                    split at hv
                    · rename_i g hgr
                      cases hv
                      obtain ⟨holt, hocell⟩ := readNat_cell hold
                      obtain ⟨q, w', μ', b1, b2, b3, b4⟩ := grow_sound (zc := 0) rel rt hgr hs hcap' a hroom hz1 ⟨z2, hz w⟩ (old := avBytes len old) ⟨by rw [avBytes_length, Nat.mul_one], hocell⟩ (avBytes_rel (n + 1) new) (by rw [avBytes_length, Nat.mul_one]) (avBytes_scal _ _)
                        (fun st i hi => by
                          rw [Nat.mul_one] at hi
                          rw [bytes_cell hi, byteAt_join _ _ _ _ holt]
                          by_cases h1 : i < len
                          · rw [if_pos h1, List.getElem?_append_left (by rw [avBytes_length]; exact h1), avBytes_get, if_pos h1]
                          · rw [if_neg h1, List.getElem?_append_right (by rw [avBytes_length]; omega), avBytes_get, avBytes_length, if_pos (by omega)])
                        (fun st => by rw [Nat.mul_one]; rfl)
                      exact ⟨q, w', μ', b1, b2, b3, b4⟩
                    · cases hv
              · cases hv
          · -- other elements
            split at hv
            · rename_i xid xoff xlen xcap xesz xex
              replace hv := bif_some hv; obtain ⟨hb, hv⟩ := hv
              have hxe := beq_true.1 (and_true2 hb).1
              have hpos := ble_true.1 (and_true2 hb).2
              subst hxe
              simp only [lenA] at hlen
              cases hlen
              split at hv
              · cases hv
              · rename_i new hnew
                obtain ⟨vs, hvs, hfc⟩ := first_cells (P := P) rel (Nat.le_refl _) hnew hx (by omega)
                have a := mkApp (n + 1) vs rfl hfc
                have hln : new.length = (n + 1) * ie.size := (AObj.read_spec _ _ _ hnew).1
                split at hv
                · -- a nil slice
                  replace hv := bif_some hv; obtain ⟨hroom, hv⟩ := hv
                  cases hv
                  have e1 : us = _ := hs
                  subst e1
                  obtain ⟨c, rest, w', g1, g2, g3, g4, g5⟩ := app_grow a rt (base := none) (len := 0) (cap := 0) (by omega) (Nat.le_refl _) (by simpa using hroom) (old := []) fun w' _ => by simp [Builtin.firstCells]
                  have hrl := g5 z2 (hz w)
                  rw [hzs] at hrl
                  have hvl : vs.length = (n + 1) * ie.size := by rw [← hvs.length, hln]
                  have hcs : c * ie.size = (n + 1) * ie.size + (c - (0 + (n + 1))) * ie.size := by rw [← Nat.add_mul]; congr 1; omega
                  have hrow : ∀ μ', Ext μ μ' → ORel σ μ' (.cells ((n + 1) * ie.size) false [] (Tr.ofList new)) ⟨w.heap.size, 0, c * ie.size⟩ (some (.cells ([] ++ vs ++ rest).toArray e)) := by
                    intro μ' hext
                    have := row_grown (σ := σ) (μ := μ') (old := []) (new := new) (us := []) (vs := vs) (lenc := 0) (nc := (n + 1) * ie.size) (cellNew := (AObj.cells ((n + 1) * ie.size) false [] (Tr.ofList new)).cell) rfl (VsRel.ext hext _ _ hvs) rfl hln
                      (fun i hi => by
                        have hi' : i < new.length := by rw [hln]; omega
                        simp only [AObj.cell, blt_true.2 (show i < (n + 1) * ie.size by omega), cond_true, Tr.get_ofList, List.nil_append, List.getElem?_eq_getElem hi']) (st := false) (loc := ⟨w.heap.size, 0, c * ie.size⟩) (rest := rest) (E' := e) rfl (by simp only [List.nil_append, List.length_append, hvl, hrl, hcs])
                    rw [Nat.zero_add] at this
                    exact this
                  have hn := rel.topμ h.next (Nat.le_refl _)
                  have m := rel.new (x := .cells ([] ++ vs ++ rest).toArray e) (o := .cells ((n + 1) * ie.size) false [] (Tr.ofList new)) (room := c * ie.size) (hrow _ (Map.upd_ext _ _ hn))
                  rw [← g2] at m
                  refine ⟨_, w', _, g1, g3, m, _, _, _, Map.upd_at _ _ _, by rw [Nat.zero_add], Nat.le_refl _, by omega, (fun e => by cases e), fun _ => rfl, by simp⟩
                · rename_i id off len cap esz ex
                  replace hv := bif_some hv; obtain ⟨hb2, hv⟩ := hv
                  have hez := beq_true.1 (and_true2 hb2).1
                  have hsc := (and_true2 hb2).2
                  subst hez
                  cases hcap : Nat.ble (len + (n + 1)) cap with
                  | true =>
                    rw [hcap] at hv
                    simp only [cond_true] at hv
                    split at hv
                    · rename_i g hw
                      cases hv
                      have hcap' := ble_true.1 hcap
                      obtain ⟨loc, ad, cc, hm, e1, hlc, hcc, hex, had, hrm⟩ := hs
                      subst e1
                      have ead := had (by omega)
                      subst ead
                      have hnn : new ≠ [] := fun e => by
                        have hp : 0 < (n + 1) * ie.size := Nat.mul_pos (by omega) hpos
                        rw [e] at hln
                        simp only [List.length_nil] at hln
                        omega
                      obtain ⟨w', s1, s2, s3⟩ := store_cells (P := P) (E := E) rel hm hnn hw hvs
                      refine ⟨_, w', μ, app_in a rt (by omega) (w' := w') ?_, s2, s3, loc, _, cc, hm, rfl, hcap', hcc, hex, fun _ => rfl, hrm⟩
                      rw [add_eq, Nat.add_assoc]
                      exact s1
                    · cases hv
                  | false =>
                    rw [hcap] at hv
                    simp only [cond_false] at hv
                    have hcap' : ¬ len + (n + 1) ≤ cap := fun h => by rw [ble_true.2 h] at hcap; cases hcap
                    replace hv := bif_some hv; obtain ⟨hroom, hv⟩ := hv
                    have hsplit : (len + (n + 1)) * ie.size = len * ie.size + (n + 1) * ie.size := Nat.add_mul _ _ _
                    split at hv
                    · -- the tree goes on
                      rename_i size st0 zero t hgo hoff
                      replace hv := bif_some hv; obtain ⟨hle, hv⟩ := hv
                      have hle' := ble_true.1 hle
                      have hoff' := beq_true.1 hoff
                      subst hoff'
                      split at hv
                      · rename_i g hgr
                        cases hv
                        -- the old cells
                        have hs' := hs
                        obtain ⟨loc, ad, cc, hm, e1, hlc, hcc, hex, had, hrm⟩ := hs'
                        have hnd : h.get id ≠ .dead := by rw [hgo]; simp
                        have hor := rel.obj id loc _ hm (AH.get_live hnd)
                        rw [hgo] at hor
                        obtain ⟨c0, E0, fr0, _, _, _, _, _, hcells⟩ := hor
                        have hget : ∀ i, i < len * ie.size → ∃ v, (AObj.cells size st0 zero t).cell i = some v := fun i hi => let ⟨v, _, hv, _⟩ := hcells i (by omega); ⟨v, hv⟩
                        let old : List AV := (List.range (len * ie.size)).map fun i => ((AObj.cells size st0 zero t).cell i).getD .undef
                        have hol : old.length = len * ie.size := by simp [old]
                        have hog : ∀ j v, old[j]? = some v → (h.get id).cell (0 + j) = some v := by
                          intro j v hj
                          have hj' : j < len * ie.size := by
                            apply Classical.byContradiction
                            intro hge
                            rw [List.getElem?_eq_none (by rw [hol]; omega)] at hj
                            cases hj
                          obtain ⟨v', hv'⟩ := hget j hj'
                          simp only [old, List.getElem?_map, List.getElem?_range hj', Option.map_some, hv', Option.getD_some] at hj
                          cases hj
                          rw [hgo, Nat.zero_add]
                          exact hv'
                        obtain ⟨q, w', μ', b1, b2, b3, b4⟩ := grow_sound (zc := 0) rel rt hgr hs hcap' a hroom hz1 ⟨z2, hz w⟩ (old := old) ⟨hol, hog⟩ hvs hln hsc
                          (fun st i hi => by
                            have hi2 : i < len * ie.size + (n + 1) * ie.size := by rw [← hsplit]; exact hi
                            by_cases h1 : i < len * ie.size
                            · rw [List.getElem?_append_left (by rw [hol]; exact h1)]
                              have hjx : old[i]? = some (old[i]'(by rw [hol]; exact h1)) := List.getElem?_eq_getElem _
                              rw [hjx, ← hog i _ hjx, hgo, Nat.zero_add]
                              simp only [AObj.cell, blt_true.2 hi, blt_true.2 (show i < size by omega), cond_true, Tr.get_ofListFrom]
                              rw [if_neg (by omega)]
                            · rw [List.getElem?_append_right (by rw [hol]; omega), hol]
                              have hi3 : i - len * ie.size < new.length := by rw [hln]; omega
                              simp only [AObj.cell, blt_true.2 hi, cond_true, Tr.get_ofListFrom]
                              rw [if_pos (by rw [hln]; omega), List.getElem?_eq_getElem hi3])
                          (fun st => rfl)
                        exact ⟨q, w', μ', b1, b2, b3, b4⟩
                      · cases hv
                    · -- its cells are taken over
                      rename_i o hno
                      split at hv
                      · cases hv
                      · rename_i old hold
                        split at hv
                        · rename_i g hgr
                          cases hv
                          obtain ⟨r1, r2⟩ := AObj.read_spec _ _ _ hold
                          obtain ⟨q, w', μ', b1, b2, b3, b4⟩ := grow_sound (zc := 0) rel rt hgr hs hcap' a hroom hz1 ⟨z2, hz w⟩ (old := old) ⟨r1, r2⟩ hvs hln hsc
                            (fun st i hi => by
                              have hi2 : i < (old ++ new).length := by rw [List.length_append, r1, hln, ← hsplit]; exact hi
                              simp only [AObj.cell, blt_true.2 hi, cond_true, Tr.get_ofList, List.getElem?_eq_getElem hi2])
                            (fun st => rfl)
                          exact ⟨q, w', μ', b1, b2, b3, b4⟩
                        · cases hv
                · cases hv
            · cases hv
    · cases hv
  · cases hv

theorem copy_sound (ok : EnvOk P E σ) (rel : HRel σ μ h w.heap) {dT : TypeId} {d x v : AV} {h' : AH} {ud ux : Value} {argTypes : Array TypeId} (h0 : argTypes[0]? = some dT) (rt : TypeId)
    (hv : copyA E h dT d x = some (v, h')) (hd : VRel σ μ d ud) (hx : VRel σ μ x ux) :
    ∃ q w', (Builtin.copy_ argTypes rt #[ud, ux]).run P w = .ok q w' ∧ Same3 w w' ∧ Moves σ μ h w.heap μ h' w'.heap ∧ VRel σ μ v q := by
  unfold copyA at hv
  split at hv
  · rename_i di a b hdT hla hlb
    split at hv
    · rename_i e hde
      split at hv
      · cases hv
      · rename_i ie hie
        have hlx := lenA_rel (P := P) hla hx
        have huT : ∀ w, (underlying dT).run P w = .ok (.slice e) w := fun w => by rw [run_und ok hdT, hde]
        have hsz := fun w => run_size (P := P) ok hie w
        -- what the destination is
        have hdst : (d = .nilSlice ∧ b = 0) ∨ ∃ id off cap esz ex, d = .slice id off b cap esz ex := by
          cases d <;> simp only [lenA] at hlb <;> first | (cases hlb; done) | skip
          · cases hlb; exact .inl ⟨rfl, rfl⟩
          · cases hlb; exact .inr ⟨_, _, _, _, _, rfl⟩
        split at hv
        · rename_i hmin
          cases hv
          rcases hdst with ⟨rfl, rfl⟩ | ⟨id, off, cap, esz, ex, rfl⟩
          · have eu : ud = _ := hd
            subst eu
            refine ⟨.int .i64 0, w, ?_, Same3.refl _, Moves.refl rel, rfl⟩
            have hz := first_zero (P := P) hla hx ie.size w
            simp [Builtin.copy_, h0, huT, hsz, hlx, hz, goInt]
          · obtain ⟨loc, ad, cc, hm, eu, hlc, hcc, hex, had, hrm⟩ := hd
            subst eu
            refine ⟨.int .i64 0, w, ?_, Same3.refl _, Moves.refl rel, rfl⟩
            have hz := first_zero (P := P) hla hx ie.size w
            have hm0 : Nat.min a b = 0 := hmin
            simp [Builtin.copy_, h0, huT, hsz, hlx, hm0, hz, goInt, storeCells]
        · rename_i n hmin
          have hmn : Nat.min a b = n + 1 := hmin
          have hna : n + 1 ≤ a := Nat.le_trans (Nat.le_of_eq hmin.symm) (Nat.min_le_left a b)
          have hnb : n + 1 ≤ b := Nat.le_trans (Nat.le_of_eq hmin.symm) (Nat.min_le_right a b)
          split at hv
          · rename_i id off len cap esz ex
            simp only [lenA] at hlb
            cases hlb
            replace hv := bif_some hv; obtain ⟨hez, hv⟩ := hv
            have hez' := beq_true.1 hez
            subst hez'
            obtain ⟨loc, ad, cc, hm, eu, hlc, hcc, hex, had, hrm⟩ := hd
            subst eu
            have ead := had (by omega)
            subst ead
            split at hv
            · replace hv := bif_some hv; obtain ⟨hs1, hv⟩ := hv
              have hs1' := beq_true.1 hs1
              split at hv
              · rename_i new hnew
                split at hv
                · rename_i g hw
                  cases hv
                  obtain ⟨hlt, hfc⟩ := first_bytes (P := P) rel hla hna hnew hx (by omega) w rfl
                  obtain ⟨w', s1, s2, s3⟩ := write_nat (P := P) rel hm hw hlt
                  refine ⟨.int .i64 ((n + 1 : Nat) : Int), w', ?_, s2, s3, rfl⟩
                  simp only [Builtin.copy_, h0, List.getElem?_toArray, List.getElem?_cons_zero, List.getElem?_cons_succ, Sem.run_bind, huT, Result.andThen_ok, hlx, hmn, hsz, hs1', hfc, s1, Sem.run_pure, goInt]
                · cases hv
              · cases hv
            · split at hv
              · rename_i xid xoff xlen xcap xesz xex
                replace hv := bif_some hv; obtain ⟨hxe, hv⟩ := hv
                have hxe' := beq_true.1 (and_true2 hxe).1
                subst hxe'
                simp only [lenA] at hla
                cases hla
                split at hv
                · rename_i cs hcs
                  split at hv
                  · rename_i g hw
                    cases hv
                    obtain ⟨vs, hvs, hfc⟩ := first_cells (P := P) rel hna hcs hx (by omega)
                    have hne : cs ≠ [] := fun e => by
                      have hl := (AObj.read_spec _ _ _ hcs).1
                      have hp : 0 < (n + 1) * ie.size := Nat.mul_pos (by omega) (ble_true.1 (and_true2 hxe).2)
                      rw [e] at hl
                      simp only [List.length_nil] at hl
                      omega
                    obtain ⟨w', s1, s2, s3⟩ := store_cells (P := P) (E := E) rel hm hne hw hvs
                    refine ⟨.int .i64 ((n + 1 : Nat) : Int), w', ?_, s2, s3, rfl⟩
                    simp only [Builtin.copy_, h0, List.getElem?_toArray, List.getElem?_cons_zero, List.getElem?_cons_succ, Sem.run_bind, huT, Result.andThen_ok, hlx, hmn, hsz, hfc w rfl, s1, Sem.run_pure, goInt]
                  · cases hv
                · cases hv
              · cases hv
          · cases hv
    · cases hv
  · cases hv

theorem zeroCells_rel {zero : List AV} {z : Array Value} (hz : VsRel σ μ zero z.toList) (n : Nat) (hne : zero ≠ []) : VsRel σ μ (repl n zero) (Builtin.zeroCells z n).toList := zeros_rel hz n hne

theorem clear_sound (ok : EnvOk P E σ) (rel : HRel σ μ h w.heap) {t : TypeId} {x : AV} {h' : AH} {ux : Value} {argTypes : Array TypeId} (h0 : argTypes[0]? = some t) (rt : TypeId)
    (hv : clearA E h t x = some h') (hx : VRel σ μ x ux) :
    ∃ w', (Builtin.clear_ argTypes rt #[ux]).run P w = .ok (.tuple #[]) w' ∧ Same3 w w' ∧ Moves σ μ h w.heap μ h' w'.heap := by
  unfold clearA at hv
  split at hv
  · cases hv
  · rename_i i ht
    have ut := run_und (P := P) ok ht w
    split at hv
    · cases hv
      have eu : ux = _ := hx
      subst eu
      exact ⟨w, by simp [Builtin.clear_, h0, ut], Same3.refl _, Moves.refl rel⟩
    · cases hv
      have eu : ux = _ := hx
      subst eu
      exact ⟨w, by simp [Builtin.clear_, h0, ut], Same3.refl _, Moves.refl rel⟩
    · rename_i id off len cap esz ex
      obtain ⟨loc, ad, cc, hm, eu, hlc, hcc, hex, had, hrm⟩ := hx
      subst eu
      split at hv
      · cases hv
        exact ⟨w, by simp [Builtin.clear_, h0, ut], Same3.refl _, Moves.refl rel⟩
      · rename_i n
        have ead := had (by omega)
        subst ead
        split at hv
        · rename_i e hd
          split at hv
          · cases hv
          · rename_i ie hie
            obtain ⟨z, hz, _, rz⟩ := run_zero (P := P) ok hie
            have hzl : ie.zero.length = ie.size := (ok.ty _ _ hie).zlen
            have hzs : z.cells.size = ie.size := by rw [← hzl, (rz μ).length, Array.length_toList]
            replace hv := bif_some hv; obtain ⟨hez, hv⟩ := hv
            have hez' := beq_true.1 hez
            subst hez'
            split at hv
            · rename_i h8 hz0
              replace hv := bif_some hv; obtain ⟨hs1, hv⟩ := hv
              have hs1' := beq_true.1 hs1
              obtain ⟨w', s1, s2, s3⟩ := write_nat (P := P) rel hm hv (pow_pos2 _)
              refine ⟨w', ?_, s2, s3⟩
              have hcells : (Builtin.zeroCells z.cells (n + 1)).toList = bvals (n + 1) 0 := by
                have hzc : z.cells.toList = [.int .u8 0] := by
                  have := rz μ
                  rw [hz0] at this
                  obtain ⟨y, ys, e1, e2, e3⟩ := this
                  have e2' : y = _ := e2
                  rw [e1, VsRel.nil_iff.1 e3, e2']
                  rfl
                have hzc' : z.cells = #[.int .u8 0] := Array.toList_inj.1 (by rw [hzc])
                apply List.ext_getElem?
                intro j
                rw [bvals_get]
                have hb0 : byteAt 0 j = 0 := by simp [byteAt_eq]
                rw [hb0, hzc']
                by_cases hj : j < n + 1
                · rw [if_pos hj]
                  simp [Builtin.zeroCells, hj, Nat.mod_one]
                · rw [if_neg hj]
                  simp [Builtin.zeroCells, hj]
              simp [Builtin.clear_, h0, ut, hd, hz, hcells, s1]
            · replace hv := bif_some hv; obtain ⟨hp, hv⟩ := hv
              have hp' := ble_true.1 hp
              have hne : ie.zero ≠ [] := fun e => by rw [e] at hzl; simp at hzl; omega
              have hr := zeroCells_rel (rz μ) (n + 1) hne
              have hnn : repl (n + 1) ie.zero ≠ [] := fun e => by
                have := repl_length ie.zero (n + 1)
                rw [e, hzl] at this
                have hp2 : 0 < (n + 1) * ie.size := Nat.mul_pos (by omega) hp'
                simp only [List.length_nil] at this
                omega
              obtain ⟨w', s1, s2, s3⟩ := store_cells (P := P) (E := E) rel hm hnn hv hr
              exact ⟨w', by simp [Builtin.clear_, h0, ut, hd, hz, s1], s2, s3⟩
        · cases hv
    · rename_i id
      obtain ⟨loc, hm, eu⟩ := hx
      subst eu
      split at hv
      · rename_i es clock hg
        cases hv
        obtain ⟨es', e1, e2, e3⟩ := getObj_map (P := P) rel hm hg
        obtain ⟨s1, s2⟩ := setObj_map (P := P) rel hm hg (es2 := []) (clock2 := clock) (es' := #[]) rfl
        exact ⟨{ w with heap := w.heap.setIfInBounds loc.b (.map #[] clock) }, by simp [Builtin.clear_, h0, ut, e3, s1], ⟨rfl, rfl, rfl⟩, s2⟩
      · cases hv
    · cases hv
end
end Go.Ev
