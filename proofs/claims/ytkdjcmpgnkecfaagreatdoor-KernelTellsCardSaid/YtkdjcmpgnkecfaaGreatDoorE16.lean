/-
  append.
-/
import Derived.Test.YtkdjcmpgnkecfaaGreatDoorE15
noncomputable section
namespace Go.Ev
set_option linter.unusedVariables false
set_option linter.unusedSimpArgs false

section
variable {P : Program} {E : Env} {σ : Nat → Int} {μ : Map} {h : AH} {w : World} {r : Regs} {tmps : Array Value}

theorem ORel.of_row {o : AObj} {size : Nat} {st : Bool} {loc : Loc} {x : Option Obj} (h1 : o.row = some (size, st)) (hr : RowRel σ μ o.cell size st loc x) : ORel σ μ o loc x := by
  cases o <;> simp only [AObj.row] at h1 <;> first | (cases h1; done) | (cases h1; exact hr)

theorem scals_one : ∀ {as : List AV} {vs : List Value}, VsRel σ μ as vs → as.all scal = true → ∀ v, v ∈ vs → v.oneCell' = true
  | [], _, hr, _, v, hv => by rw [VsRel.nil_iff.1 hr] at hv; cases hv
  | a :: as, _, ⟨x, xs, rfl, hx, hxs⟩, hs, v, hv => by
    simp only [List.all_cons, Bool.and_eq_true] at hs
    rcases List.mem_cons.1 hv with rfl | hv
    · exact scal_one hs.1 hx
    · exact scals_one hxs hs.2 v hv

/-- a row goes on: in place or as a new one -/
theorem grow_sound (rel : HRel σ μ h w.heap) {id off len cap esz n : Nat} {ex : Bool} {o : Bool → AObj} {g : AH} {old new : List AV} {vs : List Value} {us : Value} {ux : Value} {argTypes : Array TypeId} {e : TypeId} {bytes : Nat} {zc : Nat}
    (rt : TypeId) (hg : growA h id ex o = some g) (hu : VRel σ μ (.slice id off len cap esz ex) us) (hc : ¬ len + n ≤ cap) (a : App P w argTypes e esz bytes ux n vs) (hroom : roomy (len + n) bytes = true)
    (hz : ∀ z, (zeroValue e).run P w = .ok z w → z.cells.size = esz) (hzx : ∃ z, (zeroValue e).run P w = .ok z w)
    (hold : old.length = len * esz ∧ ∀ j v, old[j]? = some v → (h.get id).cell (off + j) = some v) (hnew : VsRel σ μ new vs) (hln : new.length = n * esz) (hsc : new.all scal = true)
    (hcell : ∀ st i, i < (len + n) * esz → (o st).cell i = (old ++ new)[i]?) (hrow : ∀ st, (o st).row = some ((len + n) * esz, st)) :
    ∃ q w' μ', (Builtin.append_ argTypes rt #[us, ux]).run P w = .ok q w' ∧ Same3 w w' ∧ Moves σ μ h w.heap μ' g w'.heap ∧ VRel σ μ' (.slice h.next 0 (len + n) (len + n) esz false) q := by
  obtain ⟨loc, ad, cc, hm, rfl, hlc, hcc, hex, had, hrm⟩ := hu
  -- the old cells, as the model has them
  obtain ⟨xs, hxs, hxl, hload⟩ : ∃ xs : List Value, VsRel σ μ old xs ∧ xs.length = len * esz ∧ ∀ w', w'.heap = w.heap → (Builtin.firstCells esz len (.slice (some ad) len cc)).run P w' = .ok xs.toArray w' := by
    by_cases h0 : len = 0
    · subst h0
      have : old = [] := List.eq_nil_of_length_eq_zero (by rw [hold.1]; simp)
      subst this
      exact ⟨[], rfl, by simp, fun w' hw => by simp [Builtin.firstCells, loadCells, loadCellsFrom]⟩
    · obtain ⟨xs, p, q⟩ := list_rel (σ := σ) (μ := μ) (f := fun j => w.cell? ⟨loc.b, loc.o + off + j, none⟩) old fun j v hj => by
        obtain ⟨x, hx, rx⟩ := read_cell (w := w) rel hm (off := off + j) (v := v) (hold.2 j v hj)
        rw [← Nat.add_assoc] at hx
        exact ⟨x, hx, rx⟩
      have hl : xs.length = len * esz := by rw [← p.length, hold.1]
      refine ⟨xs, p, hl, fun w' hw => ?_⟩
      have := run_loadCells_list (P := P) w' ⟨loc.b, loc.o + off, none⟩ xs fun j v hj => by
        rw [add_cell]
        have := q j v hj
        unfold World.cell? at this ⊢
        rw [hw]
        exact this
      rw [hl, ← had (by omega)] at this
      simp [Builtin.firstCells, this]
  by_cases hin : len + n ≤ cc
  · -- in place
    have hexf : ex = false := by
      cases ex with
      | false => rfl
      | true => have := hex rfl; omega
    subst hexf
    unfold growA at hg
    simp only at hg
    split at hg
    · rename_i sz st hrw
      cases hg
      have hcc0 : cc ≠ 0 := by omega
      have ead := had hcc0
      subst ead
      have hnd : h.get id ≠ .dead := fun e => by rw [e] at hrw; cases hrw
      obtain ⟨c, E', fr, e1, e2, e3, e4, e5, e6⟩ := (rel.obj id loc _ hm (AH.get_live hnd)).row hrw
      have hlenm : (len + n) * esz ≤ cc * esz := Nat.mul_le_mul_right _ hin
      have hsplit : (len + n) * esz = len * esz + n * esz := Nat.add_mul _ _ _
      have hvl : vs.length = n * esz := by rw [← hnew.length, hln]
      obtain ⟨w', c', s1, s2, s3, s4, s5, s6, s7⟩ := store_raw (P := P) vs (loc.o + off + len * esz) 0 c E' fr w e1 e5 (scals_one hnew hsc) (by rw [hvl]; omega)
      have happ := app_in a rt hin (w' := w') (ad := ⟨loc.b, loc.o + off, none⟩) (by rw [add_eq]; exact s1)
      have hn := rel.topμ h.next (Nat.le_refl _)
      have hext : Ext μ (μ.upd h.next ⟨loc.b, loc.o + off, loc.room - off⟩) := Map.upd_ext _ _ hn
      have ra := (hxs.append hnew)
      have hla : (old ++ new).length = (len + n) * esz := by rw [List.length_append, hold.1, hln, hsplit]
      have hrr : RowRel σ (μ.upd h.next ⟨loc.b, loc.o + off, loc.room - off⟩) (o st).cell ((len + n) * esz) st ⟨loc.b, loc.o + off, loc.room - off⟩ w'.heap[loc.b]? := by
        refine ⟨c', E', fr, s5, by rw [s6]; simp only; omega, by simp only; omega, e4, by rw [s6]; exact e5, fun i hi => ?_⟩
        have hgi : (old ++ new)[i]? = some ((old ++ new)[i]'(by rw [hla]; exact hi)) := List.getElem?_eq_getElem _
        obtain ⟨x, hx, rx⟩ := ra.get i _ hgi
        refine ⟨_, x, by rw [hcell st i hi, hgi], ?_, VRel.ext hext _ _ rx⟩
        simp only
        rw [s7]
        by_cases h1 : len * esz ≤ i
        · rw [if_pos (by rw [hvl]; omega), show loc.o + off + i - (loc.o + off + len * esz + 0) = i - len * esz by omega]
          rw [List.getElem?_append_right (by rw [hxl]; exact h1), hxl] at hx
          exact hx
        · rw [if_neg (by omega)]
          have hi' : i < old.length := by rw [hold.1]; omega
          rw [List.getElem?_append_left (by rw [hxl]; omega)] at hx
          have hoi : old[i]? = some old[i] := List.getElem?_eq_getElem hi'
          have hhx := hload w rfl
          have hpos : len ≠ 0 := fun e => by rw [e] at h1; simp at h1
          -- the model's cell at that place
          obtain ⟨y, hy, ry⟩ := read_cell (w := w) rel hm (off := off + i) (v := old[i]) (hold.2 i _ hoi)
          rw [cell?_eq, e1] at hy
          simp only at hy
          have hfc : (Builtin.firstCells esz len (.slice (some ⟨loc.b, loc.o + off, none⟩) len cc)).run P w = (loadCells ⟨loc.b, loc.o + off, none⟩ (len * esz)).run P w := by simp [Builtin.firstCells]
          rw [hfc, run_loadCells w ⟨loc.b, loc.o + off, none⟩ (len * esz) (fun k => (w.cell? ⟨loc.b, loc.o + off + k, none⟩).getD undef) (fun k hk => by
            rw [add_cell]
            have hk' : k < old.length := by rw [hold.1]; exact hk
            obtain ⟨x2, hx2, _⟩ := read_cell (w := w) rel hm (off := off + k) (v := old[k]) (hold.2 k _ (List.getElem?_eq_getElem hk'))
            rw [← Nat.add_assoc] at hx2
            rw [hx2]; rfl)] at hhx
          have e7 : (List.range (len * esz)).map (fun k => (w.cell? ⟨loc.b, loc.o + off + k, none⟩).getD undef) = xs := by
            injection hhx with h7
            have := congrArg Array.toList h7
            simpa using this
          rw [← e7, List.getElem?_map, List.getElem?_range (by omega)] at hx
          simp only [Option.map_some, cell?_eq, e1] at hx
          rw [show loc.o + off + i = loc.o + (off + i) by omega] at hx ⊢
          rw [hy] at hx ⊢
          exact hx
      refine ⟨_, w', _, happ, s2, rel.regrow (off := off) (o' := o st) hm (row_live hrw) s3 s4 (ORel.of_row (hrow st) hrr), ?_⟩
      refine ⟨_, _, _, Map.upd_at _ _ _, rfl, Nat.le_refl _, hin, (fun e => by cases e), fun _ => rfl, ?_⟩
      simp only
      omega
    · cases hg
  · -- a new row
    obtain ⟨z, hz0⟩ := hzx
    obtain ⟨c, rest, w', g1, g2, g3, g4, g5⟩ := app_grow a rt hin (by omega) hroom (old := xs) hload
    have hrl := g5 z hz0
    rw [hz z hz0] at hrl
    have hvl : vs.length = n * esz := by rw [← hnew.length, hln]
    have hsplit : (len + n) * esz = len * esz + n * esz := Nat.add_mul _ _ _
    have hcs : c * esz = (len + n) * esz + (c - (len + n)) * esz := by rw [← Nat.add_mul]; congr 1; omega
    have htot : (xs ++ vs ++ rest).length = c * esz := by
      simp only [List.length_append, hxl, hvl, hrl]
      omega
    -- the new row's relation, at whatever flag
    have hnewrow : ∀ (μ' : Map) (st : Bool), Ext μ μ' → ORel σ μ' (o st) ⟨w.heap.size, 0, c * esz⟩ (some (.cells (xs ++ vs ++ rest).toArray e)) := by
      intro μ' st hext
      refine ORel.of_row (hrow st) ?_
      rw [hsplit]
      exact row_grown (VsRel.ext hext _ _ hxs) (VsRel.ext hext _ _ hnew) hold.1 hln (fun i hi => hcell st i (by rw [hsplit]; exact hi)) rfl (by simp only [htot])
    have hnew2 : ∀ (hh : AH) (st : Bool), hh.next = h.next → Moves σ μ h w.heap μ hh w.heap → Moves σ μ h w.heap (μ.upd h.next ⟨w.heap.size, 0, c * esz⟩) (hh.new (o st)) w'.heap := by
      intro hh st hnx m
      have hn := rel.topμ h.next (Nat.le_refl _)
      have := m.rel.new (x := .cells (xs ++ vs ++ rest).toArray e) (o := o st) (room := c * esz) (by rw [hnx]; exact hnewrow _ st (Map.upd_ext _ _ hn))
      rw [← g2, hnx] at this
      exact m.trans this
    have hv : VRel σ (μ.upd h.next ⟨w.heap.size, 0, c * esz⟩) (.slice h.next 0 (len + n) (len + n) esz false) (.slice (some ⟨w.heap.size, 0, none⟩) (len + n) c) :=
      ⟨_, _, _, Map.upd_at _ _ _, rfl, Nat.le_refl _, g4, (fun e => by cases e), fun _ => by simp, by simp⟩
    unfold growA at hg
    cases ex with
    | true =>
      cases hg
      exact ⟨_, w', _, g1, g3, hnew2 h false rfl (Moves.refl rel), hv⟩
    | false =>
      simp only at hg
      split at hg
      · rename_i sz st hrw
        cases hg
        exact ⟨_, w', _, g1, g3, hnew2 (h.put id .dead) st rfl (rel.kill hm (row_live hrw)), hv⟩
      · cases hg
end
end Go.Ev
