/-
  append, copy, clear; all operations that do something to memory.
-/
import Derived.Test.YtkdjcmpgnkecfaaGreatDoorE14
noncomputable section
namespace Go.Ev
set_option linter.unusedVariables false
set_option linter.unusedSimpArgs false

section
variable {P : Program} {E : Env} {σ : Nat → Int} {μ : Map} {h : AH} {w : World} {r : Regs} {tmps : Array Value}

/-- a block goes on under a new number, from some place on -/
theorem HRel.regrow (rel : HRel σ μ h w.heap) {id off : Nat} {loc : Loc} {o' : AObj} {H' : Array Obj} (hm : μ id = some loc) (hl : (h.get id).live = true) (hs : H'.size = w.heap.size)
    (hf : ∀ b, b ≠ loc.b → H'[b]? = w.heap[b]?) (hr : ORel σ (μ.upd h.next ⟨loc.b, loc.o + off, loc.room - off⟩) o' ⟨loc.b, loc.o + off, loc.room - off⟩ H'[loc.b]?) :
    Moves σ μ h w.heap (μ.upd h.next ⟨loc.b, loc.o + off, loc.room - off⟩) ((h.put id .dead).new o') H' := by
  have hnd : h.get id ≠ .dead := fun e => by rw [e] at hl; cases hl
  have ho := AH.get_live hnd
  have hn := rel.topμ h.next (Nat.le_refl _)
  have hne : id ≠ h.next := fun e => by rw [e, hn] at hm; cases hm
  have hidlt : id < h.next := by
    apply Classical.byContradiction
    intro hge
    have := rel.topμ id (by omega)
    rw [this] at hm; cases hm
  have tr : ∀ j, ((h.put id .dead).new o').tr.get j = if j = h.next then some o' else if j = id then some .dead else h.tr.get j := fun j => by
    rw [tr_new, tr_put]; rfl
  have live : h.wr id := fun x hx => by rw [ho] at hx; cases hx; exact hl
  exact
    { ext := Map.upd_ext _ _ hn
      next := by simp [AH.new, AH.put]
      keptμ := fun j hj hx => by rw [Map.upd_other _ _ (by omega)]; exact hx
      kept := fun j hj hx => by
        have : j ≠ id := fun e => by
          rcases hx with hx | hx
          · rw [e, hm] at hx; cases hx
          · rw [e, ho] at hx; cases hx
        rw [tr, if_neg (by omega), if_neg this]
      size := Nat.le_of_eq hs.symm
      own := fun b hb ⟨j, l, q, hj, hq, hd, hlb⟩ => by
        by_cases e : j = h.next
        · rw [e, Map.upd_at] at hj
          cases hj
          exact ⟨id, loc, _, hm, ho, hl, hlb⟩
        · rw [Map.upd_other _ _ e] at hj
          rw [tr, if_neg e] at hq
          by_cases e2 : j = id
          · rw [if_pos e2] at hq; cases hq; cases hd
          · rw [if_neg e2] at hq; exact ⟨j, l, q, hj, hq, hd, hlb⟩
      frame := fun b hb hn' => hf b fun e => hn' ⟨id, loc, _, hm, ho, hl, e.symm⟩
      rel :=
        { obj := fun j l q hj hq => by
            rw [tr] at hq
            by_cases e : j = h.next
            · rw [if_pos e] at hq
              cases hq
              rw [e, Map.upd_at] at hj
              cases hj
              exact hr
            · rw [if_neg e] at hq
              rw [Map.upd_other _ _ e] at hj
              by_cases e2 : j = id
              · rw [if_pos e2] at hq; cases hq; trivial
              · rw [if_neg e2] at hq
                by_cases hd : q = .dead
                · rw [hd]; trivial
                · have hb : l.b ≠ loc.b := fun hb => e2 (rel.inj id j loc l hm hj hb.symm live (by rw [hq]; simpa using hd)).symm
                  rw [hf _ hb]
                  exact (rel.obj j l q hj hq).ext (Map.upd_ext _ _ hn)
          inj := fun i j l l' hi hj hb hwi hdj => by
            rw [tr] at hdj
            by_cases ei : i = h.next
            · by_cases ej : j = h.next
              · rw [ei, ej]
              · rw [ei, Map.upd_at] at hi
                cases hi
                rw [Map.upd_other _ _ ej] at hj
                rw [if_neg ej] at hdj
                by_cases e2 : j = id
                · rw [if_pos e2] at hdj; exact absurd rfl hdj
                · rw [if_neg e2] at hdj
                  exact absurd (rel.inj id j loc l' hm hj hb live hdj).symm e2
            · rw [Map.upd_other _ _ ei] at hi
              have hwi' : i ≠ id → h.wr i := fun e2 x hx => hwi x (by rw [tr, if_neg ei, if_neg e2]; exact hx)
              have hid : i ≠ id := fun e2 => by
                have := hwi .dead (by rw [tr, if_neg ei, if_pos e2])
                cases this
              by_cases ej : j = h.next
              · rw [ej, Map.upd_at] at hj
                cases hj
                have := rel.inj i id l loc hi hm hb (hwi' hid) (by rw [ho]; simpa using hnd)
                exact absurd this hid
              · rw [Map.upd_other _ _ ej] at hj
                rw [if_neg ej] at hdj
                by_cases e2 : j = id
                · rw [if_pos e2] at hdj; exact absurd rfl hdj
                · rw [if_neg e2] at hdj
                  exact rel.inj i j l l' hi hj hb (hwi' hid) hdj
          lt := fun j l hj => by
            rw [hs]
            by_cases e : j = h.next
            · rw [e, Map.upd_at] at hj
              cases hj
              exact rel.lt id loc hm
            · rw [Map.upd_other _ _ e] at hj
              exact rel.lt j l hj
          topμ := fun j hj => by
            simp only [AH.new, AH.put] at hj
            rw [Map.upd_other _ _ (by omega)]
            exact rel.topμ j (by omega)
          toph := fun j hj => by
            simp only [AH.new, AH.put] at hj
            rw [tr, if_neg (by omega), if_neg (by omega)]
            exact rel.toph j (by omega) } }

/-- a block dies -/
theorem HRel.kill (rel : HRel σ μ h w.heap) {id : Nat} {loc : Loc} (hm : μ id = some loc) (hl : (h.get id).live = true) : Moves σ μ h w.heap μ (h.put id .dead) w.heap := by
  have hnd : h.get id ≠ .dead := fun e => by rw [e] at hl; cases hl
  exact rel.put hm (AH.get_live hnd) hl rfl (fun _ _ => rfl) trivial

theorem row_live {o : AObj} {x : Nat × Bool} (hr : o.row = some x) : o.live = true := by
  cases o <;> first | rfl | cases hr

theorem growBy_le (need : Nat) : ∀ (rounds c : Nat), c ≤ 2 * need + 200 → Builtin.growBy need rounds c ≤ 2 * need + 200
  | 0, c, hc => hc
  | rounds + 1, c, hc => by
    simp only [Builtin.growBy]
    by_cases h1 : c ≥ need
    · rw [if_pos h1]; exact hc
    · rw [if_neg h1]
      exact growBy_le need rounds _ (by omega)

theorem nextcap_le (need cap : Nat) (hc : cap ≤ need) : Builtin.nextslicecap need cap ≤ 2 * need + 200 := by
  unfold Builtin.nextslicecap
  split
  · omega
  · split
    · omega
    · exact growBy_le need 4 cap (by omega)

/-- what append is told, and what it does -/
structure App (P : Program) (w : World) (argTypes : Array TypeId) (elem : TypeId) (size bytes : Nat) (x : Value) (n : Nat) (new : List Value) : Prop where
  st : ∃ t u d, argTypes[0]? = some t ∧ argTypes[1]? = some u ∧ (∀ w, (underlying t).run P w = .ok (.slice elem) w) ∧ (∀ w, (underlying u).run P w = .ok d w) ∧ (match d with | .slice _ | .string => true | _ => false) = true
  hsize : ∀ w, (sizeOf elem).run P w = .ok size w
  hinfo : ∃ inf z, (∀ w, (typeInfo elem).run P w = .ok inf w) ∧ inf.bytes = bytes ∧ (∀ w, (zeroValue elem).run P w = .ok z w)
  hlen : ∀ w, (Builtin.lenOf x).run P w = .ok n w
  hcells : ∀ w', w'.heap = w.heap → (Builtin.firstCells size n x).run P w' = .ok new.toArray w'

theorem app_in {argTypes : Array TypeId} {elem : TypeId} {size bytes : Nat} {x : Value} {n : Nat} {new : List Value} (a : App P w argTypes elem size bytes x n new) (rt : TypeId) {ad : Addr} {len cap : Nat}
    (hc : len + n ≤ cap) {w' : World} (hs : (storeCells (ad.add (len * size)) new).run P w = .ok () w') :
    (Builtin.append_ argTypes rt #[.slice (some ad) len cap, x]).run P w = .ok (.slice (some ad) (len + n) cap) w' := by
  obtain ⟨t, u, d, h1, h2, h3, h4, h5⟩ := a.st
  have hcells := a.hcells w rfl
  cases d <;> first | cases h5 | skip
  all_goals simp [Builtin.append_, h1, h2, h3, h4, a.hsize, a.hlen, hc, hcells, hs]

theorem app_nil_in {argTypes : Array TypeId} {elem : TypeId} {size bytes : Nat} {x : Value} {new : List Value} (a : App P w argTypes elem size bytes x 0 new) (rt : TypeId) (hn : new = []) (u : Value) (hu : u = .slice none 0 0 ∨ ∃ ad len cap, u = .slice (some ad) len cap ∧ len ≤ cap) :
    (Builtin.append_ argTypes rt #[u, x]).run P w = .ok u w := by
  obtain ⟨t, u', d, h1, h2, h3, h4, h5⟩ := a.st
  have hcells := a.hcells w rfl
  subst hn
  rcases hu with rfl | ⟨ad, len, cap, rfl, hle⟩
  · cases d <;> first | cases h5 | skip
    all_goals simp [Builtin.append_, h1, h2, h3, h4, a.hsize, a.hlen, hcells]
  · cases d <;> first | cases h5 | skip
    all_goals simp [Builtin.append_, h1, h2, h3, h4, a.hsize, a.hlen, hcells, hle, storeCells]

theorem app_grow {argTypes : Array TypeId} {elem : TypeId} {size bytes : Nat} {x : Value} {n : Nat} {new : List Value} (a : App P w argTypes elem size bytes x n new) (rt : TypeId) {base : Option Addr} {len cap : Nat} {old : List Value}
    (hc : ¬ len + n ≤ cap) (hle : len ≤ cap) (hroom : roomy (len + n) bytes = true) (hold : ∀ w', w'.heap = w.heap → (Builtin.firstCells size len (.slice base len cap)).run P w' = .ok old.toArray w') :
    ∃ c rest w', (Builtin.append_ argTypes rt #[.slice base len cap, x]).run P w = .ok (.slice (some ⟨w.heap.size, 0, none⟩) (len + n) c) w' ∧ w'.heap = w.heap.push (.cells (old ++ new ++ rest).toArray elem) ∧ Same3 w w' ∧
      len + n ≤ c ∧ ∀ z, (zeroValue elem).run P w = .ok z w → rest.length = (c - (len + n)) * z.cells.size := by
  obtain ⟨t, u, d, h1, h2, h3, h4, h5⟩ := a.st
  obtain ⟨inf, z, hinf, hb, hz⟩ := a.hinfo
  have hr := and_true2 hroom
  have r1 := ble_true.1 hr.1
  have r2 := ble_true.1 hr.2
  have hcap := nextcap_le (len + n) cap (by omega)
  have hbound : ¬ (Builtin.nextslicecap (len + n) cap * inf.bytes > 2 ^ 48) := by
    rw [hb]
    have := Nat.mul_le_mul_right bytes hcap
    omega
  have hneed : len + n ≤ 140737488355328 := by
    have : (2 * (len + n) + 200) * 1 ≤ (2 * (len + n) + 200) * bytes := Nat.mul_le_mul_left _ r2
    omega
  have hmax : ¬ ((((len + n : Nat) : Int) > IntKind.i64.max) ∧ (False ∨ inf.bytes = 0)) := by
    rintro ⟨_, hx | hx⟩
    · exact hx
    · omega
  generalize hq : (Question.appendCap (len + n) cap elem).cut (w.tape w.drawn (.appendCap (len + n) cap elem)) = c
  have hcn : len + n ≤ c := by rw [← hq]; simp only [Question.cut]; omega
  let w1 : World := { w with drawn := w.drawn + 1 }
  have hcells := a.hcells w1 rfl
  have hold' := hold w1 rfl
  refine ⟨c, (Builtin.zeroCells z.cells (c - (len + n))).toList, { w1 with heap := w.heap.push (.cells (old ++ new ++ (Builtin.zeroCells z.cells (c - (len + n))).toList).toArray elem) }, ?_, rfl, ⟨rfl, rfl, rfl⟩, hcn, ?_⟩
  · have hchoose : (choose (.appendCap (len + n) cap elem)).run P w = .ok c w1 := by
      simp [run_choose, Question.forced, hq, w1]
    have hzero : (∀ w, (zeroValue elem).run P w = .ok z w) := hz
    have hm2 : ¬ (IntKind.i64.max < (len : Int) + (n : Int) ∧ inf.bytes = 0) := fun h => by have := h.2; omega
    have hb2 : ¬ (2 ^ 48 < Builtin.nextslicecap (len + n) cap * inf.bytes) := hbound
    cases d <;> first | cases h5 | skip
    all_goals have hm3 : ¬ ((9223372036854775807 : Int) < (len : Int) + (n : Int) ∧ inf.bytes = 0) := fun h => by have := h.2; omega
    all_goals have hfo : (Question.appendCap (len + n) cap elem).forced = false := rfl
    all_goals have hcells2 : (Builtin.firstCells size n x).run P w.drew = .ok new.toArray w.drew := hcells
    all_goals have hold2 : (Builtin.firstCells size len (.slice base len cap)).run P w.drew = .ok old.toArray w.drew := hold'
    all_goals simp [Builtin.append_, h1, h2, h3, h4, a.hsize, a.hlen, hc, hinf, hm3, hb2, hfo, hq, hcells2, hold2, hz, newRow]
    all_goals rw [show old.toArray ++ (new.toArray ++ Builtin.zeroCells z.cells (c - (len + n))) = (old ++ (new ++ (Builtin.zeroCells z.cells (c - (len + n))).toList)).toArray by apply Array.toList_inj.1; simp]
    all_goals rfl
  · intro z' hz'
    rw [hz] at hz'
    cases hz'
    simp [Builtin.zeroCells]

theorem lenA_rel {x : AV} {u : Value} {n : Nat} (hl : lenA x = some n) (hu : VRel σ μ x u) (w : World) : (Builtin.lenOf u).run P w = .ok n w := by
  cases x <;> simp only [lenA] at hl <;> first | (cases hl; done) | skip
  · rename_i l m
    cases hl
    obtain ⟨_, e⟩ := hu
    subst e
    have hsz : (⟨(bytesOf n m).toArray⟩ : ByteArray).size = n := by show (bytesOf n m).toArray.size = n; simp [bytesOf_length]
    simp only [Builtin.lenOf, Sem.run_pure, hsz]
  · cases hl
    have e : u = _ := hu
    subst e
    simp [Builtin.lenOf]
  · cases hl
    obtain ⟨loc, a, c, _, e, _⟩ := hu
    subst e
    simp [Builtin.lenOf]

/-- the cells of a piece of a row -/
theorem first_bytes (rel : HRel σ μ h w.heap) {x : AV} {u : Value} {n m : Nat} {l : Nat} (hl : lenA x = some l) (hn : n ≤ l) (hb : bytesOfA h x n = some m) (hu : VRel σ μ x u) (hpos : 0 < n) (w' : World) (hw : w'.heap = w.heap) :
    m < 2 ^ (8 * n) ∧ (Builtin.firstCells 1 n u).run P w' = .ok (bvals n m).toArray w' := by
  cases x <;> simp only [bytesOfA] at hb <;> first | (cases hb; done) | skip
  · rename_i l' q
    cases hb
    obtain ⟨hlt, e⟩ := hu
    subst e
    simp only [lenA] at hl
    cases hl
    refine ⟨Nat.mod_lt _ (pow_pos2 _), ?_⟩
    simp only [Builtin.firstCells, Sem.run_pure]
    congr 1
    apply Array.toList_inj.1
    apply List.ext_getElem?
    intro i
    simp only [bvals_get]
    by_cases hi : i < n
    · rw [if_pos hi, byteAt_mod _ _ _ hi]
      have hg : (bytesOf l q)[i]? = some (UInt8.ofNat (byteAt q i)) := by rw [bytesOf_get, if_pos (by omega)]
      have hb := byteAt_lt q i
      simp [ByteArray.data_extract, List.extract_toArray, List.extract_eq_take_drop, List.getElem?_take, hi, hg]
      omega
    · rw [if_neg hi]
      simp [ByteArray.data_extract, List.extract_toArray, List.extract_eq_take_drop, List.getElem?_take, hi]
  · rename_i id off len cap esz ex
    obtain ⟨loc, a, c, hm, e, hlc, hcc, _, ha, _⟩ := hu
    subst e
    simp only [lenA] at hl
    cases hl
    have rel' : HRel σ μ h w'.heap := by rw [hw]; exact rel
    obtain ⟨h1, h2⟩ := read_nat (P := P) (w := w') rel' hm hb
    rw [← ha (by omega)] at h2
    exact ⟨h1, by simp [Builtin.firstCells, h2]⟩

theorem first_cells (rel : HRel σ μ h w.heap) {id off len cap esz : Nat} {ex : Bool} {u : Value} {n : Nat} {l : List AV} (hn : n ≤ len) (hb : readCells h id off (n * esz) = some l) (hu : VRel σ μ (.slice id off len cap esz ex) u) (hpos : 0 < n) :
    ∃ xs, VsRel σ μ l xs ∧ ∀ w', w'.heap = w.heap → (Builtin.firstCells esz n u).run P w' = .ok xs.toArray w' := by
  obtain ⟨loc, a, c, hm, e, hlc, hcc, _, ha, _⟩ := hu
  subst e
  obtain ⟨xs, h1, h2, h3⟩ := read_cells (P := P) (w := w) rel hm hb
  refine ⟨xs, h1, fun w' hw => ?_⟩
  have rel' : HRel σ μ h w'.heap := by rw [hw]; exact rel
  obtain ⟨hr1, hr2⟩ := AObj.read_spec _ _ _ hb
  have : (loadCells ⟨loc.b, loc.o + off, none⟩ (n * esz)).run P w' = .ok xs.toArray w' := by
    have hl := run_loadCells_list (P := P) w' ⟨loc.b, loc.o + off, none⟩ xs fun j v hj => by
      have hj' : j < xs.length := by
        apply Classical.byContradiction
        intro hge
        rw [List.getElem?_eq_none (by omega)] at hj
        cases hj
      have hz : w.cell? (Addr.add ⟨loc.b, loc.o + off, none⟩ j) = some v := by
        rw [add_cell]
        obtain ⟨v', hv'⟩ : ∃ v', l[j]? = some v' := ⟨l[j]'(by rw [hr1, ← h2]; exact hj'), List.getElem?_eq_getElem _⟩
        obtain ⟨x, hx, _⟩ := read_cell (w := w) rel hm (hr2 j v' hv')
        rw [← Nat.add_assoc] at hx
        have h3' := h3
        have hcell : w.cell? ⟨loc.b, loc.o + off + j, none⟩ = some x := hx
        rw [run_loadCells w ⟨loc.b, loc.o + off, none⟩ (n * esz) (fun i => (w.cell? ⟨loc.b, loc.o + off + i, none⟩).getD undef) (fun i hi => by
          rw [add_cell]
          obtain ⟨v2, hv2⟩ : ∃ v2, l[i]? = some v2 := ⟨l[i]'(by rw [hr1]; exact hi), List.getElem?_eq_getElem _⟩
          obtain ⟨x2, hx2, _⟩ := read_cell (w := w) rel hm (hr2 i v2 hv2)
          rw [← Nat.add_assoc] at hx2
          rw [hx2]; rfl)] at h3'
        have e1 : ((List.range (n * esz)).map (fun i => (w.cell? ⟨loc.b, loc.o + off + i, none⟩).getD undef)).toArray = xs.toArray := by
          injection h3'
        have e2 : (List.range (n * esz)).map (fun i => (w.cell? ⟨loc.b, loc.o + off + i, none⟩).getD undef) = xs := by
          have := congrArg Array.toList e1
          simpa using this
        rw [← e2, List.getElem?_map, List.getElem?_range (by rw [← h2]; exact hj')] at hj
        simp only [Option.map_some, hcell, Option.getD_some] at hj
        rw [hcell, hj]
      unfold World.cell? at hz ⊢
      rw [hw]
      exact hz
    rwa [h2] at hl
  rw [← ha (by omega)] at this
  simp [Builtin.firstCells, this]

/-- the cells of an extended row -/
theorem row_grown {cellNew : Nat → Option AV} {lenc nc : Nat} {old new : List AV} {us vs : List Value} (ro : VsRel σ μ old us) (rn : VsRel σ μ new vs) (hlo : old.length = lenc) (hln : new.length = nc)
    (hc : ∀ i, i < lenc + nc → cellNew i = (old ++ new)[i]?) {st : Bool} {loc : Loc} {rest : List Value} {E' : TypeId} (ho : loc.o = 0) (hroom : loc.room = (us ++ vs ++ rest).length) :
    RowRel σ μ cellNew (lenc + nc) st loc (some (.cells (us ++ vs ++ rest).toArray E')) := by
  have ra := ro.append rn
  have hla : (old ++ new).length = lenc + nc := by rw [List.length_append, hlo, hln]
  refine ⟨_, E', (0, 0), rfl, by simp [ho, hroom], by rw [hroom, List.length_append, ← ra.length, hla]; omega, fun _ => rfl, free00 _, fun i hi => ?_⟩
  have hg : (old ++ new)[i]? = some ((old ++ new)[i]'(by rw [hla]; exact hi)) := List.getElem?_eq_getElem _
  obtain ⟨x, hx, rx⟩ := ra.get i _ hg
  refine ⟨_, x, by rw [hc i hi, hg], ?_, rx⟩
  rw [ho, Nat.zero_add]
  simp only [List.getElem?_toArray]
  rw [List.getElem?_append_left (by rw [← ra.length, hla]; exact hi)]
  exact hx

/-- storing many cells into a row of which all cells are free -/
theorem store_raw {b : Nat} : ∀ (xs : List Value) (o i : Nat) (c : Array Value) (E' : TypeId) (fr : Nat × Nat) (w : World), w.heap[b]? = some (.cells c E' fr) → (∀ j, j < c.size → ¬ (fr.1 ≤ j ∧ j < fr.2)) →
    (∀ x, x ∈ xs → x.oneCell' = true) → o + i + xs.length ≤ c.size →
    ∃ w' c', (storeCells ⟨b, o, none⟩ xs i).run P w = .ok () w' ∧ Same3 w w' ∧ w'.heap.size = w.heap.size ∧ (∀ j, j ≠ b → w'.heap[j]? = w.heap[j]?) ∧ w'.heap[b]? = some (.cells c' E' fr) ∧ c'.size = c.size ∧
      (∀ j, c'[j]? = if o + i ≤ j ∧ j < o + i + xs.length then xs[j - (o + i)]? else c[j]?)
  | [], o, i, c, E', fr, w, hw, hfr, h1, hle => ⟨w, c, by simp [storeCells], Same3.refl _, rfl, fun _ _ => rfl, hw, rfl, fun j => by rw [if_neg (by simp only [List.length_nil]; omega)]⟩
  | x :: xs, o, i, c, E', fr, w, hw, hfr, h1, hle => by
    have hlt : o + i < c.size := by simp at hle; omega
    have hw1 : (w.setCell ⟨b, o + i, none⟩ x).heap[b]? = some (.cells (c.setIfInBounds (o + i) x) E' fr) := by rw [setCell_heap, if_pos rfl, hw]; rfl
    obtain ⟨w', c', a1, a2, a3, a4, a5, a6, a7⟩ := store_raw xs o (i + 1) (c.setIfInBounds (o + i) x) E' fr (w.setCell ⟨b, o + i, none⟩ x) hw1 (by simpa using hfr) (fun y hy => h1 y (List.mem_cons_of_mem _ hy)) (by simp at hle ⊢; omega)
    refine ⟨w', c', ?_, (Same3.setCell _ _ _).trans a2, by rw [a3, setCell_size], fun j hj => by rw [a4 j hj, setCell_heap, if_neg (Ne.symm hj)], a5, by rw [a6]; simp, fun j => ?_⟩
    · have hcell : w.cell? ⟨b, o + i, none⟩ = some c[o + i] := by rw [cell?_eq, hw]; simp [hlt]
      have hfz : w.frozen? ⟨b, o + i, none⟩ = false := by
        rw [frozen?_eq, hw]
        have := hfr (o + i) hlt
        simp only [Bool.and_eq_false_iff, decide_eq_false_iff_not]
        omega
      simp only [storeCells, add_eq, Sem.run_bind, run_store P w _ x .plain (h1 x List.mem_cons_self), hcell, hfz, Bool.false_eq_true, if_false, Result.andThen_ok]
      exact a1
    · rw [a7]
      by_cases h2 : o + (i + 1) ≤ j ∧ j < o + (i + 1) + xs.length
      · rw [if_pos h2, if_pos (by simp only [List.length_cons]; omega)]
        obtain ⟨m, hm⟩ : ∃ m, j - (o + i) = m + 1 := ⟨j - (o + i) - 1, by omega⟩
        rw [hm, show j - (o + (i + 1)) = m by omega, List.getElem?_cons_succ]
      · rw [if_neg h2]
        by_cases h3 : j = o + i
        · subst h3
          rw [if_pos (by simp only [List.length_cons]; omega), Nat.sub_self, Array.getElem?_setIfInBounds_self, if_pos hlt]
          rfl
        · rw [if_neg (by simp only [List.length_cons]; omega), Array.getElem?_setIfInBounds_ne (Ne.symm h3)]
end
end Go.Ev
