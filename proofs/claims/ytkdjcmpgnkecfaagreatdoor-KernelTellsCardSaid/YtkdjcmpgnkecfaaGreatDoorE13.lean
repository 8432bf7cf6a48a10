/-
  The operations that make memory.
-/
import Derived.Test.YtkdjcmpgnkecfaaGreatDoorE12
noncomputable section
namespace Go.Ev
set_option linter.unusedVariables false
set_option linter.unusedSimpArgs false

section
variable {P : Program} {E : Env} {σ : Nat → Int} {μ : Map} {h : AH} {w : World} {r : Regs} {tmps : Array Value}

theorem bytesOfCells_get : ∀ (cs : List AV) (n : Nat), bytesOfCells cs = some n → ∀ i, i < cs.length → cs[i]? = some (.int .u8 (.ofNat (byteAt n i)))
  | [], _, _, i, hi => by simp at hi
  | c :: cs, n, he, i, hi => by
    unfold bytesOfCells at he
    split at he
    · rename_i heq; cases heq
    · rename_i b cs' heq
      cases heq
      split at he
      · rename_i m hm
        replace he := bif_some he; obtain ⟨hb, he⟩ := he
        cases he
        have hb' := blt_true.1 hb
        cases i with
        | zero => simp [byteAt_eq]; omega
        | succ i =>
          have := bytesOfCells_get cs m hm i (by simpa using hi)
          have e8 : (2 : Nat) ^ (8 * 1) = 256 := by decide
          have e : (b + 256 * m) / 2 ^ (8 * (i + 1)) = m / 2 ^ (8 * i) := by
            rw [Nat.mul_add, Nat.add_comm (8 * i), Nat.pow_add, ← Nat.div_div_eq_div_mul, e8]
            congr 1
            omega
          rw [List.getElem?_cons_succ, this, byteAt_eq, byteAt_eq, e]
      · cases he
    · cases he

theorem free00 (n : Nat) : ∀ i, i < n → ¬ (((0, 0) : Nat × Nat).1 ≤ i ∧ i < ((0, 0) : Nat × Nat).2) := fun i _ h => by simp at h

theorem cells_row {cs : List AV} {xs : Array Value} {E' : TypeId} {loc : Loc} (ho : loc.o = 0) (hl : loc.room = xs.size) (hr : VsRel σ μ cs xs.toList) {cell : Nat → Option AV}
    (hc : ∀ i, i < cs.length → cell i = cs[i]?) : RowRel σ μ cell cs.length false loc (some (.cells xs E')) := by
  refine ⟨xs, E', (0, 0), rfl, by omega, by rw [hl, hr.length, Array.length_toList]; exact Nat.le_refl _, fun _ => rfl, free00 _, fun i hi => ?_⟩
  have hg : cs[i]? = some cs[i] := List.getElem?_eq_getElem hi
  obtain ⟨x, hx, rx⟩ := hr.get i _ hg
  exact ⟨cs[i], x, by rw [hc i hi, hg], by rw [ho, Nat.zero_add]; simpa using hx, rx⟩

theorem mkCells_rel {d : TypeDesc} {cs : List AV} {xs : Array Value} {E' : TypeId} {loc : Loc} (ho : loc.o = 0) (hl : loc.room = xs.size) (hr : VsRel σ μ cs xs.toList) : ORel σ μ (mkCells d cs) loc (some (.cells xs E')) := by
  unfold mkCells
  split
  · rename_i n h1 h2
    refine cells_row ho hl hr fun i hi => ?_
    simp only [AObj.cell, blt_true.2 hi, cond_true]
    rw [bytesOfCells_get cs n h2 i hi]
  · refine cells_row ho hl hr fun i hi => ?_
    simp only [AObj.cell, blt_true.2 hi, cond_true, Tr.get_ofList, List.getElem?_eq_getElem hi]

theorem repl_get (l : List AV) : ∀ (n k : Nat), l ≠ [] → (repl n l)[k]? = if k < n * l.length then l[k % l.length]? else none
  | 0, k, _ => by simp [repl]
  | n + 1, k, hl => by
    have hpos : 0 < l.length := List.length_pos_iff.2 hl
    simp only [repl]
    by_cases hk : k < l.length
    · rw [List.getElem?_append_left hk, if_pos (by rw [Nat.add_mul]; omega), Nat.mod_eq_of_lt hk]
    · rw [List.getElem?_append_right (by omega), repl_get l n (k - l.length) hl]
      have e : (k - l.length) % l.length = k % l.length := by
        conv => rhs; rw [show k = (k - l.length) + l.length by omega, Nat.add_mod_right]
      rw [e]
      by_cases h2 : k - l.length < n * l.length
      · rw [if_pos h2, if_pos (by rw [Nat.add_mul]; omega)]
      · rw [if_neg h2, if_neg (by rw [Nat.add_mul]; omega)]

theorem repl_length (l : List AV) : ∀ n, (repl n l).length = n * l.length
  | 0 => by simp [repl]
  | n + 1 => by simp only [repl, List.length_append, repl_length l n, Nat.add_mul]; omega

/-- zeros, one behind the other -/
theorem zeros_rel {zero : List AV} {z : Array Value} (hz : VsRel σ μ zero z.toList) (n : Nat) (hne : zero ≠ []) : VsRel σ μ (repl n zero) ((Array.range (n * z.size)).map (z[· % z.size]!)).toList := by
  have hl : zero.length = z.size := by rw [hz.length, Array.length_toList]
  have hpos : 0 < z.size := by rw [← hl]; exact List.length_pos_iff.2 hne
  refine VsRel.of_get (by rw [repl_length, hl]; simp) fun i a v ha hv => ?_
  rw [repl_get _ _ _ hne] at ha
  split at ha
  · rename_i hi
    obtain ⟨x, hx, rx⟩ := hz.get _ a ha
    have hi' : i < n * z.size := by rw [← hl]; exact hi
    have hm : i % z.size < z.size := Nat.mod_lt _ hpos
    have e : v = z[i % z.size]! := by
      have : ((Array.range (n * z.size)).map (z[· % z.size]!)).toList[i]? = some (z[i % z.size]!) := by
        simp [hi']
      rw [this] at hv
      exact (Option.some.inj hv).symm
    rw [hl] at hx
    have hx' : z[i % z.size]? = some x := by simpa using hx
    rw [e, getElem!_def, hx']
    exact rx
  · cases ha

theorem fillA_length {pl : Nat → Option (Nat × Nat)} : ∀ (ps : List (Nat × AV)) (cs cs' : List AV), True → fillA pl cs ps = some cs' → cs'.length = cs.length
  | [], cs, cs', _, he => by simp only [fillA] at he; cases he; rfl
  | (i, v) :: ps, cs, cs', _, he => by
    simp only [fillA] at he
    split at he
    · cases he
    · replace he := bif_some he; obtain ⟨_, he⟩ := he
      rw [fillA_length ps _ cs' trivial he, setRange_length]

def MadeRel (P : Program) (σ : Nat → Int) (μ : Map) (tmps : Array Value) (o : Oper) (f : Nat → AV) (ob : AObj) (w : World) : Prop :=
  ∃ x obj room w', (execOp (opv tmps) o).run P w = .ok (.value x) w' ∧ w'.heap = w.heap.push obj ∧ Same3 w w' ∧
    ∀ μ' id, Ext μ μ' → μ' id = some ⟨w.heap.size, 0, room⟩ → VRel σ μ' (f id) x ∧ ORel σ μ' ob ⟨w.heap.size, 0, room⟩ (some obj)

theorem convNew_sound (ok : EnvOk P E σ) {dst : TypeId} {a : AV} {l : Nat} {ob : AObj} {u : Value} (hv : convNewA E dst a = some (l, ob)) (hu : VRel σ μ a u) (src : TypeId) (hs : ∃ d, P.underlying src = some d) :
    ∃ x obj room w', (convert src dst u).run P w = .ok x w' ∧ w'.heap = w.heap.push obj ∧ Same3 w w' ∧
    ∀ μ' id, Ext μ μ' → μ' id = some ⟨w.heap.size, 0, room⟩ → VRel σ μ' (.slice id 0 l l 1 false) x ∧ ORel σ μ' ob ⟨w.heap.size, 0, room⟩ (some obj) := by
  unfold convNewA at hv
  split at hv
  · rename_i d l' n hd
    obtain ⟨hlt, eu⟩ := hu
    subst eu
    split at hv
    · rename_i e hde
      split at hv
      · rename_i ie hie
        replace hv := bif_some hv; obtain ⟨h8, hv⟩ := hv
        cases hv
        obtain ⟨ds, hds⟩ := hs
        have he := isU8_eq h8
        have hsz : (⟨(bytesOf l n).toArray⟩ : ByteArray).size = l := by show (bytesOf l n).toArray.size = l; simp [bytesOf_length]
        generalize hc : (Question.appendCap l 0 e).cut (w.tape w.drawn (.appendCap l 0 e)) = c
        have hcl : l ≤ c := by rw [← hc]; simp only [Question.cut]; omega
        let row : Array Value := ((⟨(bytesOf l n).toArray⟩ : ByteArray).data.map fun b => Value.int .u8 b.toNat) ++ Array.replicate (c - l) (.int .u8 0)
        have hrow : row.size = c := by simp [row, bytesOf_length]; omega
        let w1 : World := { w with drawn := w.drawn + 1, heap := w.heap.push (.cells row e) }
        have hw1 : w1.heap[w.heap.size]? = some (.cells row e (0, 0)) := by simp [w1]
        refine ⟨.slice (some ⟨w.heap.size, 0, none⟩) l c, .cells row e (row.size, row.size + 1), c, { w1 with heap := w.heap.push (.cells row e (row.size, row.size + 1)) }, ?_, rfl, ⟨rfl, rfl, rfl⟩, ?_⟩
        · have hconv : (convert src dst (.string ⟨(bytesOf l n).toArray⟩)).run P w = (Conv.stringToBytes e ⟨(bytesOf l n).toArray⟩).run P w := by
            simp [convert, run_underlying hds, run_und ok hd, hde, run_und ok hie, he]
          rw [hconv]
          unfold Conv.stringToBytes
          simp only [Sem.run_bind, run_choose, Question.forced, Bool.false_eq_true, if_false, hsz, hc, Result.andThen_ok, newRow, run_newObj, Sem.run_pure, markStringish, run_shape]
          have hsh : w1.shape? w.heap.size = some (e, row.size) := by simp [World.shape?, hw1]
          have hfr : w1.freeze { block := w.heap.size, off := row.size } 1 = { w1 with heap := w.heap.push (.cells row e (row.size, row.size + 1)) } := by
            simp only [World.freeze]
            rw [if_neg (by decide)]
            congr 1
            apply Array.ext_getElem?
            intro j
            rw [Array.getElem?_modify]
            by_cases hj : w.heap.size = j
            · subst hj
              simp [w1]
            · rw [if_neg hj]
              simp only [w1]
              by_cases hlt : j < w.heap.size
              · rw [Array.getElem?_push_lt hlt, Array.getElem?_push_lt hlt]
              · rw [Array.getElem?_eq_none (by simp; omega), Array.getElem?_eq_none (by simp; omega)]
          show (Result.andThen (Sem.run P (match w1.shape? w.heap.size with | some (_, n) => freeze { block := w.heap.size, off := n } 1 | _ => pure ()) w1) _) = _
          rw [hsh]
          simp only [run_freeze, hfr, Result.andThen_ok]
        · intro μ' id hext hid
          refine ⟨⟨_, _, _, hid, rfl, Nat.le_refl _, hcl, (fun e => by cases e), fun _ => by simp, by simp⟩, ?_⟩
          refine ⟨row, e, (row.size, row.size + 1), rfl, by simp [hrow], hcl, (fun e => by cases e), fun i hi => by simp; omega, fun i hi => ?_⟩
          refine ⟨.int .u8 (.ofNat (byteAt n i)), .int .u8 (UInt8.ofNat (byteAt n i)).toNat, by simp only [AObj.cell, blt_true.2 hi, cond_true], ?_, ?_⟩
          · have hg : (bytesOf l n)[i]? = some (UInt8.ofNat (byteAt n i)) := by rw [bytesOf_get, if_pos hi]
            simp only [row, Nat.zero_add]
            rw [Array.getElem?_append_left (by simp [bytesOf_length]; exact hi)]
            simp [hg]
          · have := byteAt_lt n i
            rw [VRel]
            congr 1
            simp
            omega
      · cases hv
    · cases hv
  · cases hv

theorem new_sound (ok : EnvOk P E σ) (hg : GRel E μ) (hr : ∀ i, VRel σ μ (r.get i) (tmps.getD i undef)) {o : Oper} {f : Nat → AV} {ob : AObj} (hv : newOp E r o.op = some (f, ob)) (w : World) :
    MadeRel P σ μ tmps o f ob w := by
  obtain ⟨dst, op, ty, pos, after, guard⟩ := o
  simp only at hv
  have O := fun {x : Operand} {v : AV} (he : evalOperand E r x = some v) => opd_rel (σ := σ) hg hr he
  cases op <;> simp only [newOp] at hv <;> first | (cases hv; done) | skip
  case alloc t =>
    split at hv
    · rename_i i ht
      cases hv
      obtain ⟨z, hz, _, rz⟩ := run_zero (P := P) ok ht
      refine ⟨_, .cells z.cells t, z.cells.size, { w with heap := w.heap.push (.cells z.cells t) }, by simp [execOp, Instr.alloc, hz, newVar, newRow], rfl, ⟨rfl, rfl, rfl⟩, fun μ' id hext hid => ⟨⟨_, hid, rfl⟩, mkCells_rel rfl rfl (rz μ')⟩⟩
    · cases hv
  case box t x =>
    split at hv
    · rename_i i v ht hx
      cases hv
      have rx := O hx
      refine ⟨_, .cells (opv tmps x).cells t, (opv tmps x).cells.size, { w with heap := w.heap.push (.cells (opv tmps x).cells t) }, by simp [execOp, Instr.box, newVar, newRow], rfl, ⟨rfl, rfl, rfl⟩, fun μ' id hext hid => ⟨⟨_, hid, rfl⟩, mkCells_rel rfl rfl (cells_rel (VRel.ext hext _ _ rx))⟩⟩
    · cases hv
  case buildSlice t len parts =>
    split at hv
    · rename_i i ps ht hps
      split at hv
      · rename_i e hd
        split at hv
        · rename_i ie hie
          replace hv := bif_some hv; obtain ⟨hle, hv⟩ := hv
          split at hv
          · rename_i cs hf
            cases hv
            obtain ⟨z, hz, _, rz⟩ := run_zero (P := P) ok hie
            have hzl : ie.zero.length = ie.size := (ok.ty _ _ hie).zlen
            have hzs : z.cells.size = ie.size := by rw [← hzl, (rz μ).length, Array.length_toList]
            have hle' : ¬ len * ie.size > 2 ^ 24 := by have := ble_true.1 hle; omega
            have hps' := parts_rel (σ := σ) hg hr hps
            let z0 : Array Value := if len * ie.size = 0 then #[] else z.cells
            have hz0 : VsRel σ μ (repl len ie.zero) ((Array.range (len * ie.size)).map (z0[· % z0.size]!)).toList := by
              by_cases h0 : len * ie.size = 0
              · have e1 : repl len ie.zero = [] := by apply List.eq_nil_of_length_eq_zero; rw [repl_length, hzl, h0]
                rw [e1, h0]
                simp [VsRel.nil_iff]
              · have hne : ie.zero ≠ [] := fun e => h0 (by rw [← hzl, e]; simp)
                have := zeros_rel (rz μ) len hne
                simp only [z0, if_neg h0]
                rw [hzs] at this ⊢
                exact this
            obtain ⟨xs, hx, rx⟩ := fill_sound ps ((parts.map fun (i, x) => (i, opv tmps x)).toList) _ cs _ hf (by rw [Array.toList_map]; exact hps') hz0
            have hlen : xs.size = len * ie.size := by
              rw [← Array.length_toList, ← rx.length]
              have := fillA_length _ _ _ trivial hf
              rw [this, repl_length, hzl]
            refine ⟨.slice (some ⟨w.heap.size, 0, none⟩) len len, .cells xs e, xs.size, { w with heap := w.heap.push (.cells xs e) }, ?_, rfl, ⟨rfl, rfl, rfl⟩, fun μ' id hext hid => ⟨⟨_, _, _, hid, rfl, Nat.le_refl _, Nat.le_refl _, (fun _ => rfl), (fun _ => by simp), by simp [hlen]⟩, mkCells_rel rfl rfl (VsRel.ext hext _ _ rx)⟩⟩
            have hx2 : Instr.fill (fun i => some (i * ie.size, ie.size)) ((Array.range (len * ie.size)).map (z0[· % z0.size]!)) (Array.map (fun (x : Nat × Operand) => (x.fst, opv tmps x.snd)) parts).toList = some xs := hx
            simp only [execOp, Instr.buildSlice, Sem.run_bind, run_und ok ht, hd, Result.andThen_ok, run_size ok hie, if_neg hle', Sem.run_pure]
            by_cases h0 : len * ie.size = 0
            · simp only [z0, if_pos h0] at hx2
              rw [if_pos h0]
              simp only [Sem.run_bind, Sem.run_pure, Result.andThen_ok, hx2, newRow, run_newObj]
            · simp only [z0, if_neg h0] at hx2
              rw [if_neg h0]
              simp only [Sem.run_bind, Sem.run_pure, Result.andThen_ok, hz, hx2, newRow, run_newObj]
          · cases hv
        · cases hv
      · cases hv
    · cases hv
  case makeMap t rv =>
    cases rv with
    | some x => cases hv
    | none =>
      cases hv
      exact ⟨_, .map #[] 0, 0, { w with heap := w.heap.push (.map #[] 0) }, by simp [execOp, Instr.makeMap], rfl, ⟨rfl, rfl, rfl⟩, fun μ' id hext hid => ⟨⟨_, hid, rfl⟩, #[], rfl, rfl⟩⟩
  case makeSlice t l c =>
    split at hv
    · rename_i a b ha hb
      split at hv
      · rename_i l' c' sz o' hms
        cases hv
        have ra := O ha
        have rb := O hb
        unfold makeSliceA at hms
        split at hms
        · rename_i i k1 l1 k2 c1 ht
          have ea : opv tmps l = _ := ra
          have eb : opv tmps c = _ := rb
          split at hms
          · rename_i e hd
            split at hms
            · rename_i ie hie
              replace hms := bif_some hms; obtain ⟨hle, hms⟩ := hms
              obtain ⟨inf, z, hinf, his, hib, hiz, _, rz⟩ := run_info (P := P) ok hie
              obtain ⟨z2, hz, _, _⟩ := run_zero (P := P) ok hie
              have ez : z2 = z := by
                have := hz w
                simp [zeroValue, hinf, hiz] at this
                exact this.symm
              subst ez
              have hzl : ie.zero.length = ie.size := (ok.ty _ _ hie).zlen
              have hzs : z2.cells.size = ie.size := by rw [← hzl, (rz μ).length, Array.length_toList]
              have b1 := ble_true.1 (and_true2 (and_true2 hle).1).1
              have b2 := ble_true.1 (and_true2 (and_true2 hle).1).2
              have b3 := ble_true.1 (and_true2 hle).2
              have hc47 : c1 ≤ 140737488355328 := Nat.le_trans (Nat.le_mul_of_pos_left c1 b3) b2
              have wl : IntKind.i64.wrap (l1 : Int) = l1 := wrap_small .i64 l1 (by simp only [limK]; omega)
              have wc : IntKind.i64.wrap (c1 : Int) = c1 := wrap_small .i64 c1 (by simp only [limK]; omega)
              let z0 : Array Value := if c1 * ie.size = 0 then #[] else z2.cells
              let xs : Array Value := (Array.range (c1 * ie.size)).map (z0[· % z0.size]!)
              have hz0 : ∀ μ', VsRel σ μ' (repl c1 ie.zero) xs.toList := by
                intro μ'
                by_cases h0 : c1 * ie.size = 0
                · have e1 : repl c1 ie.zero = [] := by apply List.eq_nil_of_length_eq_zero; rw [repl_length, hzl, h0]
                  simp only [xs]
                  rw [e1, h0]
                  simp [VsRel.nil_iff]
                · have hne : ie.zero ≠ [] := fun e => h0 (by rw [← hzl, e]; simp)
                  have := zeros_rel (rz μ') c1 hne
                  simp only [xs, z0, if_neg h0]
                  rw [hzs] at this ⊢
                  exact this
              have hxs : xs.size = c1 * ie.size := by simp [xs]
              have hlow : ¬ ((c1 : Int) < 0) := by omega
              have hbig : ¬ (((ie.bytes : Int) * (c1 : Int)) > 2 ^ 48) := by
                have := Int.ofNat_le.2 b2
                rw [Int.natCast_mul] at this
                omega
              have hl0 : ¬ ((l1 : Int) < 0) := by omega
              have hlc : ¬ ((l1 : Int) > (c1 : Int)) := by omega
              have main : ∀ (ob' : AObj), (l1, c1, ie.size, ob') = (l', c', sz, ob) → (∀ μ', ORel σ μ' ob' ⟨w.heap.size, 0, xs.size⟩ (some (.cells xs e))) →
                  MadeRel P σ μ tmps { dst, op := .makeSlice t l c, type := ty, pos, after, guard } (fun id => .slice id 0 l' c' sz true) ob w := by
                intro ob' he hob
                obtain ⟨e1, e2, e3, e4⟩ : l1 = l' ∧ c1 = c' ∧ ie.size = sz ∧ ob' = ob := by
                  injection he with a b
                  injection b with b c
                  injection c with c d
                  exact ⟨a, b, c, d⟩
                rw [← e1, ← e2, ← e3, ← e4]
                refine ⟨.slice (some ⟨w.heap.size, 0, none⟩) l1 c1, .cells xs e, xs.size, { w with heap := w.heap.push (.cells xs e) }, ?_, rfl, ⟨rfl, rfl, rfl⟩, fun μ' id hext hid => ⟨⟨_, _, _, hid, rfl, b1, Nat.le_refl _, (fun _ => rfl), (fun _ => by simp), by simp [hxs]⟩, hob μ'⟩⟩
                have hbad : (decide ((c1 : Int) < 0) || decide ((ie.bytes : Int) * (c1 : Int) > 2 ^ 48) || decide ((l1 : Int) < 0) || decide ((l1 : Int) > (c1 : Int))) = false := by
                  simp only [hlow, hbig, hl0, hlc, decide_false, Bool.or_false]
                simp only [execOp, Instr.makeSlice, ea, eb, asInt, asIntOf, Sem.run_bind, run_und ok ht, hd, Sem.run_pure, Result.andThen_ok, hinf, hib, Int.ofNat_eq_natCast, wl, wc, hbad,
                  Bool.false_eq_true, if_false, run_askRoom, run_size ok hie, Int.toNat_natCast]
                by_cases h0 : c1 * ie.size = 0
                · rw [if_pos h0]
                  simp only [Sem.run_bind, Sem.run_pure, Result.andThen_ok, newRow, run_newObj, xs, z0, if_pos h0]
                · rw [if_neg h0]
                  simp only [Sem.run_bind, Sem.run_pure, Result.andThen_ok, newRow, run_newObj, xs, z0, if_neg h0, hz]
              split at hms
              · rename_i h8 hz1
                refine main _ (Option.some.inj hms) fun μ' => ?_
                have r1 := hz0 μ'
                have hs1 : ie.size = 1 := by rw [← hzl, hz1]; rfl
                have hlr : (repl c1 ie.zero).length = c1 := by rw [repl_length, hzl, hs1, Nat.mul_one]
                have := cells_row (σ := σ) (μ := μ') (cs := repl c1 ie.zero) (xs := xs) (E' := e) (loc := ⟨w.heap.size, 0, xs.size⟩) rfl rfl r1 (cell := (AObj.bytes c1 false 0).cell) fun i hi => by
                  rw [hlr] at hi
                  simp only [AObj.cell, blt_true.2 hi, cond_true]
                  rw [repl_get _ _ _ (by rw [hz1]; simp), if_pos (by rw [hzl, hs1]; omega), hz1]
                  have e0 : byteAt 0 i = 0 := by simp [byteAt_eq]
                  rw [e0, List.length_singleton, Nat.mod_one]
                  rfl
                rw [hlr] at this
                exact this
              · refine main _ (Option.some.inj hms) fun μ' => ?_
                have r1 := hz0 μ'
                have hlr : (repl c1 ie.zero).length = c1 * ie.size := by rw [repl_length, hzl]
                have := cells_row (σ := σ) (μ := μ') (cs := repl c1 ie.zero) (xs := xs) (E' := e) (loc := ⟨w.heap.size, 0, xs.size⟩) rfl rfl r1 (cell := (AObj.cells (c1 * ie.size) false ie.zero .nil).cell) fun i hi => by
                  rw [hlr] at hi
                  have hne : ie.zero ≠ [] := fun e => by rw [← hzl, e] at hi; simp at hi
                  simp only [AObj.cell, blt_true.2 hi, cond_true, Tr.get_nil]
                  rw [repl_get _ _ _ hne, if_pos (by rw [hzl]; exact hi)]
                rw [hlr] at this
                exact this
            · cases hms
          · cases hms
        · cases hms
      · cases hv
    · cases hv
  case convert s d x =>
    split at hv
    · rename_i i0 a h0 ha
      split at hv
      · rename_i l o' hc
        cases hv
        obtain ⟨x', obj, room, w', h1, h2, h3, h4⟩ := convNew_sound (P := P) (w := w) ok hc (O ha) s ⟨_, (ok.ty _ _ h0).und⟩
        exact ⟨x', obj, room, w', by simp [execOp, h1], h2, h3, h4⟩
      · cases hv
    · cases hv
end
end Go.Ev
