/-
  The operations that only look: one operand, conversions, cuts, parts, places.
-/
import Derived.Test.YtkdjcmpgnkecfaaGreatDoorE8
noncomputable section
namespace Go.Ev
set_option linter.unusedVariables false
set_option linter.unusedSimpArgs false

section
variable {P : Program} {E : Env} {σ : Nat → Int} {μ : Map} {h : AH} {w : World} {r : Regs} {tmps : Array Value}

theorem un_sound {op : UnOp} {x v : AV} {u : Value} (hv : unA op x = some v) (hu : VRel σ μ x u) : ∃ q, (Op.unary op u).run P w = .ok q w ∧ VRel σ μ v q := by
  unfold unA at hv
  split at hv
  · rename_i k n
    have eu : u = _ := hu; subst eu; cases hv
    exact ⟨.int k (k.wrap (0 - n)), by simp [Op.unary, Op.intArith], by rw [VRel, wrapA_eq]⟩
  · rename_i k n
    have eu : u = _ := hu; subst eu; cases hv
    refine ⟨.int k (xorS k (if k.signed then -1 else k.max) n), ?_, by rw [VRel]; cases k.signed <;> rfl⟩
    rfl
  · have eu : u = _ := hu; subst eu; cases hv
    exact ⟨.bool _, rfl, rfl⟩
  · cases hv

theorem isU8_eq {d : TypeDesc} (hd : isU8 d = true) : d = .int .u8 := by
  unfold isU8 at hd
  split at hd
  · rfl
  · cases hd

/-- bytes, as the model has them -/
def bvals (l n : Nat) : List Value := (bytesOf l n).map fun b => .int .u8 b.toNat

theorem bvals_length (l n : Nat) : (bvals l n).length = l := by simp [bvals, bytesOf_length]

theorem bvals_get (l n i : Nat) : (bvals l n)[i]? = if i < l then some (.int .u8 (byteAt n i : Nat)) else none := by
  unfold bvals
  rw [List.getElem?_map, bytesOf_get]
  by_cases hi : i < l
  · rw [if_pos hi, if_pos hi, Option.map_some]
    have := byteAt_lt n i
    congr 3
    simp
    omega
  · rw [if_neg hi, if_neg hi]; rfl

theorem read_nat (rel : HRel σ μ h w.heap) {id off len n : Nat} {loc : Loc} (hm : μ id = some loc) (hr : readNat h id off len = some n) :
    n < 2 ^ (8 * len) ∧ (loadCells ⟨loc.b, loc.o + off, none⟩ len).run P w = .ok (bvals len n).toArray w := by
  unfold readNat at hr
  split at hr
  · rename_i size st N hg
    replace hr := bif_some hr; obtain ⟨hle, hr⟩ := hr
    cases hr
    refine ⟨cut_lt _ _ _, ?_⟩
    have := run_loadCells_list (P := P) w ⟨loc.b, loc.o + off, none⟩ (bvals len ((N >>> (8 * off)) % 2 ^ (8 * len))) fun j v hj => by
      rw [bvals_get] at hj
      by_cases hl : j < len
      · rw [if_pos hl, byteAt_cut _ _ _ _ hl] at hj
        cases hj
        have hle' := ble_true.1 hle
        obtain ⟨x, hx, rx⟩ := read_cell (w := w) rel hm (off := off + j) (v := .int .u8 (.ofNat (byteAt N (off + j)))) (by
          unfold readCell
          rw [hg]
          simp only [AObj.cell, blt_true.2 (show off + j < size by omega), cond_true])
        have ex : x = _ := rx
        subst ex
        rw [add_cell, Nat.add_assoc]
        exact hx
      · rw [if_neg hl] at hj; cases hj
    rwa [bvals_length] at this
  · cases hr

theorem foldl_push (l : List UInt8) : ∀ (s : ByteArray), ((l.map fun b => ((b.toNat : Nat) : Int)).foldl (fun r n => r.push (UInt8.ofNat n.toNat)) s) = ⟨s.data ++ l.toArray⟩ := by
  induction l with
  | nil => intro s; simp
  | cons b bs ih =>
    intro s
    simp only [List.map_cons, List.foldl_cons, ih]
    apply ByteArray.ext
    simp [ByteArray.push]

theorem conv_sound (ok : EnvOk P E σ) (rel : HRel σ μ h w.heap) {src dst : TypeId} {x v : AV} {u : Value} (hv : convA E h src dst x = some v) (hu : VRel σ μ x u) :
    ∃ q, (convert src dst u).run P w = .ok q w ∧ VRel σ μ v q := by
  unfold convA at hv
  split at hv
  · rename_i s d hs hd
    have us := run_und (P := P) ok hs w
    have ud := run_und (P := P) ok hd w
    split at hv
    · rename_i k n
      have eu : u = _ := hu; subst eu
      split at hv
      · rename_i j hj
        cases hv
        exact ⟨.int j (j.wrap n), by simp [convert, us, ud, hj, Conv.intToInt], by rw [VRel, wrapA_eq]⟩
      · cases hv
    · rename_i k e
      have eu : u = _ := hu; subst eu
      split at hv
      · rename_i j hj
        replace hv := bif_some hv; obtain ⟨hf, hv⟩ := hv
        cases hv
        exact ⟨.int j (j.wrap (σ e)), by simp [convert, us, ud, hj, Conv.intToInt], by rw [VRel, fits_sound ok.facts hf]⟩
      · cases hv
    · rename_i l n
      have hu' := hu
      obtain ⟨_, eu⟩ := hu; subst eu
      split at hv
      · rename_i hj
        cases hv
        exact ⟨_, by simp [convert, us, ud, hj], hu'⟩
      · cases hv
    · have eu : u = _ := hu; subst eu
      split at hv
      · rename_i e hse hde
        split at hv
        · rename_i ie hie
          replace hv := bif_some hv; obtain ⟨h8, hv⟩ := hv
          cases hv
          have he : P.underlying e = some (.int .u8) := by rw [← isU8_eq h8]; exact (ok.ty e ie hie).und
          refine ⟨.string .empty, ?_, by decide, rfl⟩
          rw [run_convert_bytes_string w src dst e none 0 0 (by rw [← hse]; exact (ok.ty src s hs).und) he (by rw [← hde]; exact (ok.ty dst d hd).und)]
          rfl
        · cases hv
      · cases hv
    · rename_i id off len cap esz ex
      obtain ⟨loc, a, c, hm, eu, hlc, hcc, _, ha, _⟩ := hu
      subst eu
      split at hv
      · rename_i e hse hde
        split at hv
        · rename_i ie hie
          replace hv := bif_some hv; obtain ⟨h8, hv⟩ := hv
          have he : P.underlying e = some (.int .u8) := by rw [← isU8_eq h8]; exact (ok.ty e ie hie).und
          rw [run_convert_bytes_string w src dst e (some a) len c (by rw [← hse]; exact (ok.ty src s hs).und) he (by rw [← hde]; exact (ok.ty dst d hd).und)]
          cases h0 : Nat.beq len 0 with
          | true =>
            rw [h0] at hv
            cases hv
            have := beq_true.1 h0
            subst this
            refine ⟨.string .empty, ?_, by decide, rfl⟩
            rw [run_bytesToString w a 0 c [] (by simp [loadCells, loadCellsFrom])]
            rfl
          | false =>
            rw [h0] at hv
            simp only [cond_false] at hv
            split at hv
            · rename_i n hn
              cases hv
              have hne : c ≠ 0 := by have := beq_false.1 h0; omega
              obtain ⟨hlt, hl⟩ := read_nat (P := P) rel hm hn
              rw [← ha hne] at hl
              refine ⟨.string ⟨(bytesOf len n).toArray⟩, ?_, hlt, rfl⟩
              rw [run_bytesToString w a len c ((bytesOf len n).map fun b => ((b.toNat : Nat) : Int)) (by rw [hl]; simp [bvals]), foldl_push]
              congr 2
              apply ByteArray.ext
              simp
            · cases hv
        · cases hv
      · cases hv
    · cases hv
  · cases hv

/-! ### cuts -/
theorem add_eq (b o n : Nat) : Addr.add ⟨b, o, none⟩ n = ⟨b, o + n, none⟩ := by
  unfold Addr.add
  by_cases hn : n = 0
  · rw [if_pos hn, hn, Nat.add_zero]
  · rw [if_neg hn]

theorem bound_sound {x : Int} {y m : Nat} (hb : boundA x y = some m) (k : IntKind) (code : BoundsCode) : (Instr.sliceBound (.int k x) y code).run P w = .ok m w ∧ m ≤ y := by
  cases x with
  | negSucc n => cases hb
  | ofNat n =>
    simp only [boundA] at hb
    replace hb := bif_some hb; obtain ⟨hle, hb⟩ := hb
    cases hb
    have := ble_true.1 hle
    refine ⟨?_, this⟩
    have h2 : (0 : Int) ≤ (m : Int) ∧ (m : Int) ≤ (y : Int) := by omega
    simp [Instr.sliceBound, asIntOf, h2, this]

theorem boundA_mono {x : Int} {y y' m : Nat} (hb : boundA x y = some m) (hy : y ≤ y') : boundA x y' = some m := by
  cases x with
  | negSucc n => cases hb
  | ofNat n =>
    simp only [boundA] at hb ⊢
    replace hb := bif_some hb; obtain ⟨hle, hb⟩ := hb
    cases hb
    rw [ble_true.2 (Nat.le_trans (ble_true.1 hle) hy)]
    rfl

inductive OptInt : Option Int → Option Value → Prop
  | none : OptInt none none
  | some (n : Int) (k : IntKind) : OptInt (some n) (some (.int k n))

theorem optInt_sound (hg : GRel E μ) (hr : ∀ i, VRel σ μ (r.get i) (tmps.getD i undef)) {o : Option Operand} {z : Option Int} (he : optInt E r o = some z) : OptInt z (o.map (opv tmps)) := by
  unfold optInt at he
  split at he
  · cases he; exact .none
  · rename_i x
    split at he
    · rename_i k m hx
      cases he
      have := opd_rel (σ := σ) hg hr hx
      have e : opv tmps x = .int k m := this
      rw [Option.map_some, e]
      exact OptInt.some m k
    · cases he

theorem bounds_sound {len cap c : Nat} {ex : Bool} {lo hi mx : Option Int} {vl vh vm : Option Value} {l hh m : Nat} {ex' : Bool} (hb : boundsA len cap ex lo hi mx = some (l, hh, m, ex'))
    (hlc : len ≤ cap) (hc : cap ≤ c) (hex : ex = true → c = cap) (rl : OptInt lo vl) (rh : OptInt hi vh) (rm : OptInt mx vm) (isS : Bool) :
    ∃ M, (Instr.sliceBounds isS len c vl vh vm).run P w = .ok (l, hh, M) w ∧ m ≤ M ∧ (ex' = true → M = m) ∧ l ≤ hh ∧ hh ≤ m ∧ M ≤ c := by
  unfold boundsA at hb
  split at hb
  · rename_i a b
    cases rm with | some _ km => ?_
    cases rh with | some _ kh => ?_
    split at hb
    · rename_i m' hm
      split at hb
      · rename_i h' hh'
        obtain ⟨s1, s2⟩ := bound_sound (P := P) (w := w) (boundA_mono hm hc) km (if isS then .slice3Acap else .slice3Alen)
        obtain ⟨s3, s4⟩ := bound_sound (P := P) (w := w) hh' kh .slice3B
        have hmc : m' ≤ cap := (bound_sound (P := P) (w := w) hm km .slice3B).2
        split at hb
        · rename_i l'
          cases rl with | some _ kl => ?_
          split at hb
          · rename_i l'' hl
            cases hb
            obtain ⟨s5, s6⟩ := bound_sound (P := P) (w := w) hl kl .slice3C
            exact ⟨_, by simp [Instr.sliceBounds, s1, s3, s5], Nat.le_refl _, fun _ => rfl, s6, s4, s2⟩
          · cases hb
        · cases rl with | none => ?_
          cases hb
          exact ⟨_, by simp [Instr.sliceBounds, s1, s3], Nat.le_refl _, fun _ => rfl, Nat.zero_le _, s4, s2⟩
      · cases hb
    · cases hb
  · cases hb
  · rename_i b
    cases rm with | none => ?_
    cases rh with | some _ kh => ?_
    split at hb
    · rename_i h' hh'
      obtain ⟨s3, s4⟩ := bound_sound (P := P) (w := w) (boundA_mono hh' hc) kh (if isS then .sliceAcap else .sliceAlen)
      have s4' := (bound_sound (P := P) (w := w) hh' kh .slice3B).2
      split at hb
      · rename_i l'
        cases rl with | some _ kl => ?_
        split at hb
        · rename_i l'' hl
          cases hb
          obtain ⟨s5, s6⟩ := bound_sound (P := P) (w := w) hl kl .sliceB
          exact ⟨c, by simp [Instr.sliceBounds, s3, s5], hc, hex, s6, s4', Nat.le_refl _⟩
        · cases hb
      · cases rl with | none => ?_
        cases hb
        exact ⟨c, by simp [Instr.sliceBounds, s3], hc, hex, Nat.zero_le _, s4', Nat.le_refl _⟩
    · cases hb
  · cases rm with | none => ?_
    cases rh with | none => ?_
    split at hb
    · rename_i l'
      cases rl with | some _ kl => ?_
      split at hb
      · rename_i l'' hl
        cases hb
        obtain ⟨s5, s6⟩ := bound_sound (P := P) (w := w) hl kl .sliceB
        exact ⟨c, by simp [Instr.sliceBounds, s5], hc, hex, s6, hlc, Nat.le_refl _⟩
      · cases hb
    · cases rl with | none => ?_
      cases hb
      exact ⟨c, by simp [Instr.sliceBounds], hc, hex, Nat.zero_le _, hlc, Nat.le_refl _⟩

theorem slice_sound (ok : EnvOk P E σ) (rel : HRel σ μ h w.heap) {t : TypeId} {x v : AV} {u : Value} {lo hi mx : Option Int} {vl vh vm : Option Value} (hv : sliceA E h t x lo hi mx = some v) (hu : VRel σ μ x u)
    (rl : OptInt lo vl) (rh : OptInt hi vh) (rm : OptInt mx vm) : ∃ q, (Instr.sliceAt t u vl vh vm).run P w = .ok q w ∧ VRel σ μ v q := by
  unfold sliceA at hv
  split at hv
  · cases hv
  · rename_i i ht
    have ut := run_und (P := P) ok ht w
    split at hv
    · rename_i len n hd
      obtain ⟨hlt, eu⟩ := hu; subst eu
      replace hv := bif_none hv; obtain ⟨hmx, hv⟩ := hv
      split at hv
      · rename_i l hh m ex hb
        cases hv
        cases rm with | some _ _ => cases hmx | none => ?_
        obtain ⟨M, hr, hmM, _, hlh, hhm, hMc⟩ := bounds_sound (P := P) (w := w) (c := len) hb (Nat.le_refl _) (Nat.le_refl _) (fun _ => rfl) rl rh .none false
        have hsz : (⟨(bytesOf len n).toArray⟩ : ByteArray).size = len := by show (bytesOf len n).toArray.size = len; simp [bytesOf_length]
        refine ⟨.string ((⟨(bytesOf len n).toArray⟩ : ByteArray).extract l hh), by simp [Instr.sliceAt, Instr.slice, ut, hd, hsz, hr], cut_lt _ _ _, ?_⟩
        rw [bytesOf_cut len n l (hh - l) (by omega)]
        congr 1
        apply ByteArray.ext
        simp [ByteArray.data_extract, List.extract_toArray, List.extract_eq_take_drop]
      · cases hv
    · rename_i e hd
      have eu : u = _ := hu; subst eu
      split at hv
      · rename_i y ie hb hie
        cases hv
        obtain ⟨l, hh, m, ex⟩ := y
        obtain ⟨M, hr, hmM, _, hlh, hhm, hMc⟩ := bounds_sound (P := P) (w := w) (c := 0) hb (Nat.le_refl _) (Nat.le_refl _) (fun _ => rfl) rl rh rm true
        obtain rfl : M = 0 := by omega
        obtain rfl : l = 0 := by omega
        obtain rfl : hh = 0 := by omega
        exact ⟨.slice none 0 0, by simp [Instr.sliceAt, Instr.slice, ut, hd, hr, run_size ok hie], rfl⟩
      · cases hv
    · rename_i e id off len cap esz ex hd
      obtain ⟨loc, a, c, hm, eu, hlc, hcc, hex, ha, hroom⟩ := hu
      subst eu
      split at hv
      · rename_i l hh m ex' ie hb hie
        replace hv := bif_some hv; obtain ⟨hsz, hv⟩ := hv
        cases hv
        have hsz' := beq_true.1 hsz
        obtain ⟨M, hr, hmM, hex', hlh, hhm, hMc⟩ := bounds_sound (P := P) (w := w) hb hlc hcc hex rl rh rm true
        refine ⟨.slice (some (if M = l then a else a.add (l * esz))) (hh - l) (M - l), ?_, loc, _, _, hm, rfl, by omega, by omega, fun e => by rw [hex' e], fun hne => ?_, ?_⟩
        · simp only [Instr.sliceAt, Instr.slice, ut, hd, hr, run_size ok hie, Sem.run_bind, Result.andThen_ok, Sem.run_pure, hsz']
          by_cases e : M = l <;> simp [e]
        · rw [if_neg (by omega), ha (by omega), add_eq, Nat.add_assoc]
        · have : l * esz + (M - l) * esz ≤ c * esz := by
            rw [← Nat.add_mul]
            exact Nat.mul_le_mul_right _ (by omega)
          omega
      · cases hv
    · rename_i n e id off hd
      obtain ⟨loc, hm, eu⟩ := hu
      subst eu
      split at hv
      · rename_i ie l hh m ex' hie hb
        split at hv
        · rename_i size st hrow
          replace hv := bif_some hv; obtain ⟨hle, hv⟩ := hv
          cases hv
          have hle' := ble_true.1 hle
          obtain ⟨M, hr, hmM, hex', hlh, hhm, hMc⟩ := bounds_sound (P := P) (w := w) (c := n) hb (Nat.le_refl _) (Nat.le_refl _) (fun _ => rfl) rl rh rm false
          have hex2 : ex' = true := by
            have := hb
            unfold boundsA at this
            split at this <;> (repeat' (split at this)) <;> first | (cases this; rfl) | cases this
          obtain rfl := hex' hex2
          have hnd : h.get id ≠ .dead := fun e => by rw [e] at hrow; cases hrow
          obtain ⟨cc, EE, fr, e1, e2, e3, _⟩ := (rel.obj id loc _ hm (AH.get_live hnd)).row hrow
          refine ⟨.slice (some (if M = l then ⟨loc.b, loc.o + off, none⟩ else Addr.add ⟨loc.b, loc.o + off, none⟩ (l * ie.size))) (hh - l) (M - l), ?_, loc, _, _, hm, rfl, by omega, Nat.le_refl _, fun _ => rfl, fun hne => ?_, ?_⟩
          · simp [Instr.sliceAt, Instr.sureAddr, ut, hd, hr, run_size ok hie]
          · rw [if_neg (by omega), add_eq, Nat.add_assoc]
          · have : l * ie.size + (M - l) * ie.size ≤ n * ie.size := by
              rw [← Nat.add_mul]
              exact Nat.mul_le_mul_right _ (by omega)
            omega
        · cases hv
      · cases hv
    · cases hv
end
end Go.Ev
