/-
  The world in which a law begins: the table of widths lies as the program lays it; data without memory; a law's last step.
-/
import Derived.Test.YtkdjcmpgnkecfaaGreatDoorS4
import Derived.Test.YtkdjcmpgnkecfaaGreatDoorRows
import Derived.WalkKit
import Derived.ProofKit
import Derived.OpenShut
import Derived.ChangeSame
import Derived.Deep.Fields
import Derived.LaidMore
import Derived.Stop.Joined
noncomputable section
namespace Go.Proofs.YtkdjcmpgnkecfaaGreatDoor
open Go.Ev Go.ChangeShapes Go.WideShapes Go.ChangeAt Go.RowKit Go.Deep
set_option linter.unusedVariables false
set_option linter.unusedSimpArgs false

theorem own : ownKnob Tryz.prog.godebug = none := by kernel_rfl

section
variable {H : Type} {enc : TypeId × Value → H} {P : Program} {w w' : World} {base base' : Nat} {sp sp' : Nat → Bool} {held held' : Bool}

noncomputable def plainT (P : Program) : Nat → TypeId → Bool
  | 0, _ => false
  | d + 1, t => match P.underlying t with
    | some .bool => true
    | some (.int _) => true
    | some (.struct fs) => fs.toList.all fun f => plainT P d f.type
    | _ => false

theorem mapM_same {α β : Type} {f g : α → Option β} : ∀ {l : List α}, (∀ x, x ∈ l → f x = g x) → l.mapM f = l.mapM g
  | [], _ => rfl
  | x :: l, h => by
    rw [List.mapM_cons, List.mapM_cons, h x List.mem_cons_self, mapM_same fun y hy => h y (List.mem_cons_of_mem _ hy)]

theorem trod_plain : ∀ (d : Nat) (t : TypeId) (n : Nat) (cs : List Value), plainT P d t = true → DataW.trod enc P w base sp held n t cs = DataW.trod enc P w' base' sp' held' n t cs
  | 0, t, n, cs, hp => by cases hp
  | d + 1, t, 0, cs, hp => by simp only [DataW.trod]
  | d + 1, t, n + 1, cs, hp => by
    unfold plainT at hp
    cases hu : P.underlying t with
    | none => rw [hu] at hp; cases hp
    | some ty =>
      rw [hu] at hp
      cases ty <;> first | (cases hp; done) | skip
      · unfold DataW.trod
        rw [hu]
        rcases cs with _ | ⟨c, _ | ⟨c2, r⟩⟩ <;> first | rfl | (cases c <;> rfl)
      · unfold DataW.trod
        rw [hu]
        rcases cs with _ | ⟨c, _ | ⟨c2, r⟩⟩ <;> first | rfl | (cases c <;> rfl)
      · rename_i fs
        have hp' : ∀ f, f ∈ fs.toList → plainT P d f.type = true := List.all_eq_true.1 hp
        simp only [DataW.trod, hu]
        rw [mapM_same fun f hf => trod_plain d f.type n ((cs.drop f.offset).take (P.cellsOf f.type)) (hp' f hf)]

theorem trodAll_plain : ∀ {ts : List TypeId} {vs : List Value} {ds : List (DataW H)} {p : List MemPlace}, (∀ t, t ∈ ts → plainT P 3 t = true) → DataW.TrodAll enc P w base sp held ts vs ds p → DataW.TrodAll enc P w' base' sp' held' ts vs ds p
  | [], [], [], p, _, h => h
  | t :: ts, v :: vs, d :: ds, p, ht, ⟨p1, q1, ⟨n, hn⟩, h2, e⟩ =>
    ⟨p1, q1, ⟨n, by rw [← trod_plain (w := w) (base := base) (sp := sp) (held := held) 3 t n _ (ht t List.mem_cons_self)]; exact hn⟩, trodAll_plain (fun u hu => ht u (List.mem_cons_of_mem _ hu)) h2, e⟩

theorem open_cells {r : Reach} {b0 : Nat} {t : TypeId} {fs : Array Field} {v : Value} {d : DataW H} {p : List MemPlace} (hs : P.underlying t = some (.struct fs)) (hone : oneCellFields P fs = true)
    (hv : Value.okWide P w r b0 t v) (h : DataW.Trod enc P w base sp held t v d p) : ∃ l : List Value, v = .agg l.toArray ∧ l.length = P.cellsOf t ∧
      ∀ (i : Nat) (f : Field) (x : Value), fs[i]? = some f → l[i]? = some x → ∃ n y, DataW.trod enc P w base sp held n f.type [x] = some y := by
  obtain ⟨cs, rfl, hsz⟩ := okWide_struct hs hv
  obtain ⟨n, hn⟩ := h
  obtain ⟨xs, m, _, hx, hl, hlen, hg⟩ := DataW.trod_struct hs hn
  refine ⟨cs.toList, by simp, by simpa using hsz, fun i f x hf hi => ?_⟩
  obtain ⟨o, k⟩ := hone_of hone i f hf
  have hif : i < fs.size := (Array.getElem?_eq_some_iff.1 hf).1
  have h1 := hg i f hf
  rw [o, k] at h1
  have hil : i < cs.toList.length := (List.getElem?_eq_some_iff.1 hi).1
  have e : ((Value.agg cs).cells.toList.drop i).take 1 = [x] := by
    have e0 : (Value.agg cs).cells.toList = cs.toList := rfl
    rw [e0, List.drop_eq_getElem_cons hil]
    have := (List.getElem?_eq_some_iff.1 hi).2
    rw [this]
    rfl
  rw [e, List.getElem?_eq_getElem (by omega)] at h1
  exact ⟨m, _, h1⟩
end

/-! ### the row's last step, where nothing handed in is memory -/
section
variable {H : Type} {enc : TypeId × Value → H} {P : Program} {w : World} {base : Nat} {sp : Nat → Bool} {held : Bool}
theorem places_plain : ∀ (d : Nat) (t : TypeId) (n : Nat) (cs : List Value) (x : DataW H × List MemPlace), plainT P d t = true → DataW.trod enc P w base sp held n t cs = some x → x.2 = []
  | 0, t, n, cs, x, hp, _ => by cases hp
  | d + 1, t, n, cs, x, hp, h => by
    unfold plainT at hp
    cases hu : P.underlying t with
    | none => rw [hu] at hp; cases hp
    | some ty =>
      rw [hu] at hp
      cases ty <;> first | (cases hp; done) | skip
      · obtain ⟨b, _, e⟩ := DataW.trod_bool hu h
        rw [e]
      · obtain ⟨b, _, e, _⟩ := DataW.trod_int hu h
        rw [e]
      · rename_i fs
        have hp' : ∀ f, f ∈ fs.toList → plainT P d f.type = true := List.all_eq_true.1 hp
        obtain ⟨xs, m, _, hx, _, hlen, hg⟩ := DataW.trod_struct hu h
        rw [hx]
        show xs.flatMap (·.2) = []
        rw [List.flatMap_eq_nil_iff]
        intro y hy
        obtain ⟨i, hi, e⟩ := List.getElem_of_mem hy
        have hf : fs[i]? = some fs[i] := Array.getElem?_eq_getElem (by omega)
        have h1 := hg i _ hf
        rw [List.getElem?_eq_getElem hi, e] at h1
        exact places_plain d _ m _ y (hp' _ (by simp)) h1

theorem placesAll_plain : ∀ {ts : List TypeId} {vs : List Value} {ds : List (DataW H)} {p : List MemPlace}, (∀ t, t ∈ ts → plainT P 3 t = true) → DataW.TrodAll enc P w base sp held ts vs ds p → p = []
  | [], [], [], p, _, h => h
  | t :: ts, v :: vs, d :: ds, p, ht, ⟨p1, q1, ⟨n, hn⟩, h2, e⟩ => by
    rw [e, placesAll_plain (fun u hu => ht u (List.mem_cons_of_mem _ hu)) h2]
    have := places_plain 3 t n _ _ (ht t List.mem_cons_self) hn
    simpa using this
end

/-- a law of plain data, whose call has told true and left what was there -/
theorem post_plain {H : Type} {enc : TypeId × Value → H} {P : Program} {f : Func} {s : ChangeSpec} {apart fresh handsOn again : Bool} {W W' : World} {args : Array Value} {ds : List (DataW H)} {p : List MemPlace} {bt : TypeId}
    (hA : DataW.TrodAll enc P W 0 (fun _ => true) true f.params.toList args.toList ds p) (hp : ∀ t, t ∈ f.params.toList → plainT P 3 t = true) (hvars : s.vars = [])
    (hr : f.resultTypes = #[bt]) (hbt : P.underlying bt = some .bool) (hs : ((s.fn H (ds ++ [])).results = [.lit (.bool true)]) ∧ (s.fn H (ds ++ [])).args = ds ∧ (s.fn H (ds ++ [])).vars = []) (hb : Below W.heap.size W W') :
    s.post enc P f apart fresh handsOn again W args (.bool true) W' := by
  have e0 := placesAll_plain hp hA
  subst e0
  have none : ∀ {w : World} {sp : Nat → Bool}, DataW.TrodVars enc P w sp s.vars [] [] := by intro w sp; rw [hvars]; rfl
  have res : ∀ (b : Nat) (sp : Nat → Bool) (hd : Bool), DataW.TrodAll enc P W' b sp hd f.resultTypes.toList ((Value.bool true).resultList f.resultTypes.size) [.lit (.bool true)] [] := by
    intro b sp hd
    rw [hr]
    exact trodAll_cons_mk (shut_bool hbt _) trodAll_mk0
  refine ⟨ds, [], [], [], [], [], ⟨[], [], hA, none, rfl, (by intro b off h; cases h), fun _ => List.nodup_nil⟩, ?_, ?_, ?_, hb.frame _, fun _ => ⟨?_, _, [], [], ⟨[], [], trodAll_append (trodAll_plain hp hA) (res 0 _ true), none, rfl, (by intro b off h; cases h), fun _ => List.nodup_nil⟩, fun _ h => by cases h⟩⟩
  · rw [hs.1]; exact res _ _ _
  · rw [hs.2.1]; exact trodAll_plain hp hA
  · rw [hs.2.2]; exact none
  · intro j t r h1 h2
    rw [hr] at h1 h2
    match j, h1, h2 with
    | 0, h1, h2 =>
      cases h1
      cases h2
      exact okWide_bool_mk hbt _
    | j + 1, h1, _ => simp at h1

/-! ### the table of widths -/
abbrev laidL : List (String × DataW Unit) := [("flyleaf/word.widths", Rows.laid_flyleaf_word_widths)]
theorem gWidths : Tryz.prog.globalNamed "flyleaf/word.widths" = some 0 := by kernel_rfl
theorem tWidths : (Tryz.prog.globals[0]?).map (·.type) = some 255 := by kernel_rfl
theorem c3 : Tryz.prog.cellsOf 3 = 1 := by kernel_rfl
theorem c255 : Tryz.prog.cellsOf 255 = 10 := by kernel_rfl
def widthL : List Int := [0, 1, 2, 4, 8, 1, 2, 4, 8, 8]

theorem door_met (os : Os) (args : Array Value) : laidMetH Tryz.prog laidL ((World.doorLaid Tryz.prog 400 os).forCall (fun _ _ => 0) ⟨#[], args, []⟩).memory :=
  laidMetH_of_parts3 (fuel := 8) (laidMet_of_run' 8 (by kernel_rfl) (by kernel_rfl)) (by kernel_rfl) (by kernel_rfl)

theorem of_laid {W : World} (h : laidMetH Tryz.prog laidL W) : ∃ (c : Array Value) (t : TypeId), W.heap[0]? = some (.cells c t (0, 0)) ∧ ∀ (i : Nat) (n : Int), widthL[i]? = some n → c[i]? = some (.int .i64 n) := by
  rw [MakeChecks.laidMetH_plain _ _ _ (by kernel_rfl)] at h
  obtain ⟨ps, ⟨g0, t0, cs0, f0, p0, q0, hg0, ht0, hv0, hd0, hq0, hps⟩, _, hrow⟩ := h
  obtain rfl := Option.some.inj (gWidths.symm.trans hg0)
  obtain rfl := Option.some.inj (tWidths.symm.trans ht0)
  obtain ⟨xs, m1, rfl, hx, hlen, hn, hel⟩ := DataW.trod_array Tryz.underlying255 hd0
  have hcell : ∀ (i : Nat) (n : Int), widthL[i]? = some n → cs0[i]? = some (.int .i64 n) := by
    intro i n hi
    have hi10 : i < 10 := by
      have := (List.getElem?_eq_some_iff.1 hi).1
      simpa [widthL] using this
    have h1 := hel i hi10
    rw [c3, Nat.mul_one] at h1
    have hxi : i < xs.length := by omega
    rw [List.getElem?_eq_getElem hxi] at h1
    obtain ⟨k, e1, e2, _⟩ := DataW.trod_int Tryz.underlying3 h1
    have hk : k = n := by
      have hx1 : xs.map (·.1) = widthL.map fun n => (DataW.lit (Lit.int .i64 n) : DataW Unit) := by
        have e1 : (DataW.agg (xs.map (·.1)) : DataW Unit) = DataW.agg (widthL.map fun n => (DataW.lit (Lit.int .i64 n) : DataW Unit)) := (Prod.mk.inj hx).1.symm
        exact DataW.agg.inj e1
      have h2 : (xs.map (·.1))[i]? = (widthL.map fun n => (DataW.lit (Lit.int .i64 n) : DataW Unit))[i]? := by rw [hx1]
      rw [List.getElem?_map, List.getElem?_map, hi, List.getElem?_eq_getElem hxi, e2] at h2
      simpa using h2
    subst hk
    rw [c255] at hlen
    have hil : i < cs0.toList.length := by omega
    rw [List.drop_eq_getElem_cons hil] at e1
    simp only [List.take_succ_cons, List.take_zero, List.cons.injEq, and_true] at e1
    rw [← Array.getElem?_toList, List.getElem?_eq_getElem hil, e1]
  have hsz : 0 < cs0.size := by
    rw [c255] at hlen
    rw [← Array.length_toList]
    omega
  obtain ⟨⟨c, t, hc⟩, _⟩ := hrow 0 0 (by
    rw [hps]
    apply List.mem_append_left
    apply List.mem_append_left
    simp [MemPlace.row]
    exact hsz)
  refine ⟨c, t, hc, fun i n hi => ?_⟩
  have e0 : W.var? Tryz.prog "flyleaf/word.widths" = some c := by
    simp only [World.var?, gWidths, Option.bind_some, hc]
  have : c = cs0 := Option.some.inj (e0.symm.trans hv0)
  subst this
  exact hcell i n hi

def widthsT : Tr AV := Tr.ofList (widthL.map (AV.int .i64))
/-- memory as a law finds it -/
def hL : AH := { next := 1, tr := .node .nil (some (.ro 10 widthsT)) .nil }
def muL (n : Nat) : Ev.Map := fun id => if id = 0 then some ⟨0, 0, n⟩ else none

theorem tr_hL (id : Nat) (o : AObj) (h : hL.tr.get id = some o) : id = 0 ∧ o = .ro 10 widthsT := by
  have e : hL.tr.get id = if id = 0 then some (.ro 10 widthsT) else if id % 2 = 1 then Tr.nil.get (id / 2) else Tr.nil.get (id / 2 - 1) := Tr.get_node _ _ _ _
  rw [e] at h
  by_cases h0 : id = 0
  · rw [if_pos h0] at h
    exact ⟨h0, (Option.some.inj h).symm⟩
  · rw [if_neg h0] at h
    simp [Tr.get_nil] at h

theorem rel_hL {W : World} {c : Array Value} {t : TypeId} {σ : Nat → Int} (hc : W.heap[0]? = some (.cells c t (0, 0))) (hw : ∀ (i : Nat) (n : Int), widthL[i]? = some n → c[i]? = some (.int .i64 n)) : HRel σ (muL c.size) hL W.heap where
  obj := fun id loc o hm ho => by
    obtain ⟨rfl, rfl⟩ := tr_hL id o ho
    simp only [muL, if_true, Option.some.injEq] at hm
    subst hm
    have h9 := hw 9 8 rfl
    have hsz : 9 < c.size := (Array.getElem?_eq_some_iff.1 h9).1
    refine ⟨rfl, c, t, (0, 0), hc, by simp, by show 10 ≤ c.size; omega, (fun e => by cases e), (fun i _ hi => by simp at hi), fun i hi => ?_⟩
    have hi' : i < widthL.length := hi
    refine ⟨.int .i64 widthL[i], .int .i64 widthL[i], ?_, ?_, rfl⟩
    · show (bif Nat.blt i 10 then Tr.get (Tr.ofList (widthL.map (AV.int .i64))) i else none) = _
      rw [blt_true.2 hi, Tr.get_ofList, List.getElem?_map, List.getElem?_eq_getElem hi']
      rfl
    · have := hw i widthL[i] (List.getElem?_eq_getElem hi')
      simpa using this
  inj := fun i j l l' hi hj _ _ _ => by
    unfold muL at hi hj
    by_cases h1 : i = 0
    · by_cases h2 : j = 0
      · rw [h1, h2]
      · rw [if_neg h2] at hj; cases hj
    · rw [if_neg h1] at hi; cases hi
  lt := fun id loc hm => by
    unfold muL at hm
    by_cases h1 : id = 0
    · rw [if_pos h1] at hm
      cases hm
      exact (Array.getElem?_eq_some_iff.1 hc).1
    · rw [if_neg h1] at hm; cases hm
  topμ := fun id hid => by
    unfold muL
    rw [if_neg]
    have : 1 ≤ id := hid
    omega
  toph := fun id hid => by
    cases h : hL.tr.get id with
    | none => rfl
    | some o =>
      obtain ⟨rfl, _⟩ := tr_hL id o h
      have : 1 ≤ 0 := hid
      omega

/-- a law's call, where the evaluator has its answer -/
theorem law_calls {fs : List Fact} {σ : Nat → Int} (hfs : ∀ f, f ∈ fs → f.ok Tryz.prog σ) {N : Nat} {f : FuncId} {fn : Func} (hfn : (env fs).fn f = some fn) (hb : fn.body = some (fn.body.getD .skip)) {args : List AV} {v : AV} {h' : AH}
    (he : (fns (env fs) PV N).call (.func f [] []) args hL = some (v, h')) {us : Array Value} (hu : ∀ μ, VsRel σ μ args us.toList) {W : World} (hL : laidMetH Tryz.prog laidL W) :
    Calls Tryz.prog f us W fun e W' => (∃ μ q, e = .returned q ∧ VRel σ μ v q) ∧ Below W.heap.size W W' := by
  obtain ⟨c, t, hc, hw⟩ := of_laid hL
  have ok := env_ok fs σ hfs
  have rel := rel_hL (σ := σ) hc hw
  refine (calls_at ok (fns_ok ok (prims_ok ok) N) hfn hb he (μ := muL c.size) (w := W) (us := us) (fun g hg => ?_) rel (hu _)).mono fun e W' ⟨q, μ', h1, h2, h3, h4⟩ => ⟨⟨μ', q, h1, h2⟩, below_of_moves h3 h4 ?_⟩
  · have : g = 0 := by
      have : g < 1 := hg
      omega
    subst this
    exact ⟨c.size, rfl⟩
  · rintro b ⟨id, loc, o, hm, ho, hl, _⟩
    obtain ⟨rfl, rfl⟩ := tr_hL id o ho
    cases hl
end Go.Proofs.YtkdjcmpgnkecfaaGreatDoor
