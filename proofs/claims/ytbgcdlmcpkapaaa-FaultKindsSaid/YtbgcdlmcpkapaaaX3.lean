/-
  Data without memory: it reads alike in every world; how a struct of single cells is told apart.
-/
import Derived.Test.YtbgcdlmcpkapaaaX2
import Derived.Test.YtbgcdlmcpkapaaaRows
import Derived.WalkKit
import Derived.ProofKit
import Derived.OpenShut
import Derived.ChangeSame
import Derived.Deep.Fields
noncomputable section
namespace Go.Proofs.Ytbgcdlmcpkapaaa
open Go.Ev Go.ChangeShapes Go.WideShapes Go.ChangeAt Go.RowKit Go.Deep
set_option linter.unusedVariables false
set_option linter.unusedSimpArgs false

theorem own : ownKnob Try.prog.godebug = none := by kernel_rfl

section
variable {H : Type} {enc : TypeId × Value → H} {P : Program} {w w' : World} {base base' : Nat} {sp sp' : Nat → Bool} {held held' : Bool}

noncomputable def plainT (P : Program) : Nat → TypeId → Bool
  | 0, _ => false
  | d + 1, t => match P.underlying t with
    | some .bool => true
    | some (.int _) => true
    | some (.struct fs) => fs.toList.all fun f => plainT P d f.type
    | _ => false

theorem mapM_same {α β : Type} {f g : α → Option β} : ∀ {l : List α}, (∀ x, x ∈ l → f x = g x) → l.mapM f = l.mapM g
  | [], _ => rfl
  | x :: l, h => by
    rw [List.mapM_cons, List.mapM_cons, h x List.mem_cons_self, mapM_same fun y hy => h y (List.mem_cons_of_mem _ hy)]

theorem trod_plain : ∀ (d : Nat) (t : TypeId) (n : Nat) (cs : List Value), plainT P d t = true → DataW.trod enc P w base sp held n t cs = DataW.trod enc P w' base' sp' held' n t cs
  | 0, t, n, cs, hp => by cases hp
  | d + 1, t, 0, cs, hp => by simp only [DataW.trod]
  | d + 1, t, n + 1, cs, hp => by
    unfold plainT at hp
    cases hu : P.underlying t with
    | none => rw [hu] at hp; cases hp
    | some ty =>
      rw [hu] at hp
      cases ty <;> first | (cases hp; done) | skip
      · unfold DataW.trod
        rw [hu]
        rcases cs with _ | ⟨c, _ | ⟨c2, r⟩⟩ <;> first | rfl | (cases c <;> rfl)
      · unfold DataW.trod
        rw [hu]
        rcases cs with _ | ⟨c, _ | ⟨c2, r⟩⟩ <;> first | rfl | (cases c <;> rfl)
      · rename_i fs
        have hp' : ∀ f, f ∈ fs.toList → plainT P d f.type = true := List.all_eq_true.1 hp
        simp only [DataW.trod, hu]
        rw [mapM_same fun f hf => trod_plain d f.type n ((cs.drop f.offset).take (P.cellsOf f.type)) (hp' f hf)]

theorem trodAll_plain : ∀ {ts : List TypeId} {vs : List Value} {ds : List (DataW H)} {p : List MemPlace}, (∀ t, t ∈ ts → plainT P 3 t = true) → DataW.TrodAll enc P w base sp held ts vs ds p → DataW.TrodAll enc P w' base' sp' held' ts vs ds p
  | [], [], [], p, _, h => h
  | t :: ts, v :: vs, d :: ds, p, ht, ⟨p1, q1, ⟨n, hn⟩, h2, e⟩ =>
    ⟨p1, q1, ⟨n, by rw [← trod_plain (w := w) (base := base) (sp := sp) (held := held) 3 t n _ (ht t List.mem_cons_self)]; exact hn⟩, trodAll_plain (fun u hu => ht u (List.mem_cons_of_mem _ hu)) h2, e⟩

theorem open_cells {r : Reach} {b0 : Nat} {t : TypeId} {fs : Array Field} {v : Value} {d : DataW H} {p : List MemPlace} (hs : P.underlying t = some (.struct fs)) (hone : oneCellFields P fs = true)
    (hv : Value.okWide P w r b0 t v) (h : DataW.Trod enc P w base sp held t v d p) : ∃ l : List Value, v = .agg l.toArray ∧ l.length = P.cellsOf t ∧
      ∀ (i : Nat) (f : Field) (x : Value), fs[i]? = some f → l[i]? = some x → ∃ n y, DataW.trod enc P w base sp held n f.type [x] = some y := by
  obtain ⟨cs, rfl, hsz⟩ := okWide_struct hs hv
  obtain ⟨n, hn⟩ := h
  obtain ⟨xs, m, _, hx, hl, hlen, hg⟩ := DataW.trod_struct hs hn
  refine ⟨cs.toList, by simp, by simpa using hsz, fun i f x hf hi => ?_⟩
  obtain ⟨o, k⟩ := hone_of hone i f hf
  have hif : i < fs.size := (Array.getElem?_eq_some_iff.1 hf).1
  have h1 := hg i f hf
  rw [o, k] at h1
  have hil : i < cs.toList.length := (List.getElem?_eq_some_iff.1 hi).1
  have e : ((Value.agg cs).cells.toList.drop i).take 1 = [x] := by
    have e0 : (Value.agg cs).cells.toList = cs.toList := rfl
    rw [e0, List.drop_eq_getElem_cons hil]
    have := (List.getElem?_eq_some_iff.1 hi).2
    rw [this]
    rfl
  rw [e, List.getElem?_eq_getElem (by omega)] at h1
  exact ⟨m, _, h1⟩
end

theorem list5 {α : Type} : ∀ {l : List α}, l.length = 5 → ∃ a b c d e, l = [a, b, c, d, e]
  | [a, b, c, d, e], _ => ⟨a, b, c, d, e, rfl⟩
theorem list6 {α : Type} : ∀ {l : List α}, l.length = 6 → ∃ a b c d e f, l = [a, b, c, d, e, f]
  | [a, b, c, d, e, f], _ => ⟨a, b, c, d, e, f, rfl⟩

theorem cells23 : Try.prog.cellsOf 23 = 6 := by kernel_rfl
theorem cells25 : Try.prog.cellsOf 25 = 5 := by kernel_rfl
theorem cells27 : Try.prog.cellsOf 27 = 5 := by kernel_rfl

section
variable {H : Type} {enc : TypeId × Value → H} {w : World} {base : Nat} {sp : Nat → Bool} {held : Bool} {r : Reach} {b0 : Nat} {v : Value} {d : DataW H} {p : List MemPlace}
theorem int_of {n : Nat} {x : Value} {y : DataW H × List MemPlace} (h : DataW.trod enc Try.prog w base sp held n 3 [x] = some y) : ∃ a, x = .int .i64 a := by
  obtain ⟨a, e, _⟩ := DataW.trod_int Try.underlying3 h
  exact ⟨a, by simpa using e⟩
theorem bool_of {n : Nat} {x : Value} {y : DataW H × List MemPlace} (h : DataW.trod enc Try.prog w base sp held n 4 [x] = some y) : ∃ a, x = .bool a := by
  obtain ⟨a, e, _⟩ := DataW.trod_bool Try.underlying4 h
  exact ⟨a, by simpa using e⟩

theorem region_of (hv : Value.okWide Try.prog w r b0 23 v) (h : DataW.Trod enc Try.prog w base sp held 23 v d p) :
    ∃ a b c e f g, v = .agg #[.int .i64 a, .int .i64 b, .int .i64 c, .int .i64 e, .int .i64 f, .int .i64 g] := by
  obtain ⟨l, rfl, hl, hc⟩ := open_cells Try.underlying23 (by kernel_rfl) hv h
  obtain ⟨c0, c1, c2, c3, c4, c5, rfl⟩ := list6 (hl.trans cells23)
  obtain ⟨_, _, t0⟩ := hc 0 _ _ rfl rfl
  obtain ⟨_, _, t1⟩ := hc 1 _ _ rfl rfl
  obtain ⟨_, _, t2⟩ := hc 2 _ _ rfl rfl
  obtain ⟨_, _, t3⟩ := hc 3 _ _ rfl rfl
  obtain ⟨_, _, t4⟩ := hc 4 _ _ rfl rfl
  obtain ⟨_, _, t5⟩ := hc 5 _ _ rfl rfl
  obtain ⟨a0, rfl⟩ := int_of t0
  obtain ⟨a1, rfl⟩ := int_of t1
  obtain ⟨a2, rfl⟩ := int_of t2
  obtain ⟨a3, rfl⟩ := int_of t3
  obtain ⟨a4, rfl⟩ := int_of t4
  obtain ⟨a5, rfl⟩ := int_of t5
  exact ⟨_, _, _, _, _, _, rfl⟩

theorem slot_of (hv : Value.okWide Try.prog w r b0 25 v) (h : DataW.Trod enc Try.prog w base sp held 25 v d p) :
    ∃ a b c e f, v = .agg #[.bool a, .bool b, .bool c, .bool e, .int .i64 f] := by
  obtain ⟨l, rfl, hl, hc⟩ := open_cells Try.underlying25 (by kernel_rfl) hv h
  obtain ⟨c0, c1, c2, c3, c4, rfl⟩ := list5 (hl.trans cells25)
  obtain ⟨_, _, t0⟩ := hc 0 _ _ rfl rfl
  obtain ⟨_, _, t1⟩ := hc 1 _ _ rfl rfl
  obtain ⟨_, _, t2⟩ := hc 2 _ _ rfl rfl
  obtain ⟨_, _, t3⟩ := hc 3 _ _ rfl rfl
  obtain ⟨_, _, t4⟩ := hc 4 _ _ rfl rfl
  obtain ⟨a0, rfl⟩ := bool_of t0
  obtain ⟨a1, rfl⟩ := bool_of t1
  obtain ⟨a2, rfl⟩ := bool_of t2
  obtain ⟨a3, rfl⟩ := bool_of t3
  obtain ⟨a4, rfl⟩ := int_of t4
  exact ⟨_, _, _, _, _, rfl⟩

theorem ask_of (hv : Value.okWide Try.prog w r b0 27 v) (h : DataW.Trod enc Try.prog w base sp held 27 v d p) :
    ∃ a b c e f, v = .agg #[.bool a, .int .i64 b, .int .i64 c, .int .i64 e, .int .i64 f] := by
  obtain ⟨l, rfl, hl, hc⟩ := open_cells Try.underlying27 (by kernel_rfl) hv h
  obtain ⟨c0, c1, c2, c3, c4, rfl⟩ := list5 (hl.trans cells27)
  obtain ⟨_, _, t0⟩ := hc 0 _ _ rfl rfl
  obtain ⟨_, _, t1⟩ := hc 1 _ _ rfl rfl
  obtain ⟨_, _, t2⟩ := hc 2 _ _ rfl rfl
  obtain ⟨_, _, t3⟩ := hc 3 _ _ rfl rfl
  obtain ⟨_, _, t4⟩ := hc 4 _ _ rfl rfl
  obtain ⟨a0, rfl⟩ := bool_of t0
  obtain ⟨a1, rfl⟩ := int_of t1
  obtain ⟨a2, rfl⟩ := int_of t2
  obtain ⟨a3, rfl⟩ := int_of t3
  obtain ⟨a4, rfl⟩ := int_of t4
  exact ⟨_, _, _, _, _, rfl⟩
end
/-! ### the row's last step, where nothing handed in is memory -/
section
variable {H : Type} {enc : TypeId × Value → H} {P : Program} {w : World} {base : Nat} {sp : Nat → Bool} {held : Bool}
theorem places_plain : ∀ (d : Nat) (t : TypeId) (n : Nat) (cs : List Value) (x : DataW H × List MemPlace), plainT P d t = true → DataW.trod enc P w base sp held n t cs = some x → x.2 = []
  | 0, t, n, cs, x, hp, _ => by cases hp
  | d + 1, t, n, cs, x, hp, h => by
    unfold plainT at hp
    cases hu : P.underlying t with
    | none => rw [hu] at hp; cases hp
    | some ty =>
      rw [hu] at hp
      cases ty <;> first | (cases hp; done) | skip
      · obtain ⟨b, _, e⟩ := DataW.trod_bool hu h
        rw [e]
      · obtain ⟨b, _, e, _⟩ := DataW.trod_int hu h
        rw [e]
      · rename_i fs
        have hp' : ∀ f, f ∈ fs.toList → plainT P d f.type = true := List.all_eq_true.1 hp
        obtain ⟨xs, m, _, hx, _, hlen, hg⟩ := DataW.trod_struct hu h
        rw [hx]
        show xs.flatMap (·.2) = []
        rw [List.flatMap_eq_nil_iff]
        intro y hy
        obtain ⟨i, hi, e⟩ := List.getElem_of_mem hy
        have hf : fs[i]? = some fs[i] := Array.getElem?_eq_getElem (by omega)
        have h1 := hg i _ hf
        rw [List.getElem?_eq_getElem hi, e] at h1
        exact places_plain d _ m _ y (hp' _ (by simp)) h1

theorem placesAll_plain : ∀ {ts : List TypeId} {vs : List Value} {ds : List (DataW H)} {p : List MemPlace}, (∀ t, t ∈ ts → plainT P 3 t = true) → DataW.TrodAll enc P w base sp held ts vs ds p → p = []
  | [], [], [], p, _, h => h
  | t :: ts, v :: vs, d :: ds, p, ht, ⟨p1, q1, ⟨n, hn⟩, h2, e⟩ => by
    rw [e, placesAll_plain (fun u hu => ht u (List.mem_cons_of_mem _ hu)) h2]
    have := places_plain 3 t n _ _ (ht t List.mem_cons_self) hn
    simpa using this
end

/-- a law of plain data, whose call has told true and left what was there -/
theorem post_plain {H : Type} {enc : TypeId × Value → H} {P : Program} {f : Func} {s : ChangeSpec} {apart fresh handsOn again : Bool} {W W' : World} {args : Array Value} {ds : List (DataW H)} {p : List MemPlace} {bt : TypeId}
    (hA : DataW.TrodAll enc P W 0 (fun _ => true) true f.params.toList args.toList ds p) (hp : ∀ t, t ∈ f.params.toList → plainT P 3 t = true) (hvars : s.vars = [])
    (hr : f.resultTypes = #[bt]) (hbt : P.underlying bt = some .bool) (hs : ((s.fn H (ds ++ [])).results = [.lit (.bool true)]) ∧ (s.fn H (ds ++ [])).args = ds ∧ (s.fn H (ds ++ [])).vars = []) (hb : Below W.heap.size W W') :
    s.post enc P f apart fresh handsOn again W args (.bool true) W' := by
  have e0 := placesAll_plain hp hA
  subst e0
  have none : ∀ {w : World} {sp : Nat → Bool}, DataW.TrodVars enc P w sp s.vars [] [] := by intro w sp; rw [hvars]; rfl
  have res : ∀ (b : Nat) (sp : Nat → Bool) (hd : Bool), DataW.TrodAll enc P W' b sp hd f.resultTypes.toList ((Value.bool true).resultList f.resultTypes.size) [.lit (.bool true)] [] := by
    intro b sp hd
    rw [hr]
    exact trodAll_cons_mk (shut_bool hbt _) trodAll_mk0
  refine ⟨ds, [], [], [], [], [], ⟨[], [], hA, none, rfl, (by intro b off h; cases h), fun _ => List.nodup_nil⟩, ?_, ?_, ?_, hb.frame _, fun _ => ⟨?_, _, [], [], ⟨[], [], trodAll_append (trodAll_plain hp hA) (res 0 _ true), none, rfl, (by intro b off h; cases h), fun _ => List.nodup_nil⟩, fun _ h => by cases h⟩⟩
  · rw [hs.1]; exact res _ _ _
  · rw [hs.2.1]; exact trodAll_plain hp hA
  · rw [hs.2.2]; exact none
  · intro j t r h1 h2
    rw [hr] at h1 h2
    match j, h1, h2 with
    | 0, h1, h2 =>
      cases h1
      cases h2
      exact okWide_bool_mk hbt _
    | j + 1, h1, _ => simp at h1
end Go.Proofs.Ytbgcdlmcpkapaaa
