/-
  Regions that draw their order, whole; the evaluator is sound.
-/
import Derived.Test.YtkdjcmpgnkecfaaGreatDoorE26
noncomputable section
namespace Go.Ev
set_option linter.unusedVariables false
set_option linter.unusedSimpArgs false

section
variable {P : Program} {E : Env} {σ : Nat → Int} {F : Fns} {ops : Array Oper} {bs : List Nat} {S : Nat → St} {V : Nat → AV} {s : St} {μ₀ : Map} {w₀ : World}

theorem J.to (tx : Text E F ops bs s S V) {D : Nat → Bool} {μ : Map} {w : World} {a : Act} : ∀ (m q : Nat), ops.size - q ≤ m → J P E σ ops S V s μ₀ w₀ D q μ w a →
    ∃ p, J P E σ ops S V s μ₀ w₀ D p μ w a ∧ ∀ o, ops[p]? = some o → kindOf E o.op = .act
  | 0, q, hm, j => ⟨q, j, fun o ho => by have := (Array.getElem?_eq_some_iff.1 ho).1; omega⟩
  | m + 1, q, hm, j => by
    cases ho : ops[q]? with
    | none => exact ⟨q, j, fun o h => by rw [ho] at h; cases h⟩
    | some o =>
      have hq := (Array.getElem?_eq_some_iff.1 ho).1
      by_cases hk : kindOf E o.op = .act
      · exact ⟨q, j, fun o' h => by rw [ho] at h; cases h; exact hk⟩
      · exact J.to tx m (q + 1) (by omega) (j.next tx ho hk)

theorem acts_ordered (od : Order E ops bs) {i j : Nat} {x y : Oper} (hi : ops[i]? = some x) (hj : ops[j]? = some y) (hlt : i < j) (hx : kindOf E x.op = .act) (hy : kindOf E y.op = .act) : bitB (bs.getD j 0) i = true := by
  rcases od.pair i j x y hi hj hlt with h | h
  · exact h
  · have := h.1
    simp [isAct, hx, hy] at this

theorem J.one (ok : EnvOk P E σ) (fok : FnsOk P E σ F) (tx : Text E F ops bs s S V) {D : Nat → Bool} {q i : Nat} {μ : Map} {w : World} {a : Act} (j : J P E σ ops S V s μ₀ w₀ D q μ w a) {o : Oper}
    (hi : ops[i]? = some o) (hn : D i = false) (hr : ReadyAt ops D o) (b : Frame) (k : List Item) (cs : List Frame) (rest : List Nat) :
    ∃ p' μ' w' a', J P E σ ops S V s μ₀ w₀ (addD D i) p' μ' w' a' ∧ Steps P (lone (b.atR a (.inRegion ops (i :: rest) :: k)) cs w) (lone (b.atR a' (.inRegion ops rest :: k)) cs w') := by
  have hlt := (Array.getElem?_eq_some_iff.1 hi).1
  have st := tx.stp i o hi
  obtain ⟨e1, e2, e3⟩ := tx.shape i (by omega)
  have hag := regs_agree (r0 := s.r) (V := V) tx.od j.clo hi hr hn
  rw [← e3] at hag
  have hdst := st.dst
  rw [e1] at hdst
  have same : ∀ {p : Nat}, J P E σ ops S V s μ₀ w₀ D p μ w a → kindOf E o.op ≠ .act → (kindOf E o.op = .make → guardOk ops (S i).r o = true → False) →
      opStep E F ops o { r := regAt s.r ops V D ops.size, n := s.n, ds := s.ds, h := (S p).h } = some { r := setD (regAt s.r ops V D ops.size) o.dst (V i), n := s.n, ds := s.ds, h := (S p).h } →
      ∃ p' μ' w' a', J P E σ ops S V s μ₀ w₀ (addD D i) p' μ' w' a' ∧ Steps P (lone (b.atR a (.inRegion ops (i :: rest) :: k)) cs w) (lone (b.atR a' (.inRegion ops rest :: k)) cs w') := by
    intro p jp hna hnm hst
    refine ⟨p, jp.op ok fok tx hi hn hr hst (Nat.le_refl _) jp.le (fun x ox hx hkx => ?_) hnm b k cs rest⟩
    have : x ≠ i := fun e => by subst e; rw [hi] at hx; cases hx; exact hna hkx
    rw [addD_other D this]
    exact jp.acts x ox hx hkx
  have off : guardOk ops (S i).r o = false → kindOf E o.op ≠ .act →
      ∃ p' μ' w' a', J P E σ ops S V s μ₀ w₀ (addD D i) p' μ' w' a' ∧ Steps P (lone (b.atR a (.inRegion ops (i :: rest) :: k)) cs w) (lone (b.atR a' (.inRegion ops rest :: k)) cs w') := by
    intro hg hna
    refine same j hna (fun _ h => by rw [hg] at h; cases h) ?_
    unfold opStep
    simp only [hag.guard, hg]
    rw [setReg_of (s := { r := regAt s.r ops V D ops.size, n := s.n, ds := s.ds, h := (S q).h }) hdst, (st.off hg).1]
  cases hk : kindOf E o.op with
  | act =>
    have hact : ∀ x ox, ops[x]? = some ox → kindOf E ox.op = .act → x < i → D x = true := fun x ox hx hkx hxi => tx.od.ahead j.clo hi hr (acts_ordered tx.od hx hi hxi hkx hk)
    have hqi : q ≤ i := by
      rcases Nat.lt_or_ge i q with h | h
      · have := (j.acts i o hi hk).2 h
        rw [hn] at this
        cases this
      · exact h
    have ji := j.on tx (i - q) q (by omega) fun x ox hx h1 h2 hkx => by
      have := (j.acts x ox hx hkx).1 (hact x ox hx hkx (by omega))
      omega
    rw [show q + (i - q) = i by omega] at ji
    have hst := st.act hk (regAt s.r ops V D ops.size) hag
    rw [e1, e2] at hst
    refine ⟨i + 1, ji.op ok fok tx hi hn hr hst (Nat.le_succ _) hlt (fun x ox hx hkx => ?_) (fun h => by rw [hk] at h; cases h) b k cs rest⟩
    by_cases ex : x = i
    · subst ex
      rw [addD_at]
      simp
    · rw [addD_other D ex, ji.acts x ox hx hkx]
      omega
  | make =>
    cases hg : guardOk ops (S i).r o with
    | false => exact off hg (by rw [hk]; simp)
    | true => exact ⟨q, j.new ok tx hi hn hr hk hg b k cs rest⟩
  | look =>
    cases hg : guardOk ops (S i).r o with
    | false => exact off hg (by rw [hk]; simp)
    | true =>
      obtain ⟨p, jp, hp⟩ := j.to tx (ops.size - q) q (Nat.le_refl _)
      refine same jp (by rw [hk]; simp) (fun h => by rw [hk] at h; cases h) ?_
      have hw := tx.look i o hi hk hg
      have hsame := lookWin_spec (E := E) (D := fun x => D x = true) (p := p) (fun x hb => tx.od.ahead jp.clo hi hr hb)
        (fun x hx hb => by
          have hxn : x < ops.size ∨ ¬ x < ops.size := Nat.lt_or_ge x ops.size |>.imp id (fun h => by omega)
          rcases hxn with hxs | hxs
          · have hox : ops[x]? = some ops[x] := Array.getElem?_eq_getElem hxs
            have := tx.od.ahead jp.clo hox (jp.clo x _ hox hx) hb
            rw [hn] at this
            cases this
          · obtain ⟨_, h2⟩ := befores_pre ops.toList []
            rw [tx.od.bits] at hb
            have hlen : (befores ops.toList []).length = ops.size := by
              have : ∀ (l : List Oper) (acc : List Nat), (befores l acc).length = acc.length + l.length := by
                intro l
                induction l with
                | nil => intro acc; rfl
                | cons y ys ih => intro acc; simp only [befores, ih, List.length_append, List.length_cons, List.length_nil]; omega
              rw [this]; simp
            have : (befores ops.toList []).getD x 0 = 0 := by
              rw [List.getD_eq_getElem?_getD, List.getElem?_eq_none (by omega)]
              rfl
            rw [this, bitB_eq] at hb
            simp at hb)
        ops.toList 0 (by simp) (Nat.zero_le _) jp.le
        (fun x ox hx hlt' hkx => (jp.acts _ ox (by simpa using hx) hkx).2 (by simpa using hlt'))
        (fun x ox hx he => by
          have hx' : ops[x]? = some ox := by simpa using hx
          rw [Nat.zero_add] at he
          subst he
          refine ⟨hp ox hx', fun hD => ?_⟩
          have := (jp.acts x ox hx' (hp ox hx')).1 hD
          omega) hw
      unfold lookSame at hsame
      dsimp only at hsame
      split at hsame
      · rename_i v hv
        have ev := AV.beq_sound _ _ hsame
        subst ev
        have hl : lookOp E (regAt s.r ops V D ops.size) (S p).h o.op = some (V i) := by rw [lookOp_congr o.op hag.operand]; exact hv
        unfold opStep
        simp only [hag.guard, hg, opA, hk, hl, AN.ofO]
        rw [setReg_of (s := { r := regAt s.r ops V D ops.size, n := s.n, ds := s.ds, h := (S p).h }) hdst]
      · cases hsame

/-! ### all orders -/
theorem filter_less {p p' : Nat → Bool} {l : List Nat} {i : Nat} (hi : i ∈ l) (hp : p i = true) (hp' : p' i = false) (hle : ∀ x, p' x = true → p x = true) : (l.filter p').length < (l.filter p).length := by
  induction l with
  | nil => cases hi
  | cons y ys ih =>
    have hys : (ys.filter p').length ≤ (ys.filter p).length := by
      clear ih hi
      induction ys with
      | nil => simp
      | cons z zs ih =>
        simp only [List.filter_cons]
        cases h1 : p' z with
        | true => rw [hle z h1]; simpa using ih
        | false => cases h2 : p z <;> simp <;> omega
    simp only [List.filter_cons]
    rcases List.mem_cons.1 hi with rfl | hi
    · rw [hp, hp']
      simp
      omega
    · have := ih hi
      cases h1 : p' y with
      | true => rw [hle y h1]; simpa using this
      | false => cases h2 : p y <;> simp <;> omega

theorem smallest {D : Nat → Bool} : ∀ (m : Nat), (∃ i, i < m ∧ D i = false) → ∃ i, i < m ∧ D i = false ∧ ∀ x, x < i → D x = true
  | 0, ⟨i, h, _⟩ => by omega
  | m + 1, ⟨i, h, hd⟩ => by
    by_cases hex : ∃ i, i < m ∧ D i = false
    · obtain ⟨x, h1, h2, h3⟩ := smallest m hex
      exact ⟨x, by omega, h2, h3⟩
    · have him : i = m := by
        rcases Nat.lt_or_ge i m with h' | h'
        · exact absurd ⟨i, h', hd⟩ hex
        · omega
      refine ⟨i, h, hd, fun x hx => ?_⟩
      cases hD : D x with
      | true => rfl
      | false => exact absurd ⟨x, by omega, hD⟩ hex

theorem lin_done (tx : Text E F ops bs s S V) {D : Nat → Bool} {q : Nat} {μ : Map} {w : World} {a : Act} (j : J P E σ ops S V s μ₀ w₀ D q μ w a) (hall : ∀ i, i < ops.size → D i = true)
    (b : Frame) (k : List Item) (cs : List Frame) : Ends P E σ b μ₀ s.h w₀ (lone (b.atR a (.inRegion ops [] :: k)) cs w) k cs .normal (S ops.size) := by
  have hle := j.le
  have jn := j.on tx (ops.size - q) q (by omega) fun x ox hx h1 h2 hkx => by
    have := (j.acts x ox hx hkx).1 (hall x (Array.getElem?_eq_some_iff.1 hx).1)
    omega
  rw [show q + (ops.size - q) = ops.size by omega] at jn
  obtain ⟨e1, e2, e3⟩ := tx.shape ops.size (Nat.le_refl _)
  refine ⟨μ, w, a, jn.moves, jn.same, ⟨jn.g, jn.moves.rel, ?_, by rw [e2]; exact jn.defs⟩, .one stepR_region_end⟩
  rw [e1, e3, ← regs_all hall ops.size (Nat.le_refl _)]
  exact jn.regs

theorem lin_steps (ok : EnvOk P E σ) (fok : FnsOk P E σ F) (tx : Text E F ops bs s S V) (b : Frame) (k : List Item) (cs : List Frame) : ∀ (fuel t : Nat) (listed : Array Bool) (q : Nat) (μ : Map) (w : World) (a : Act),
    listed.size = ops.size → ((List.range ops.size).filter fun i => !listed.getD i false).length ≤ fuel → J P E σ ops S V s μ₀ w₀ (fun i => listed.getD i false) q μ w a →
      Ends P E σ b μ₀ s.h w₀ (lone (b.atR a (.inRegion ops (Region.linearise.go .any ops fuel t listed []) :: k)) cs w) k cs .normal (S ops.size) := by
  intro fuel
  induction fuel with
  | zero =>
    intro t listed q μ w a hsz hf j
    have hall : ∀ i, i < ops.size → listed.getD i false = true := fun i hi => by
      cases hD : listed.getD i false with
      | true => rfl
      | false =>
        have : i ∈ (List.range ops.size).filter fun i => !listed.getD i false := by
          rw [List.mem_filter]
          exact ⟨List.mem_range.2 hi, by simp only [hD]; rfl⟩
        rw [List.eq_nil_of_length_eq_zero (Nat.le_zero.1 hf)] at this
        cases this
    simp only [Region.linearise.go, List.reverse_nil]
    exact lin_done tx j hall b k cs
  | succ fuel ih =>
    intro t listed q μ w a hsz hf j
    simp only [Region.linearise.go]
    change Ends P E σ b μ₀ s.h w₀ (lone (b.atR a (.inRegion ops (match (Region.ready .any ops listed)[t % (Region.ready .any ops listed).length]? with
      | some i => Region.linearise.go .any ops fuel (t / (Region.ready .any ops listed).length) (listed.setIfInBounds i true) [i]
      | none => [].reverse) :: k)) cs w) k cs .normal (S ops.size)
    cases hi : (Region.ready .any ops listed)[t % (Region.ready .any ops listed).length]? with
    | none =>
      have hnil : Region.ready .any ops listed = [] := by
        cases hr : Region.ready .any ops listed with
        | nil => rfl
        | cons x xs =>
          rw [hr] at hi
          have hlt : t % (x :: xs).length < (x :: xs).length := Nat.mod_lt _ (by simp)
          simp at hi
          simp at hlt
          omega
      have hall : ∀ i, i < ops.size → listed.getD i false = true := fun i hi => by
        cases hD : listed.getD i false with
        | true => rfl
        | false =>
          obtain ⟨x, h1, h2, h3⟩ := smallest (D := fun i => listed.getD i false) ops.size ⟨i, hi, hD⟩
          have hx : x ∈ Region.ready .any ops listed := by
            rw [mem_ready]
            have hox : ops[x]? = some ops[x] := Array.getElem?_eq_getElem h1
            refine ⟨?_, _, hox, fun e he hb => h3 e.on (tx.od.edge x _ hox e he hb)⟩
            have hxs : x < listed.size := by omega
            simp [hxs] at h2 ⊢
            exact h2
          rw [hnil] at hx
          cases hx
      simp only [List.reverse_nil]
      exact lin_done tx j hall b k cs
    | some i =>
      obtain ⟨h0, o, ho, hall⟩ := mem_ready.1 (List.mem_of_getElem? hi)
      have hlt := (Array.getElem?_eq_some_iff.1 ho).1
      have hls : i < listed.size := by omega
      have hn : listed.getD i false = false := by simp [hls] at h0 ⊢; exact h0
      simp only
      rw [linearise_go_acc, List.reverse_singleton, List.singleton_append]
      obtain ⟨p', μ', w', a', j', hst⟩ := j.one ok fok tx ho hn (fun e he hb => hall e he hb) b k cs (Region.linearise.go .any ops fuel (t / (Region.ready .any ops listed).length) (listed.setIfInBounds i true) [])
      have hD : addD (fun i => listed.getD i false) i = fun x => (listed.setIfInBounds i true).getD x false := by
        funext x
        by_cases ex : x = i
        · subst ex
          rw [addD_at]
          simp [hls]
        · rw [addD_other _ ex, getD_set_ne false (Ne.symm ex)]
      rw [hD] at j'
      refine (ih _ (listed.setIfInBounds i true) p' μ' w' a' (by simpa using hsz) ?_ j').of_steps hst
      have := filter_less (p := fun x => !listed.getD x false) (p' := fun x => !(listed.setIfInBounds i true).getD x false) (l := List.range ops.size) (i := i) (List.mem_range.2 hlt) (by simp only [hn]; rfl) (by simp [hls])
        (fun x hx => by
          by_cases ex : x = i
          · subst ex; simp only [hn]; rfl
          · simpa only [getD_set_ne false (Ne.symm ex)] using hx)
      omega

theorem drawn_ok (ok : EnvOk P E σ) (fok : FnsOk P E σ F) : DrawnOk P E σ F := by
  intro ops s s' he μ w a b id k cs rel
  unfold evDrawn at he
  dsimp only at he
  replace he := bif_some he; obtain ⟨hstat, he⟩ := he
  split at he
  · rename_i s1 gs ls htr
    replace he := bif_some he; obtain ⟨hlook, he⟩ := he
    cases he
    obtain ⟨S, V, h1, h2, h3, h4, h5, h6⟩ := trace_ok ops.toList 0 _ [] [] _ gs ls htr
    rw [Nat.zero_add, Array.length_toList] at h2
    have spec := staticTo_spec ops.toList 0 hstat
    have tx : Text E F ops (befores ops.toList []) s S V :=
      { od :=
          { pair := fun i j x y hi hj hlt => by
              have := (spec j y (by simpa using hj)).2 i x hi (by omega)
              simpa using this
            edge := fun j o hj e he hb => by
              have := (spec j o (by simpa using hj)).1 e he hb
              omega
            bits := rfl }
        start := h1
        stp := fun k o hk => by
          have := h3 k o (by simpa using hk)
          simpa using this
        look := fun k o hk hkind hg => by
          have hin := h6 k o (by simpa using hk) hkind (by simpa using hg)
          rw [Nat.zero_add] at hin
          have := looksOk_spec hlook _ hin
          rw [h4, List.append_nil, List.reverse_reverse] at this
          rw [h2]
          exact this }
    have hbump : HRel σ μ (S 0).h w.heap := by
      rw [h1]
      exact
        { obj := rel.h.obj, inj := rel.h.inj, lt := rel.h.lt
          topμ := fun i hi => rel.h.topμ i (by simp only at hi; omega)
          toph := fun i hi => rel.h.toph i (by simp only at hi; omega) }
    have j0 : J P E σ ops S V s μ w (fun i => (Array.replicate ops.size false).getD i false) 0 μ { w with drawn := w.drawn + 1 } a :=
      { le := Nat.zero_le _
        acts := fun j o hj _ => by
          have := (Array.getElem?_eq_some_iff.1 hj).1
          simp [this]
        clo := fun j o hj hD => by
          have := (Array.getElem?_eq_some_iff.1 hj).1
          simp [this] at hD
        g := rel.g
        moves :=
          { ext := Ext.refl _, rel := hbump
            next := by rw [h1]; simp only; omega
            keptμ := fun _ _ h => h
            kept := fun _ _ _ => by rw [h1]
            size := Nat.le_refl _
            own := fun b hb ho => by rw [h1] at ho; exact ho
            frame := fun _ _ _ => rfl }
        same := ⟨rfl, rfl, rfl⟩
        nxt := by rw [h1]; simp
        non := fun i _ _ => rel.h.topμ _ (by omega)
        tr := fun i o f ob _ _ _ _ _ x hx => by
          rw [h1] at hx
          simp only at hx
          rw [rel.h.toph _ (by omega)] at hx
          cases hx
        put := fun i _ _ => by rw [h1]; exact rel.h.toph _ (by omega)
        made := fun i o f ob hi _ _ _ hD => by
          have := (Array.getElem?_eq_some_iff.1 hi).1
          simp [this] at hD
        bare := fun i loc _ hm => by rw [rel.h.topμ _ (by omega)] at hm; cases hm
        regs := by
          have : ∀ k, k ≤ ops.size → regAt s.r ops V (fun i => (Array.replicate ops.size false).getD i false) k = s.r := by
            intro k
            induction k with
            | zero => intro _; rfl
            | succ k ih =>
              intro hk
              have hk' : k < ops.size := hk
              simp only [regAt]
              rw [show (Array.replicate ops.size false).getD k false = false by simp [hk'], cond_false]
              exact ih (by omega)
          rw [this ops.size (Nat.le_refl _)]
          exact rel.r
        defs := rel.d }
    have hfin := lin_steps ok fok tx b k cs ops.size (w.tape w.drawn (.order b.fn id)) (Array.replicate ops.size false) 0 μ { w with drawn := w.drawn + 1 } a (by simp)
      (by have := List.length_filter_le (fun i => !(Array.replicate ops.size false).getD i false) (List.range ops.size); simpa using this) j0
    rw [h2] at hfin
    refine hfin.of_steps (.one ?_)
    have hstep := stepR_region_draw (P := P) (b := b) (a := a) (k := k) (cs := cs) (w := w) (ops := ops) (id := id)
    rw [hstep]
    simp only [Region.schedule, ok.mixed, Bool.true_or, if_true, Region.linearise]
  · cases he

/-- **the evaluator is sound** -/
theorem fns_ok {p : Prims} (ok : EnvOk P E σ) (pok : PrimsOk P E σ p) : ∀ n, FnsOk P E σ (fns E p n)
  | 0 => { code := fun ro c s x s' he => (by cases he), call := fun f args h v h' he => (by cases he) }
  | n + 1 => step_ok ok pok (fns_ok ok pok n) (drawn_ok ok (fns_ok ok pok n))
end
end Go.Ev
