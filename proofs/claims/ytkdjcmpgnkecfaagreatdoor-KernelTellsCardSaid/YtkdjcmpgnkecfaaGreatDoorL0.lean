/-
  The evaluator with more fuel answers the same; calls with fuel enough.
-/
import Derived.Test.YtkdjcmpgnkecfaaGreatDoorE28
noncomputable section
namespace Go.Ev
set_option linter.unusedVariables false

structure Le (F G : Fns) : Prop where
  call : ∀ f a h r, F.call f a h = some r → G.call f a h = some r
  code : ∀ ro c s r, F.code ro c s = some r → G.code ro c s = some r

section
variable {E : Env} {F G : Fns}
theorem opStep_mono (le : Le F G) {ops : Array Oper} {o : Oper} {s s' : St} (h : opStep E F ops o s = some s') : opStep E G ops o s = some s' := by
  unfold opStep at h ⊢
  split at h
  · exact h
  · split at h
    · exact h
    · exact h
    · rename_i f args hc
      cases hf : F.call f args s.h with
      | none => rw [hf] at h; cases h
      | some r => rw [le.call _ _ _ _ hf]; rw [hf] at h; exact h
    · cases h

theorem evOps_mono (le : Le F G) {ops : Array Oper} : ∀ {l : List Oper} {s s' : St}, evOps E F ops l s = some s' → evOps E G ops l s = some s'
  | [], s, s', h => h
  | o :: rest, s, s', h => by
    unfold evOps at h ⊢
    cases ho : opStep E F ops o s with
    | none => rw [ho] at h; cases h
    | some s1 => rw [opStep_mono le ho]; rw [ho] at h; exact evOps_mono le h

theorem evTrace_mono (le : Le F G) {ops : Array Oper} {base : Nat} : ∀ {l : List Oper} {i : Nat} {s : St} {gs : List (Nat × AH)} {ls : List Seen} {r}, evTrace E F ops base l i s gs ls = some r → evTrace E G ops base l i s gs ls = some r
  | [], i, s, gs, ls, r, h => h
  | o :: rest, i, s, gs, ls, r, h => by
    unfold evTrace at h ⊢
    split at h
    · rename_i hk
      cases ho : opStep E F ops o s with
      | none => rw [ho] at h; cases h
      | some s1 => rw [opStep_mono le ho]; rw [ho] at h; exact evTrace_mono le h
    · rename_i hk hg
      split at h
      · split at h
        · exact evTrace_mono le h
        · cases h
      · cases h
    · split at h
      · split at h
        · exact evTrace_mono le h
        · cases h
      · cases h
    · split at h
      · exact evTrace_mono le h
      · cases h

theorem evDrawn_mono (le : Le F G) {ops : Array Oper} {s s' : St} (h : evDrawn E F ops s = some s') : evDrawn E G ops s = some s' := by
  unfold evDrawn at h ⊢
  dsimp only at h ⊢
  cases hs : staticTo E ops (befores ops.toList []) ops.toList 0 with
  | false => rw [hs] at h; cases h
  | true =>
    rw [hs] at h
    dsimp only [cond] at h ⊢
    split at h
    · rename_i heq
      rw [evTrace_mono le heq]
      exact h
    · cases h

theorem loopN_mono {f g : St → Option (AX × St)} (le : ∀ s r, f s = some r → g s = some r) : ∀ {k : Nat} {s : St} {r}, loopN k f s = some r → loopN k g s = some r
  | 0, s, r, h => le s r h
  | k + 1, s, r, h => by
    unfold loopN at h ⊢
    cases hl : loopN k f s with
    | none => rw [hl] at h; cases h
    | some q =>
      rw [loopN_mono le hl]
      rw [hl] at h
      obtain ⟨x, s1⟩ := q
      cases x <;> first | exact loopN_mono le h | exact h

theorem scopeN_mono (le : Le F G) {ro : Option Nat} {body : Code} : ∀ {k : Nat} {c : Code} {s : St} {r}, scopeN F ro body k c s = some r → scopeN G ro body k c s = some r
  | 0, c, s, r, h => by cases h
  | k + 1, c, s, r, h => by
    unfold scopeN at h ⊢
    cases hl : F.code ro c s with
    | none => rw [hl] at h; cases h
    | some q =>
      rw [le.code _ _ _ _ hl]
      rw [hl] at h
      obtain ⟨x, s1⟩ := q
      cases x <;> first | exact h | skip
      dsimp only at h ⊢
      split at h
      · exact scopeN_mono le h
      · exact h

theorem rangeTail_mono (le : Le F G) {ro : Option Nat} {fv : AV} {params : Array Tmp} {assign body : Code} {d : Nat} {s : St} {r} (h : rangeTail F ro fv params assign body d s = some r) : rangeTail G ro fv params assign body d s = some r := by
  unfold rangeTail at h ⊢
  cases hl : F.call fv [.yield s.h.next] (s.h.new (.loop .ready none s.n s.r params assign body d)) with
  | none => rw [hl] at h; cases h
  | some q =>
    rw [le.call _ _ _ _ hl]
    rw [hl] at h
    obtain ⟨v, g⟩ := q
    dsimp only at h ⊢
    split at h
    · split at h
      · cases h
      · split at h
        · exact h
        · exact le.code _ _ _ _ h
    · cases h

theorem codeStep_mono (le : Le F G) {ro : Option Nat} {c : Code} {s : St} {r} (h : codeStep E F ro c s = some r) : codeStep E G ro c s = some r := by
  unfold codeStep at h ⊢
  cases c with
  | skip => exact h
  | label => exact h
  | exit => exact h
  | goto => exact h
  | ret => exact h
  | refuse => cases h
  | seq a b =>
    dsimp only at h ⊢
    cases hl : F.code ro a s with
    | none => rw [hl] at h; cases h
    | some q =>
      rw [le.code _ _ _ _ hl]
      rw [hl] at h
      obtain ⟨x, s1⟩ := q
      cases x <;> first | exact h | exact le.code _ _ _ _ h
  | cond x a b =>
    dsimp only at h ⊢
    split at h
    · exact le.code _ _ _ _ h
    · exact le.code _ _ _ _ h
    · cases h
  | block id b =>
    dsimp only at h ⊢
    cases hl : F.code ro b s with
    | none => rw [hl] at h; cases h
    | some q =>
      rw [le.code _ _ _ _ hl]
      rw [hl] at h
      exact h
  | loop b =>
    dsimp only at h ⊢
    cases hl : loopN 14 (F.code ro b) s with
    | none => rw [hl] at h; cases h
    | some q =>
      rw [loopN_mono (fun s r => le.code ro b s r) hl]
      rw [hl] at h
      exact h
  | scope b => exact scopeN_mono le h
  | region i ops d =>
    cases d with
    | false =>
      dsimp only at h ⊢
      cases hl : evOps E F ops ops.toList s with
      | none => rw [hl] at h; cases h
      | some q => rw [evOps_mono le hl]; rw [hl] at h; exact h
    | true =>
      dsimp only at h ⊢
      cases hl : evDrawn E F ops s with
      | none => rw [hl] at h; cases h
      | some q => rw [evDrawn_mono le hl]; rw [hl] at h; exact h
  | rangeFunc f ps a b =>
    dsimp only at h ⊢
    split at h
    · cases h
    · split at h
      · cases h
      · exact rangeTail_mono le h

theorem callStep_mono (le : Le F G) {f : AV} {args : List AV} {h : AH} {r} (hh : callStep E F f args h = some r) : callStep E G f args h = some r := by
  unfold callStep at hh ⊢
  split at hh
  · split at hh
    · cases hh
    · split at hh
      · cases hh
      · rename_i f first captured fn hf body hb
        dsimp only at hh ⊢
        split at hh
        · rename_i x s hc
          rw [le.code _ _ _ _ hc]
          exact hh
        · cases hh
  · split at hh
    · split at hh
      · cases hh
      · split at hh
        · rename_i hc1
          rw [le.code _ _ _ _ hc1]
          dsimp only at hh ⊢
          split at hh
          · split at hh
            · rename_i hc2
              rw [le.code _ _ _ _ hc2]
              exact hh
            · cases hh
          · cases hh
        · cases hh
    · cases hh
  · cases hh

theorem fnsStep_mono {p : Prims} (le : Le F G) : Le (fnsStep E p F) (fnsStep E p G) where
  call := fun f a h r hh => by
    show callPrim E p G f a h = some r
    have hh : callPrim E p F f a h = some r := hh
    unfold callPrim at hh ⊢
    split at hh
    · split at hh
      · split at hh
        · exact hh
        · exact callStep_mono le hh
      · exact callStep_mono le hh
    · exact callStep_mono le hh
  code := fun ro c s r hh => codeStep_mono le hh
end

theorem fns_le_succ (E : Env) (p : Prims) : ∀ n, Le (fns E p n) (fns E p (n + 1))
  | 0 => ⟨(fun _ _ _ _ h => by cases h), (fun _ _ _ _ h => by cases h)⟩
  | n + 1 => fnsStep_mono (fns_le_succ E p n)

theorem Le.trans {F G H : Fns} (a : Le F G) (b : Le G H) : Le F H := ⟨fun f x h r hh => b.call _ _ _ _ (a.call f x h r hh), fun ro c s r hh => b.code _ _ _ _ (a.code ro c s r hh)⟩

theorem fns_le (E : Env) (p : Prims) {n m : Nat} (h : n ≤ m) : Le (fns E p n) (fns E p m) := by
  induction h with
  | refl => exact ⟨fun _ _ _ _ h => h, fun _ _ _ _ h => h⟩
  | step _ ih => exact ih.trans (fns_le_succ E p _)

/-- what a call comes to, with fuel enough -/
def call (E : Env) (p : Prims) (f : AV) (args : List AV) (h : AH) : Option (AV × AH) := by
  classical
  exact if hx : ∃ r n, (fns E p n).call f args h = some r then some (Classical.choose hx) else none

/-- what code comes to, with fuel enough -/
def Goes (E : Env) (p : Prims) (ro : Option Nat) (c : Code) (s : St) (x : AX) (s' : St) : Prop := ∃ n, (fns E p n).code ro c s = some (x, s')

theorem call_some {E : Env} {p : Prims} {f : AV} {args : List AV} {h : AH} {r : AV × AH} : call E p f args h = some r ↔ ∃ n, (fns E p n).call f args h = some r := by
  unfold call
  constructor
  · intro hc
    split at hc
    · rename_i hx
      have := Classical.choose_spec hx
      simp only [Option.some.injEq] at hc
      rw [hc] at this
      exact this
    · cases hc
  · rintro ⟨n, hn⟩
    have hx : ∃ r n, (fns E p n).call f args h = some r := ⟨r, n, hn⟩
    rw [dif_pos hx]
    obtain ⟨m, hm⟩ := Classical.choose_spec hx
    have h1 := (fns_le E p (Nat.le_max_left m n)).call _ _ _ _ hm
    have h2 := (fns_le E p (Nat.le_max_right m n)).call _ _ _ _ hn
    rw [h1] at h2
    exact h2

end Go.Ev
