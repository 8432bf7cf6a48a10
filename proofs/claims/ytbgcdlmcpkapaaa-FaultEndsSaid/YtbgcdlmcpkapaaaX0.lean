/-
  The tables of the seat's functions and types.
-/
import Derived.Test.YtbgcdlmcpkapaaaE29
import Derived.Test.YtbgcdlmcpkapaaaProg
import Derived.KernelRfl
noncomputable section
namespace Go.Proofs.Ytbgcdlmcpkapaaa
open Go.Ev

noncomputable def tys : List (TypeId × TyI) :=
  [(3, mkTy Try.prog 3), (4, mkTy Try.prog 4), (22, mkTy Try.prog 22), (23, mkTy Try.prog 23), (24, mkTy Try.prog 24), (25, mkTy Try.prog 25), (26, mkTy Try.prog 26), (27, mkTy Try.prog 27),
   (31, mkTy Try.prog 31), (38, mkTy Try.prog 38), (39, mkTy Try.prog 39), (41, mkTy Try.prog 41)]

theorem tys_now : TysNow Try.prog tys := by
  refine ⟨?_, ?_, ?_, ?_, ?_, ?_, ?_, ?_, ?_, ?_, ?_, ?_, trivial⟩
  all_goals exact ⟨by kernel_rfl, by kernel_rfl, by kernel_rfl, by kernel_rfl, by kernel_rfl, by kernel_rfl, by kernel_rfl⟩

noncomputable def fnl : List (FuncId × Func) :=
  [(3, Try.f3), (4, Try.f4), (5, Try.f5), (6, Try.f6), (7, Try.f7), (8, Try.f8), (9, Try.f9), (10, Try.f10), (11, Try.f11), (12, Try.f12), (13, Try.f13), (14, Try.f14), (15, Try.f15), (16, Try.f16),
   (17, Try.f17), (18, Try.f18), (19, Try.f19), (20, Try.f20), (21, Try.f21)]

theorem fnl_now : FnsNow Try.prog fnl :=
  ⟨⟨Try.func3, by kernel_rfl⟩, ⟨Try.func4, by kernel_rfl⟩, ⟨Try.func5, by kernel_rfl⟩, ⟨Try.func6, by kernel_rfl⟩, ⟨Try.func7, by kernel_rfl⟩, ⟨Try.func8, by kernel_rfl⟩, ⟨Try.func9, by kernel_rfl⟩,
   ⟨Try.func10, by kernel_rfl⟩, ⟨Try.func11, by kernel_rfl⟩, ⟨Try.func12, by kernel_rfl⟩, ⟨Try.func13, by kernel_rfl⟩, ⟨Try.func14, by kernel_rfl⟩, ⟨Try.func15, by kernel_rfl⟩, ⟨Try.func16, by kernel_rfl⟩,
   ⟨Try.func17, by kernel_rfl⟩, ⟨Try.func18, by kernel_rfl⟩, ⟨Try.func19, by kernel_rfl⟩, ⟨Try.func20, by kernel_rfl⟩, ⟨Try.func21, by kernel_rfl⟩, trivial⟩

noncomputable def env (fs : List Fact) : Env := { fn := fnsOf fnl, ty := tysOf tys, facts := fs, ng := 0 }

theorem env_ok (fs : List Fact) (σ : Nat → Int) (h : ∀ f, f ∈ fs → f.ok Try.prog σ) : EnvOk Try.prog (env fs) σ where
  fn := fnsOf_ok fnl_now
  ty := tys_ok tys_now
  facts := h
  mixed := by kernel_rfl

/-- the chapter's example -/
theorem awake_ev : ((fns (env []) (primsOf []) 60).call (.func 9 [] []) [] AH.none).map (·.1) = some (.bool true) := by kernel_rfl
end Go.Proofs.Ytbgcdlmcpkapaaa
