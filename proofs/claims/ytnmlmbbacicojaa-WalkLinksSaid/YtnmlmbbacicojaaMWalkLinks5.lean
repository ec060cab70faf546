/-
  The plain law of WalkLinks: no program in sight.
-/
import Derived.Test.YtnmlmbbacicojaaMWalkLinks4
namespace Go.Proofs.Ytnmlmbbacicojaa.Pure
open Go.RowKit Go.Proofs.Ytnmlmbbacicojaa.PWalkSame Go.Proofs.YtnmlmbbacicojaaW.PrintWords Go.Proofs.YtnmlmbbacicojaaW.PrintLast
set_option linter.unusedVariables false
set_option linter.unusedSimpArgs false

set_option maxRecDepth 100000 in
theorem links_all : ∀ m : Fin 20, lockgatelaw20_WalkLinks.f 60 ((m.val : Int) + 1) = some true := by decide +kernel
theorem WalkLinks : lockgatelaw20_WalkLinks.Pure := by
  intro n hn
  have j0t : ∀ k, lockgatelaw20_WalkLinks.j0 (k + 1) n true true = some true := fun k => by rw [lockgatelaw20_WalkLinks.j0.eq_2, if_pos rfl]
  by_cases c1 : n < 1
  · exact ⟨1, by unfold lockgatelaw20_WalkLinks.f lockgatelaw20_alive.f; rw [Option.bind_some, if_pos rfl, if_pos c1, j0t]⟩
  · by_cases c2 : n > 20
    · exact ⟨1, by unfold lockgatelaw20_WalkLinks.f lockgatelaw20_alive.f; rw [Option.bind_some, if_pos rfl, if_neg c1, decide_eq_true c2, j0t]⟩
    · have h := links_all ⟨(n - 1).toNat, by omega⟩
      rw [show (((⟨(n - 1).toNat, by omega⟩ : Fin 20).val : Int) + 1) = n by dsimp only; omega] at h
      exact ⟨60, h⟩
end Go.Proofs.Ytnmlmbbacicojaa.Pure
