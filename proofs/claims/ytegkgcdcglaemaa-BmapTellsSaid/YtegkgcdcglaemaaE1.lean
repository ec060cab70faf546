/-
  The walks of four laws of chapter 9: each answers true at every input.
-/
import Derived.Test.YtegkgcdcglaemaaD
namespace Go.Proofs.Ytegkgcdcglaemaa
set_option linter.unusedSimpArgs false
set_option linter.unusedVariables false
open Go.RowKit Go.Maps

/-! ### BmapTells -/

set_option maxHeartbeats 400000 in
theorem BmapTells_walk (w : World) (n : Int) (w0 : (Lit.int .i64 n).wf = true) (l : Int) (w1 : (Lit.int .i64 l).wf = true) (i : Int) (w2 : (Lit.int .i64 i).wf = true) (z : Int) (w3 : (Lit.int .i64 z).wf = true) :
    Calls Try.prog 7 #[.int .i64 n, .int .i64 l, .int .i64 i, .int .i64 z] w fun e w' => e = .returned (.bool true) ∧ Below w.heap.size w w' := by
  have h0 := hide (i64_of_wf w0)
  have h2 := hide (i64_of_wf w2)
  have h3 := hide (i64_of_wf w3)
  clear w0 w1 w2 w3
  rcases hEn : plN n with ⟨a, b, c, o⟩
  rcases hEf : fiN l i with ⟨x, y⟩
  have En := hide hEn
  have Ef := hide hEf
  clear hEn hEf
  go_enter Try.func7, Try.ntmps7
  go_wp2_with (first | (go_at_call 8; refine (alive_c _).mono ?_; rintro e w1 ⟨rfl, hb⟩) | (go_at_call 11; refine (place_c n _ h0.out.1 h0.out.2).mono ?_; rintro e w' ⟨rfl, rfl⟩; rw [En.out]; simp only [plV]) | (go_at_call 14; refine (placeR_c n _ h0.out.1 h0.out.2).mono ?_; rintro e w' ⟨rfl, rfl⟩; rw [En.out]; simp only [plV]) | (go_at_call 13; refine (first_c l i _ h2.out.1 h2.out.2).mono ?_; rintro e w' ⟨rfl, rfl⟩; rw [Ef.out]) | (go_at_call 15; refine (firstR_c l i _ h2.out.1 h2.out.2).mono ?_; rintro e w' ⟨rfl, rfl⟩; rw [Ef.out]) | (go_at_call 12; refine (count_c z _ h3.out.1 h3.out.2).mono ?_; rintro e w' ⟨rfl, rfl⟩) | (go_at_call 16; refine (countR_c z _ h3.out.1 h3.out.2).mono ?_; rintro e w' ⟨rfl, rfl⟩))
  go_ret
  exact ⟨by simp, hb⟩

end Go.Proofs.Ytegkgcdcglaemaa
