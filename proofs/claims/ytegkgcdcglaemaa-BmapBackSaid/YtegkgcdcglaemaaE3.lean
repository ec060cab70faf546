/-
  The walk of the law BmapBack: it answers true at every input.
-/
import Derived.Test.YtegkgcdcglaemaaD
namespace Go.Proofs.Ytegkgcdcglaemaa
set_option linter.unusedSimpArgs false
set_option linter.unusedVariables false
open Go.RowKit Go.Maps

set_option maxHeartbeats 1000000 in
theorem BmapBack_walk (w : World) (n : Int) (w0 : (Lit.int .i64 n).wf = true) :
    Calls Try.prog 6 #[.int .i64 n] w fun e w' => e = .returned (.bool true) ∧ Below w.heap.size w w' := by
  have hm := hide (i64_of_wf w0)
  clear w0
  rcases (show (n < 0 ∨ n ≥ 65800) ∨ (0 ≤ n ∧ n < 8) ∨ (8 ≤ n ∧ n < 264) ∨ (264 ≤ n ∧ n < 65800) by omega) with h0 | ⟨h0, h1⟩ | ⟨h0, h1⟩ | ⟨h0, h1⟩
  · have E := hide (show plN n = (0, 0, 0, false) by unfold plN; rw [if_pos h0])
    clear h0
    go_enter Try.func6, Try.ntmps6
    go_wp2_with (first | (go_at_call 8; refine (alive_c _).mono ?_; rintro e w1 ⟨rfl, hb⟩) | (go_at_call 11; refine (place_c _ _ hm.out.1 hm.out.2).mono ?_; rintro e w' ⟨rfl, rfl⟩; rw [E.out]; simp only [plV]))
    go_ret
    exact ⟨by simp, hb⟩

  · have E := hide (show plN n = (0, n, 0, true) by unfold plN; rw [if_neg (by omega), if_pos (by omega)])
    have F := hide (show fiN 0 n = (n, true) by unfold fiN; rw [if_pos (by omega)])
    go_enter Try.func6, Try.ntmps6
    go_wp2_with (first | (go_at_call 8; refine (alive_c _).mono ?_; rintro e w1 ⟨rfl, hb⟩) | (go_at_call 11; refine (place_c _ _ hm.out.1 hm.out.2).mono ?_; rintro e w' ⟨rfl, rfl⟩; rw [E.out]; simp only [plV]) | (go_at_call 13; refine (first_c 0 n _ (by omega) (by omega)).mono ?_; rintro e w' ⟨rfl, rfl⟩; rw [F.out]))
    go_ret
    exact ⟨by simp, hb⟩

  · have E := hide (show plN n = (1, n - 8, 0, true) by unfold plN; rw [if_neg (by omega), if_neg (by omega), if_pos (by omega)])
    have F := hide (show fiN 1 0 = (8, true) by decide)
    have G : (8 + (n - 8) == n) = true := by simp; omega
    go_enter Try.func6, Try.ntmps6
    go_wp2_with (first | (go_at_call 8; refine (alive_c _).mono ?_; rintro e w1 ⟨rfl, hb⟩) | (go_at_call 11; refine (place_c _ _ hm.out.1 hm.out.2).mono ?_; rintro e w' ⟨rfl, rfl⟩; rw [E.out]; simp only [plV]) | (go_at_call 13; refine (first_c 1 0 _ (by omega) (by omega)).mono ?_; rintro e w' ⟨rfl, rfl⟩; rw [F.out]))
    go_ret
    exact ⟨by simp, hb⟩

  · obtain ⟨q, r, hq, hq1, hr, hr1, hn⟩ : ∃ q r : Int, 0 ≤ q ∧ q < 256 ∧ 0 ≤ r ∧ r < 256 ∧ n = 264 + 256 * q + r := ⟨(n - 264) / 256, (n - 264) % 256, by omega, by omega, by omega, by omega, by omega⟩
    have E := hide (show plN n = (2, q, r, true) by
      unfold plN; rw [if_neg (by omega), if_neg (by omega), if_neg (by omega)]
      simp only [Prod.mk.injEq, true_and, and_true]
      constructor <;> omega)
    have F := hide (show fiN 2 q = (264 + 256 * q, true) by unfold fiN; rw [if_neg (by omega), if_neg (by omega), if_pos (by omega)])
    have G : (264 + 256 * q + r == n) = true := by simp; omega
    clear hn
    go_enter Try.func6, Try.ntmps6
    go_wp2_with (first | (go_at_call 8; refine (alive_c _).mono ?_; rintro e w1 ⟨rfl, hb⟩) | (go_at_call 11; refine (place_c _ _ hm.out.1 hm.out.2).mono ?_; rintro e w' ⟨rfl, rfl⟩; rw [E.out]; simp only [plV]) | (go_at_call 13; refine (first_c 2 q _ (by omega) (by omega)).mono ?_; rintro e w' ⟨rfl, rfl⟩; rw [F.out]))
    go_ret
    exact ⟨by simp, hb⟩

end Go.Proofs.Ytegkgcdcglaemaa
