/-
  Contracts of the functions of chapter 9 that only reckon with numbers: Place, First, Count and the document's own three. No condition.
-/
import Derived.Test.YtegkgcdcglaemaaProg
import Derived.WalkKit
import Derived.Test.YtegkgcdcglaemaaG
namespace Go.Proofs.Ytegkgcdcglaemaa
set_option linter.unusedSimpArgs false
set_option linter.unusedVariables false
open Go.RowKit

/-- what Place answers -/
def plN (n : Int) : Int × Int × Int × Bool :=
  if n < 0 ∨ n ≥ 65800 then (0, 0, 0, false)
  else if n < 8 then (0, n, 0, true)
  else if n < 264 then (1, n - 8, 0, true)
  else (2, (n - 264) / 256, (n - 264) % 256, true)
def plV (p : Int × Int × Int × Bool) : Value := .tuple #[.int .i64 p.1, .int .i64 p.2.1, .int .i64 p.2.2.1, .bool p.2.2.2]
/-- what First answers -/
def fiN (l i : Int) : Int × Bool :=
  if l = 0 ∧ 0 ≤ i ∧ i < 8 then (i, true)
  else if l = 1 ∧ i = 0 then (8, true)
  else if l = 2 ∧ 0 ≤ i ∧ i < 256 then (264 + 256 * i, true)
  else (0, false)
/-- what Count answers -/
def coN (n : Int) : Int := if n < 0 ∨ n > 67379200 then 0 else (n + 1023) / 1024

theorem place_c (n : Int) (w : World) (h1 : -9223372036854775808 ≤ n) (h2 : n ≤ 9223372036854775807) :
    Calls Try.prog 11 #[.int .i64 n] w fun e w' => e = .returned (plV (plN n)) ∧ w = w' := by
  by_cases a : n < 0
  · have E := hide (show plN n = (0, 0, 0, false) by unfold plN; rw [if_pos (by omega)])
    go_enter Try.func11, Try.ntmps11
    go_wp2
    refine bodyPost_ret (results_tmp4 rfl _ _ _) rfl ?_
    exact ⟨by rw [E.out]; rfl, rfl⟩
  · by_cases b : n ≥ 65800
    · have E := hide (show plN n = (0, 0, 0, false) by unfold plN; rw [if_pos (by omega)])
      go_enter Try.func11, Try.ntmps11
      go_wp2
      refine bodyPost_ret (results_tmp4 rfl _ _ _) rfl ?_
      exact ⟨by rw [E.out]; rfl, rfl⟩
    · have b' : n < 65800 := by omega
      have a' : 0 ≤ n := by omega
      by_cases c : n < 8
      · have E := hide (show plN n = (0, n, 0, true) by unfold plN; rw [if_neg (by omega), if_pos (by omega)])
        go_enter Try.func11, Try.ntmps11
        go_wp2
        refine bodyPost_ret (results_tmp4 rfl _ _ _) rfl ?_
        exact ⟨by rw [E.out]; rfl, rfl⟩
      · by_cases d : n < 264
        · have E := hide (show plN n = (1, n - 8, 0, true) by unfold plN; rw [if_neg (by omega), if_neg (by omega), if_pos (by omega)])
          go_enter Try.func11, Try.ntmps11
          go_wp2
          refine bodyPost_ret (results_tmp4 rfl _ _ _) rfl ?_
          exact ⟨by rw [E.out]; rfl, rfl⟩
        · have d' : 264 ≤ n := by omega
          have E := hide (show plN n = (2, (n - 264) / 256, (n - 264) % 256, true) by unfold plN; rw [if_neg (by omega), if_neg (by omega), if_neg (by omega)])
          go_enter Try.func11, Try.ntmps11
          go_wp2
          refine bodyPost_ret (results_tmp4 rfl _ _ _) rfl ?_
          exact ⟨by rw [E.out]; rfl, rfl⟩

theorem placeR_c (n : Int) (w : World) (h1 : -9223372036854775808 ≤ n) (h2 : n ≤ 9223372036854775807) :
    Calls Try.prog 14 #[.int .i64 n] w fun e w' => e = .returned (plV (plN n)) ∧ w = w' := by
  by_cases a : n < 0
  · have E := hide (show plN n = (0, 0, 0, false) by unfold plN; rw [if_pos (by omega)])
    go_enter Try.func14, Try.ntmps14
    go_wp2
    refine bodyPost_ret (results_tmp4 rfl _ _ _) rfl ?_
    exact ⟨by rw [E.out]; rfl, rfl⟩
  · by_cases b : n ≥ 65800
    · have E := hide (show plN n = (0, 0, 0, false) by unfold plN; rw [if_pos (by omega)])
      go_enter Try.func14, Try.ntmps14
      go_wp2
      refine bodyPost_ret (results_tmp4 rfl _ _ _) rfl ?_
      exact ⟨by rw [E.out]; rfl, rfl⟩
    · have b' : n < 65800 := by omega
      have a' : 0 ≤ n := by omega
      by_cases c : n < 8
      · have E := hide (show plN n = (0, n, 0, true) by unfold plN; rw [if_neg (by omega), if_pos (by omega)])
        go_enter Try.func14, Try.ntmps14
        go_wp2
        refine bodyPost_ret (results_tmp4 rfl _ _ _) rfl ?_
        exact ⟨by rw [E.out]; rfl, rfl⟩
      · by_cases d : n < 264
        · have E := hide (show plN n = (1, n - 8, 0, true) by unfold plN; rw [if_neg (by omega), if_neg (by omega), if_pos (by omega)])
          go_enter Try.func14, Try.ntmps14
          go_wp2
          refine bodyPost_ret (results_tmp4 rfl _ _ _) rfl ?_
          exact ⟨by rw [E.out]; rfl, rfl⟩
        · have d' : 264 ≤ n := by omega
          have E := hide (show plN n = (2, (n - 264) / 256, (n - 264) % 256, true) by unfold plN; rw [if_neg (by omega), if_neg (by omega), if_neg (by omega)])
          go_enter Try.func14, Try.ntmps14
          go_wp2
          refine bodyPost_ret (results_tmp4 rfl _ _ _) rfl ?_
          exact ⟨by rw [E.out]; rfl, rfl⟩

theorem count_c (n : Int) (w : World) (h1 : -9223372036854775808 ≤ n) (h2 : n ≤ 9223372036854775807) :
    Calls Try.prog 12 #[.int .i64 n] w fun e w' => e = .returned (.int .i64 (coN n)) ∧ w = w' := by
  by_cases a : n < 0
  · have E := hide (show coN n = 0 by unfold coN; rw [if_pos (by omega)])
    go_enter Try.func12, Try.ntmps12
    go_wp2
    go_ret
    exact ⟨by rw [E.out]; rfl, rfl⟩
  · by_cases b : n > 67379200
    · have E := hide (show coN n = 0 by unfold coN; rw [if_pos (by omega)])
      go_enter Try.func12, Try.ntmps12
      go_wp2
      go_ret
      exact ⟨by rw [E.out]; rfl, rfl⟩
    · have b' : n ≤ 67379200 := by omega
      have a' : 0 ≤ n := by omega
      have E := hide (show coN n = (n + 1024 - 1) / 1024 by unfold coN; rw [if_neg (by omega)]; congr 1; omega)
      go_enter Try.func12, Try.ntmps12
      go_wp2
      go_ret
      exact ⟨by rw [E.out]; rfl, rfl⟩

theorem countR_c (n : Int) (w : World) (h1 : -9223372036854775808 ≤ n) (h2 : n ≤ 9223372036854775807) :
    Calls Try.prog 16 #[.int .i64 n] w fun e w' => e = .returned (.int .i64 (coN n)) ∧ w = w' := by
  by_cases a : n < 0
  · have E := hide (show coN n = 0 by unfold coN; rw [if_pos (by omega)])
    go_enter Try.func16, Try.ntmps16
    go_wp2
    go_ret
    exact ⟨by rw [E.out]; rfl, rfl⟩
  · by_cases b : n > 67379200
    · have E := hide (show coN n = 0 by unfold coN; rw [if_pos (by omega)])
      go_enter Try.func16, Try.ntmps16
      go_wp2
      go_ret
      exact ⟨by rw [E.out]; rfl, rfl⟩
    · have b' : n ≤ 67379200 := by omega
      have a' : 0 ≤ n := by omega
      have E := hide (show coN n = (n + 1024 - 1) / 1024 by unfold coN; rw [if_neg (by omega)]; congr 1; omega)
      go_enter Try.func16, Try.ntmps16
      go_wp2
      go_ret
      exact ⟨by rw [E.out]; rfl, rfl⟩

theorem first_c (l i : Int) (w : World) (h1 : -9223372036854775808 ≤ i) (h2 : i ≤ 9223372036854775807) :
    Calls Try.prog 13 #[.int .i64 l, .int .i64 i] w fun e w' => e = .returned (.tuple #[.int .i64 (fiN l i).1, .bool (fiN l i).2]) ∧ w = w' := by
  by_cases l0 : l = 0
  · subst l0
    rcases (show i < 0 ∨ 8 ≤ i ∨ (0 ≤ i ∧ i < 8) by omega) with a | a | ⟨a, b⟩
    · have E := hide (show fiN 0 i = (0, false) by unfold fiN; rw [if_neg (by omega), if_neg (by omega), if_neg (by omega)])
      go_enter Try.func13, Try.ntmps13
      go_wp2
      go_ret2
      exact ⟨by rw [E.out]; rfl, rfl⟩
    · have a' : 0 ≤ i := by omega
      have E := hide (show fiN 0 i = (0, false) by unfold fiN; rw [if_neg (by omega), if_neg (by omega), if_neg (by omega)])
      go_enter Try.func13, Try.ntmps13
      go_wp2
      go_ret2
      exact ⟨by rw [E.out]; rfl, rfl⟩
    · have E := hide (show fiN 0 i = (i, true) by unfold fiN; rw [if_pos (by omega)])
      go_enter Try.func13, Try.ntmps13
      go_wp2
      go_ret2
      exact ⟨by rw [E.out]; rfl, rfl⟩
  · have l0' : (l == 0) = false := by simpa using l0
    by_cases l1 : l = 1
    · subst l1
      by_cases a : i = 0
      · subst a
        have E := hide (show fiN 1 0 = (8, true) by decide)
        go_enter Try.func13, Try.ntmps13
        go_wp2
        go_ret2
        exact ⟨by rw [E.out]; rfl, rfl⟩
      · have a' : (i == 0) = false := by simpa using a
        have E := hide (show fiN 1 i = (0, false) by unfold fiN; rw [if_neg (by omega), if_neg (by omega), if_neg (by omega)])
        clear a
        go_enter Try.func13, Try.ntmps13
        go_wp2
        go_ret2
        exact ⟨by rw [E.out]; rfl, rfl⟩
    · have l1' : (l == 1) = false := by simpa using l1
      by_cases l2 : l = 2
      · subst l2
        clear l0 l1 l0' l1'
        rcases (show i < 0 ∨ 256 ≤ i ∨ (0 ≤ i ∧ i < 256) by omega) with a | a | ⟨a, b⟩
        · have E := hide (show fiN 2 i = (0, false) by unfold fiN; rw [if_neg (by omega), if_neg (by omega), if_neg (by omega)])
          go_enter Try.func13, Try.ntmps13
          go_wp2
          go_ret2
          exact ⟨by rw [E.out]; rfl, rfl⟩
        · have a' : 0 ≤ i := by omega
          have E := hide (show fiN 2 i = (0, false) by unfold fiN; rw [if_neg (by omega), if_neg (by omega), if_neg (by omega)])
          go_enter Try.func13, Try.ntmps13
          go_wp2
          go_ret2
          exact ⟨by rw [E.out]; rfl, rfl⟩
        · have E := hide (show fiN 2 i = (264 + i * 256, true) by unfold fiN; rw [if_neg (by omega), if_neg (by omega), if_pos (by omega)]; try rw [Int.mul_comm])
          go_enter Try.func13, Try.ntmps13
          go_wp2
          go_ret2
          exact ⟨by rw [E.out]; rfl, rfl⟩
      · have l2' : (l == 2) = false := by simpa using l2
        have E := hide (show fiN l i = (0, false) by unfold fiN; rw [if_neg (by omega), if_neg (by omega), if_neg (by omega)])
        clear l0 l1 l2
        go_enter Try.func13, Try.ntmps13
        go_wp2
        go_ret2
        exact ⟨by rw [E.out]; rfl, rfl⟩

theorem firstR_c (l i : Int) (w : World) (h1 : -9223372036854775808 ≤ i) (h2 : i ≤ 9223372036854775807) :
    Calls Try.prog 15 #[.int .i64 l, .int .i64 i] w fun e w' => e = .returned (.tuple #[.int .i64 (fiN l i).1, .bool (fiN l i).2]) ∧ w = w' := by
  by_cases l0 : l = 0
  · subst l0
    rcases (show i < 0 ∨ 8 ≤ i ∨ (0 ≤ i ∧ i < 8) by omega) with a | a | ⟨a, b⟩
    · have E := hide (show fiN 0 i = (0, false) by unfold fiN; rw [if_neg (by omega), if_neg (by omega), if_neg (by omega)])
      go_enter Try.func15, Try.ntmps15
      go_wp2
      go_ret2
      exact ⟨by rw [E.out]; rfl, rfl⟩
    · have a' : 0 ≤ i := by omega
      have E := hide (show fiN 0 i = (0, false) by unfold fiN; rw [if_neg (by omega), if_neg (by omega), if_neg (by omega)])
      go_enter Try.func15, Try.ntmps15
      go_wp2
      go_ret2
      exact ⟨by rw [E.out]; rfl, rfl⟩
    · have E := hide (show fiN 0 i = (i, true) by unfold fiN; rw [if_pos (by omega)])
      go_enter Try.func15, Try.ntmps15
      go_wp2
      go_ret2
      exact ⟨by rw [E.out]; rfl, rfl⟩
  · have l0' : (l == 0) = false := by simpa using l0
    by_cases l1 : l = 1
    · subst l1
      by_cases a : i = 0
      · subst a
        have E := hide (show fiN 1 0 = (8, true) by decide)
        go_enter Try.func15, Try.ntmps15
        go_wp2
        go_ret2
        exact ⟨by rw [E.out]; rfl, rfl⟩
      · have a' : (i == 0) = false := by simpa using a
        have E := hide (show fiN 1 i = (0, false) by unfold fiN; rw [if_neg (by omega), if_neg (by omega), if_neg (by omega)])
        clear a
        go_enter Try.func15, Try.ntmps15
        go_wp2
        go_ret2
        exact ⟨by rw [E.out]; rfl, rfl⟩
    · have l1' : (l == 1) = false := by simpa using l1
      by_cases l2 : l = 2
      · subst l2
        clear l0 l1 l0' l1'
        rcases (show i < 0 ∨ 256 ≤ i ∨ (0 ≤ i ∧ i < 256) by omega) with a | a | ⟨a, b⟩
        · have E := hide (show fiN 2 i = (0, false) by unfold fiN; rw [if_neg (by omega), if_neg (by omega), if_neg (by omega)])
          go_enter Try.func15, Try.ntmps15
          go_wp2
          go_ret2
          exact ⟨by rw [E.out]; rfl, rfl⟩
        · have a' : 0 ≤ i := by omega
          have E := hide (show fiN 2 i = (0, false) by unfold fiN; rw [if_neg (by omega), if_neg (by omega), if_neg (by omega)])
          go_enter Try.func15, Try.ntmps15
          go_wp2
          go_ret2
          exact ⟨by rw [E.out]; rfl, rfl⟩
        · have E := hide (show fiN 2 i = (264 + 256 * i, true) by unfold fiN; rw [if_neg (by omega), if_neg (by omega), if_pos (by omega)]; try rw [Int.mul_comm])
          go_enter Try.func15, Try.ntmps15
          go_wp2
          go_ret2
          exact ⟨by rw [E.out]; rfl, rfl⟩
      · have l2' : (l == 2) = false := by simpa using l2
        have E := hide (show fiN l i = (0, false) by unfold fiN; rw [if_neg (by omega), if_neg (by omega), if_neg (by omega)])
        clear l0 l1 l2
        go_enter Try.func15, Try.ntmps15
        go_wp2
        go_ret2
        exact ⟨by rw [E.out]; rfl, rfl⟩
end Go.Proofs.Ytegkgcdcglaemaa
