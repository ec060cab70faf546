/-
  The walk of the law BmapOnce: it answers true at every input.
-/
import Derived.Test.YtegkgcdcglaemaaD
import Derived.Deep.RegionWith
namespace Go.Proofs.Ytegkgcdcglaemaa
set_option linter.unusedSimpArgs false
set_option linter.unusedVariables false
open Go.RowKit Go.Maps

theorem plN_ok {n a b c : Int} (h : plN n = (a, b, c, true)) : 0 ≤ n ∧ n < 65800 := by
  unfold plN at h
  by_cases x : n < 0 ∨ n ≥ 65800
  · rw [if_pos x] at h; simp at h
  · omega
theorem plN_no {n a b c : Int} (h : plN n = (a, b, c, false)) : n < 0 ∨ n ≥ 65800 := by
  unfold plN at h
  by_cases x : n < 0 ∨ n ≥ 65800
  · exact x
  · rw [if_neg x] at h
    split at h
    · simp at h
    · split at h <;> simp at h
theorem plN_inj {m n a b c : Int} (h : plN m = (a, b, c, true)) (k : plN n = (a, b, c, true)) : m = n := by
  have hm := plN_ok h
  have hn := plN_ok k
  unfold plN at h k
  rw [if_neg (by omega)] at h k
  by_cases x : m < 8
  · rw [if_pos x] at h
    simp only [Prod.mk.injEq] at h
    by_cases y : n < 8
    · rw [if_pos y] at k; simp only [Prod.mk.injEq] at k; omega
    · rw [if_neg y] at k
      by_cases z : n < 264
      · rw [if_pos z] at k; simp only [Prod.mk.injEq] at k; omega
      · rw [if_neg z] at k; simp only [Prod.mk.injEq] at k; omega
  · rw [if_neg x] at h
    by_cases x2 : m < 264
    · rw [if_pos x2] at h
      simp only [Prod.mk.injEq] at h
      by_cases y : n < 8
      · rw [if_pos y] at k; simp only [Prod.mk.injEq] at k; omega
      · rw [if_neg y] at k
        by_cases z : n < 264
        · rw [if_pos z] at k; simp only [Prod.mk.injEq] at k; omega
        · rw [if_neg z] at k; simp only [Prod.mk.injEq] at k; omega
    · rw [if_neg x2] at h
      simp only [Prod.mk.injEq] at h
      by_cases y : n < 8
      · rw [if_pos y] at k; simp only [Prod.mk.injEq] at k; omega
      · rw [if_neg y] at k
        by_cases z : n < 264
        · rw [if_pos z] at k; simp only [Prod.mk.injEq] at k; omega
        · rw [if_neg z] at k; simp only [Prod.mk.injEq] at k; omega

set_option maxHeartbeats 1000000 in
theorem BmapOnce_walk (w : World) (m : Int) (w0 : (Lit.int .i64 m).wf = true) (n : Int) (w1 : (Lit.int .i64 n).wf = true) :
    Calls Try.prog 4 #[.int .i64 m, .int .i64 n] w fun e w' => e = .returned (.bool true) ∧ Below w.heap.size w w' := by
  have hm := hide (i64_of_wf w0)
  have hn := hide (i64_of_wf w1)
  clear w0 w1
  by_cases e : m = n
  · subst e
    rcases hEm : plN m with ⟨a, b, c, om⟩
    have Em := hide hEm
    have En := Em
    clear hEm
    cases om
    · go_enter Try.func4, Try.ntmps4
      go_wp2_with (first | (go_at_call 8; refine (alive_c _).mono ?_; rintro e w1 ⟨rfl, hb⟩) | (go_at_call_of 11 m; refine (place_c m _ hm.out.1 hm.out.2).mono ?_; rintro e w' ⟨rfl, rfl⟩; rw [Em.out]; simp only [plV]) | (go_at_call_of 11 n; refine (place_c n _ hn.out.1 hn.out.2).mono ?_; rintro e w' ⟨rfl, rfl⟩; rw [En.out]; simp only [plV]))
      go_ret
      exact ⟨by simp, hb⟩

    · go_enter Try.func4, Try.ntmps4
      go_wp2_with (first | (go_at_call 8; refine (alive_c _).mono ?_; rintro e w1 ⟨rfl, hb⟩) | (go_at_call_of 11 m; refine (place_c m _ hm.out.1 hm.out.2).mono ?_; rintro e w' ⟨rfl, rfl⟩; rw [Em.out]; simp only [plV]) | (go_at_call_of 11 n; refine (place_c n _ hn.out.1 hn.out.2).mono ?_; rintro e w' ⟨rfl, rfl⟩; rw [En.out]; simp only [plV]))
      go_ret
      exact ⟨by simp, hb⟩

  rcases hEm : plN m with ⟨a, b, c, om⟩
  rcases hEn : plN n with ⟨x, y, z, on⟩
  have Em := hide hEm
  have En := hide hEn
  clear hEm hEn
  have hmn : (m == n) = false := by simpa using e
  cases om
  · clear e
    go_enter Try.func4, Try.ntmps4
    go_wp2_with (first | (go_at_call 8; refine (alive_c _).mono ?_; rintro e w1 ⟨rfl, hb⟩) | (go_at_call_of 11 m; refine (place_c m _ hm.out.1 hm.out.2).mono ?_; rintro e w' ⟨rfl, rfl⟩; rw [Em.out]; simp only [plV]) | (go_at_call_of 11 n; refine (place_c n _ hn.out.1 hn.out.2).mono ?_; rintro e w' ⟨rfl, rfl⟩; rw [En.out]; simp only [plV]))
    go_ret
    exact ⟨by simp, hb⟩

  cases on
  · clear e
    go_enter Try.func4, Try.ntmps4
    go_wp2_with (first | (go_at_call 8; refine (alive_c _).mono ?_; rintro e w1 ⟨rfl, hb⟩) | (go_at_call_of 11 m; refine (place_c m _ hm.out.1 hm.out.2).mono ?_; rintro e w' ⟨rfl, rfl⟩; rw [Em.out]; simp only [plV]) | (go_at_call_of 11 n; refine (place_c n _ hn.out.1 hn.out.2).mono ?_; rintro e w' ⟨rfl, rfl⟩; rw [En.out]; simp only [plV]))
    go_ret
    exact ⟨by simp, hb⟩

  have hne : ¬ (a = x ∧ b = y ∧ c = z) := fun ⟨h1, h2, h3⟩ => e (by
    subst h1; subst h2; subst h3; exact plN_inj Em.out En.out)
  clear e
  by_cases h1 : a = x
  · subst h1
    by_cases h2 : b = y
    · subst h2
      have h3 : (c == z) = false := by simpa using hne
      clear hne
      go_enter Try.func4, Try.ntmps4
      go_wp2_with (first | (go_at_call 8; refine (alive_c _).mono ?_; rintro e w1 ⟨rfl, hb⟩) | (go_at_call_of 11 m; refine (place_c m _ hm.out.1 hm.out.2).mono ?_; rintro e w' ⟨rfl, rfl⟩; rw [Em.out]; simp only [plV]) | (go_at_call_of 11 n; refine (place_c n _ hn.out.1 hn.out.2).mono ?_; rintro e w' ⟨rfl, rfl⟩; rw [En.out]; simp only [plV]))
      go_ret
      exact ⟨by simp, hb⟩

    · have h2' : (b == y) = false := by simpa using h2
      clear hne h2
      go_enter Try.func4, Try.ntmps4
      go_wp2_with (first | (go_at_call 8; refine (alive_c _).mono ?_; rintro e w1 ⟨rfl, hb⟩) | (go_at_call_of 11 m; refine (place_c m _ hm.out.1 hm.out.2).mono ?_; rintro e w' ⟨rfl, rfl⟩; rw [Em.out]; simp only [plV]) | (go_at_call_of 11 n; refine (place_c n _ hn.out.1 hn.out.2).mono ?_; rintro e w' ⟨rfl, rfl⟩; rw [En.out]; simp only [plV]))
      go_ret
      exact ⟨by simp, hb⟩

  · have h1' : (a == x) = false := by simpa using h1
    clear hne h1
    go_enter Try.func4, Try.ntmps4
    go_wp2_with (first | (go_at_call 8; refine (alive_c _).mono ?_; rintro e w1 ⟨rfl, hb⟩) | (go_at_call_of 11 m; refine (place_c m _ hm.out.1 hm.out.2).mono ?_; rintro e w' ⟨rfl, rfl⟩; rw [Em.out]; simp only [plV]) | (go_at_call_of 11 n; refine (place_c n _ hn.out.1 hn.out.2).mono ?_; rintro e w' ⟨rfl, rfl⟩; rw [En.out]; simp only [plV]))
    go_ret
    exact ⟨by simp, hb⟩

end Go.Proofs.Ytegkgcdcglaemaa
