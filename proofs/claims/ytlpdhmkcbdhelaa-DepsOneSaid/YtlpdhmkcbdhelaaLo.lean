/-
  The law DepsOne. No condition.
-/
import Derived.Test.YtlpdhmkcbdhelaaPl
namespace Go.Proofs.Ytlpdhmkcbdhelaa
set_option linter.unusedVariables false
set_option linter.unusedSimpArgs false
open Go.RowKit Go.Maps

theorem i5 : I64 5 := by unfold I64; omega
def b5 : Nat → Int := fun _ => 5
/-- the graph of the chain lies behind g -/
def ChP (w : World) (g : Nat) (bf : Nat → Int) (n i : Nat) (W : World) : Prop := ∃ ps, Gr g (chR bf n i) ps ∧ Own w.heap.size w W (ps ++ [])
theorem ChP.add0 {w W : World} {g : Nat} {bf : Nat → Int} (h : ChP w g bf 0 0 W) (hb : I64 (bf 0)) :
    Calls Try.prog 11 #[.pointer (some ⟨g, 0, none⟩), .int .i64 (bf 0), .slice none 0 0] W fun e W' => ∃ z, e = .returned (.tuple #[.int .i64 z, .int .i64 0]) ∧ ChP w g bf 1 0 W' := by
  obtain ⟨ps, hg, ho⟩ := h
  refine (gadd0_c hg ho (bf 0) hb (by rw [chR_len]; omega) hg.tot).mono ?_
  rintro e W' ⟨ps', he, hg', ho'⟩
  have := chR_snoc bf 0
  rw [if_pos rfl] at this
  rw [this] at hg'
  exact ⟨_, he, ps', hg', ho'⟩
theorem ChP.add1 {w W : World} {g : Nat} {bf : Nat → Int} {k : Nat} (h : ChP w g bf k 0 W) (hk : 0 < k) (hk2 : k < 1000) (hb : I64 (bf k)) :
    Calls Try.prog 11 #[.pointer (some ⟨g, 0, none⟩), .int .i64 (bf k), .slice (some ⟨W.heap.size, 0, none⟩) 1 1] (W.alloc (.cells #[.int .i64 ((k : Int) - 1)] 3)) fun e W' => ∃ z, e = .returned (.tuple #[.int .i64 z, .int .i64 0]) ∧ ChP w g bf (k + 1) 0 W' := by
  obtain ⟨ps, hg, ho⟩ := h
  have ht := chR_tot bf k 0
  refine (gadd1_c hg ho (bf k) hb ((k : Int) - 1) (by rw [chR_len]; omega) (by omega) (by rw [chR_len]; omega)).mono ?_
  rintro e W' ⟨ps', he, hg', ho'⟩
  have := chR_snoc bf k
  rw [if_neg (by omega)] at this
  rw [this] at hg'
  exact ⟨_, he, ps', hg', ho'⟩
theorem ChP.blocked {w W : World} {g n i : Nat} (h : ChP w g b5 n i W) :
    Calls Try.prog 17 #[.pointer (some ⟨g, 0, none⟩), .int .i64 5] W fun e W' => ∃ A c nb, e = .returned (.slice A nb c) ∧ nb = n - (i + 1) ∧ ChP w g b5 n i W' := by
  obtain ⟨ps, hg, ho⟩ := h
  refine (gblocked_c hg 5 i5 ho).mono ?_
  rintro e W' ⟨v, rfl, ho'⟩
  obtain ⟨A, c, rfl⟩ := own_slice ho'.row
  exact ⟨A, c, _, rfl, chR_blocked5 n i, ps, hg, ho'.tail⟩
theorem ChP.written {w W : World} {g n i : Nat} {bf : Nat → Int} (h : ChP w g bf n i W) (hi : i < n) (hb : I64 (bf i)) :
    Calls Try.prog 12 #[.pointer (some ⟨g, 0, none⟩), .int .i64 (bf i)] W fun e W' => ∃ A c, e = .returned (.slice A 1 c) ∧
      Calls Try.prog 15 #[.slice A 1 c, .slice (some ⟨W'.heap.size, 0, none⟩) 1 1] (W'.alloc (.cells #[.int .i64 (i : Int)] 3)) fun e2 W2 => e2 = .returned (.bool true) ∧ ChP w g bf n (i + 1) W2 := by
  obtain ⟨ps, hg, ho⟩ := h
  refine (gwritten_c hg (bf i) hb ho).mono ?_
  rintro e W' ⟨v, ps', rfl, hg', ho'⟩
  rw [chR_next, if_pos ⟨hi, rfl⟩] at ho'
  rw [chR_written hi] at hg'
  obtain ⟨A, c, rfl⟩ := own_slice ho'.row
  refine ⟨A, c, rfl, (same1_c ho' rfl (by simp) (i : Int)).mono ?_⟩
  rintro e2 W2 ⟨h2, ho2⟩
  rw [sameI_self] at h2
  exact ⟨h2, ps', hg', ho2⟩
theorem ChP.over {w W : World} {g n : Nat} (h : ChP w g b5 n n W) :
    Calls Try.prog 12 #[.pointer (some ⟨g, 0, none⟩), .int .i64 5] W fun e W' => ∃ A c, e = .returned (.slice A 0 c) ∧ Below w.heap.size w W' := by
  obtain ⟨ps, hg, ho⟩ := h
  refine (gwritten_c hg 5 i5 ho).mono ?_
  rintro e W' ⟨v, ps', rfl, hg', ho'⟩
  rw [chR_next, if_neg (by omega)] at ho'
  obtain ⟨A, c, rfl⟩ := own_slice ho'.row
  exact ⟨A, c, rfl, ho'.below⟩
theorem ChP.left {w W : World} {g n : Nat} {bf : Nat → Int} (h : ChP w g bf n n W) :
    Calls Try.prog 18 #[.pointer (some ⟨g, 0, none⟩)] W fun e W' => e = .returned (.int .i64 0) ∧ W = W' := by
  obtain ⟨ps, hg, ho⟩ := h
  refine (gleft_c hg ho).mono ?_
  rintro e W' ⟨he, hw⟩
  rw [chR_opn, Nat.sub_self] at he
  exact ⟨he, hw⟩
set_option maxHeartbeats 4000000 in
theorem DepsOne_walk (w : World) (z : Int) (wz : (Lit.int .i64 z).wf = true) : Calls Try.prog 4 #[.int .i64 z] w fun e w' => e = .returned (.bool true) ∧ Below w.heap.size w w' := by
  have HA := hide (alive_c w)
  by_cases hz : 1 ≤ z ∧ z ≤ 60
  · obtain ⟨m, rfl⟩ := Int.eq_ofNat_of_zero_le (show 0 ≤ z by omega)
    have hm1 : 1 ≤ m := by omega
    have hm2 : m ≤ 60 := by omega
    have o1 : ¬ (m : Int) < 1 := by omega
    have o2 : ¬ (60 : Int) < (m : Int) := by omega
    clear hz
    go_enter Try.func4, Try.ntmps4
    go_wp2_with (first
      | (go_at_call 9; refine HA.out.mono ?_; rintro e W1 ⟨rfl, hb1⟩; have H1 := hide ((Own.start w).above hb1); clear hb1)
      | (go_at_call 10; refine (gnew_c H1.out).mono ?_; rintro e W2 ⟨g, ps2, rfl, hg2, ho2⟩; have H2 := hide (show ChP w g b5 0 0 W2 from ⟨ps2, hg2, ho2⟩); clear hg2 ho2))
    clear o1 o2
    go_loopw [5] (fun i wr => ∃ k : Nat, k ≤ m ∧ i = .int .i64 k ∧ Hid (ChP w g b5 k 0 wr)) (fun i _ => m - (intOf i).toNat)
    case atStart => exact ⟨0, by omega, rfl, H2⟩
    case round =>
      obtain ⟨k, hk, rfl, HK⟩ := hrel
      by_cases hlt : k < m
      · have p1 : (k : Int) < (m : Int) := by omega
        by_cases h0 : k = 0
        · subst h0
          have p2 : ¬ (0 : Int) < ((0 : Nat) : Int) := by omega
          go_wp2_with (go_at_call 11; refine (HK.out.add0 i5).mono ?_; rintro e W3 ⟨z, rfl, h3⟩; have H3 := hide h3; clear h3)
          go_roundw
          case rel => exact ⟨1, by omega, by go_num, H3⟩
          case measure => simp [intOf]; omega
        · have p2 : (0 : Int) < (k : Int) := by omega
          have p3 : IntKind.i64.wrap ((k : Int) - 1) = (k : Int) - 1 := IntWalk.i64_in _ (by omega)
          go_wp2_with (go_at_call 11; refine (HK.out.add1 (by omega) (by omega) i5).mono ?_; rintro e W3 ⟨z, rfl, h3⟩; have H3 := hide h3; clear h3)
          go_roundw
          case rel => exact ⟨k + 1, by omega, by go_num, H3⟩
          case measure => simp [intOf]; omega
      · obtain rfl : k = m := by omega
        have p1 : ¬ (k : Int) < (k : Int) := by omega
        clear H2
        go_wp2
        go_loopw [7] (fun i wr => ∃ j : Nat, j ≤ k ∧ i = .int .i64 j ∧ Hid (ChP w g b5 k j wr)) (fun i _ => k - (intOf i).toNat)
        case atStart => exact ⟨0, by omega, rfl, HK⟩
        case round =>
          obtain ⟨j, hj, rfl, HJ⟩ := hrel
          by_cases hlt2 : j < k
          · have q1 : (j : Int) < (k : Int) := by omega
            have q2 : IntKind.i64.wrap ((k : Int) - (j : Int)) = (k : Int) - (j : Int) := IntWalk.i64_in _ (by omega)
            have q3 : IntKind.i64.wrap ((k : Int) - (j : Int) - 1) = (k : Int) - (j : Int) - 1 := IntWalk.i64_in _ (by omega)
            go_wp2_with (first
              | (go_at_call 17; refine HJ.out.blocked.mono ?_; rintro e W3 ⟨A3, c3, nb, rfl, hnb, h3⟩; have H3 := hide h3; have q4 : ((nb : Int) != (k : Int) - (j : Int) - 1) = false := (int_eqb (by omega)).2; clear h3 hnb)
              | (go_at_call 12; refine (H3.out.written hlt2 i5).mono ?_; rintro e W4 ⟨A4, c4, rfl, h4⟩; have H4 := hide h4; clear h4)
              | (go_at_call 15; refine H4.out.mono ?_; rintro e W5 ⟨rfl, h5⟩; have H5 := hide h5; clear h5))
            go_roundw
            case rel => exact ⟨j + 1, by omega, by go_num, H5⟩
            case measure => simp [intOf]; omega
          · obtain rfl : j = k := by omega
            have q1 : ¬ (j : Int) < (j : Int) := by omega
            go_wp2_with (first
              | (go_at_call 18; refine HJ.out.left.mono ?_; rintro e w' ⟨rfl, rfl⟩)
              | (go_at_call 12; refine HJ.out.over.mono ?_; rintro e W4 ⟨A4, c4, rfl, h4⟩; have H4 := hide h4; clear h4))
            go_ret
            exact ⟨rfl, H4.out⟩
  · by_cases h1 : 1 ≤ z
    · have o1 : ¬ z < 1 := by omega
      have o2 : (60 : Int) < z := by omega
      clear hz
      go_enter Try.func4, Try.ntmps4
      go_wp2_with (go_at_call 9; refine HA.out.mono ?_; rintro e W1 ⟨rfl, hb1⟩)
      go_ret
      exact ⟨rfl, hb1⟩
    · have o1 : z < 1 := by omega
      clear hz
      go_enter Try.func4, Try.ntmps4
      go_wp2_with (go_at_call 9; refine HA.out.mono ?_; rintro e W1 ⟨rfl, hb1⟩)
      go_ret
      exact ⟨rfl, hb1⟩
end Go.Proofs.Ytlpdhmkcbdhelaa
