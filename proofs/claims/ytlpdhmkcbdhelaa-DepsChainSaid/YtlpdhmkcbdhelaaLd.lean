/-
  The law DepsDiamond. No condition.
-/
import Derived.Test.YtlpdhmkcbdhelaaPd
import Derived.Test.YtlpdhmkcbdhelaaCl
namespace Go.Proofs.Ytlpdhmkcbdhelaa
set_option linter.unusedVariables false
set_option linter.unusedSimpArgs false
open Go.RowKit Go.Maps

theorem i100 : I64 100 := by unfold I64; omega
theorem iNat {k : Nat} (h : k ≤ 1000) : I64 (k : Int) := by unfold I64; omega
/-- the graph of the rows r lies behind g -/
def GP (w : World) (g : Nat) (r : List Rc) (F : List Atom) (W : World) : Prop := ∃ ps, Gr g r ps ∧ Own w.heap.size w W (ps ++ F)
def onR (A : Option Addr) (c k : Nat) : Atom := rowA 3 1 (.slice A k c) k (ints (castL (List.range k)))
theorem castL_len (l : List Nat) : (castL l).length = l.length := List.length_map _
theorem castL_snoc (k : Nat) : ints (castL (List.range (k + 1))) = ints (castL (List.range k)) ++ [.int .i64 (k : Int)] := by
  unfold castL ints
  rw [List.range_succ, List.map_append, List.map_append]; rfl
section
variable {w W : World} {g n : Nat} {F : List Atom}
theorem GP.sub {r : List Rc} {a : Atom} (h : GP w g r (a :: F) W) : GP w g r F W := by
  obtain ⟨ps, hg, ho⟩ := h
  exact ⟨ps, hg, ho.sub ((List.Sublist.refl _).append (List.sublist_cons_self _ _))⟩
theorem GP.addD {k : Nat} (h : GP w g (diA k (fun _ => false)) F W) (hk : k ≤ 1000) :
    Calls Try.prog 11 #[.pointer (some ⟨g, 0, none⟩), .int .i64 (k : Int), .slice none 0 0] W fun e W' => ∃ z, e = .returned (.tuple #[.int .i64 z, .int .i64 0]) ∧ GP w g (diA (k + 1) (fun _ => false)) F W' := by
  obtain ⟨ps, hg, ho⟩ := h
  refine (gadd0_c hg ho (k : Int) (iNat hk) (by rw [diA_len]; omega) (by rw [diA_tot]; omega)).mono ?_
  rintro e W' ⟨ps', he, hg', ho'⟩
  rw [diA_snoc] at hg'
  exact ⟨_, he, ps', hg', ho'⟩
theorem GP.addL {A : Option Addr} {c : Nat} (h : GP w g (diA n (fun _ => false)) [onR A c n] W) (hn : n ≤ 40) :
    Calls Try.prog 11 #[.pointer (some ⟨g, 0, none⟩), .int .i64 100, .slice A n c] W fun e W' => e = .returned (.tuple #[.int .i64 (n : Int), .int .i64 0]) ∧ GP w g (diR n (fun _ => false)) [] W' := by
  obtain ⟨ps, hg, ho⟩ := h
  have hl : (castL (List.range n)).length = n := by rw [castL_len, List.length_range]
  have hr : Reads w.heap.size w [onR A c n] A (castL (List.range n)) := Reads.row (c := c) (k := n) List.mem_cons_self
  have := gadd_c hg ho 100 i100 A c (castL (List.range n)) (by rw [diA_len]; omega) (by rw [diA_tot, hl]; omega) hr (fun x hx => by
    obtain ⟨j, hj, rfl⟩ := List.mem_map.1 hx
    have := List.mem_range.1 hj
    rw [diA_len]; omega)
  rw [hl] at this
  refine this.mono ?_
  rintro e W' ⟨ps', he, hg', ho'⟩
  rw [diA_len] at he
  exact ⟨he, GP.sub (a := onR A c n) ⟨ps', hg', ho'⟩⟩
theorem GP.writeD {D : Nat → Bool} (h : GP w g (diR n D) [] W) (hn : n ≤ 40) (i : Nat) (hi : i < n) (hd : D i = false) :
    Calls Try.prog 12 #[.pointer (some ⟨g, 0, none⟩), .int .i64 (i : Int)] W fun e W' => ∃ v, e = .returned v ∧ GP w g (diR n (fun j => D j || decide (j = i))) [] W' := by
  obtain ⟨ps, hg, ho⟩ := h
  refine (gwritten_c hg (i : Int) (iNat (by omega)) ho).mono ?_
  rintro e W' ⟨v, ps', he, hg', ho'⟩
  rw [diR_written i hi hn hd] at hg'
  exact ⟨v, he, ps', hg', ho'.tail⟩
theorem GP.nextNo {D : Nat → Bool} (h : GP w g (diR n D) [] W) (hn : n ≤ 40) (i : Nat) (hi : i < n) (hd : D i = false) :
    Calls Try.prog 13 #[.pointer (some ⟨g, 0, none⟩), .int .i64 100] W fun e W' => ∃ A c, e = .returned (.slice A 0 c) ∧ GP w g (diR n D) [] W' := by
  obtain ⟨ps, hg, ho⟩ := h
  refine (gnext_c hg 100 i100 ho).mono ?_
  rintro e W' ⟨v, rfl, ho'⟩
  rw [diR_nextL hn, if_neg (fun h => by rw [h i hi] at hd; cases hd)] at ho'
  obtain ⟨A, c, rfl⟩ := own_slice ho'.row
  exact ⟨A, c, rfl, ps, hg, ho'.tail⟩
theorem GP.nextYes {D : Nat → Bool} (h : GP w g (diR n D) [] W) (hn : n ≤ 40) (hd : ∀ j, j < n → D j = true) :
    Calls Try.prog 13 #[.pointer (some ⟨g, 0, none⟩), .int .i64 100] W fun e W' => ∃ A c, e = .returned (.slice A 1 c) ∧
      Calls Try.prog 15 #[.slice A 1 c, .slice (some ⟨W'.heap.size, 0, none⟩) 1 1] (W'.alloc (.cells #[.int .i64 (n : Int)] 3)) fun e2 W2 => e2 = .returned (.bool true) ∧ GP w g (diR n D) [] W2 := by
  obtain ⟨ps, hg, ho⟩ := h
  refine (gnext_c hg 100 i100 ho).mono ?_
  rintro e W' ⟨v, rfl, ho'⟩
  rw [diR_nextL hn, if_pos hd] at ho'
  obtain ⟨A, c, rfl⟩ := own_slice ho'.row
  refine ⟨A, c, rfl, (same1_c ho' rfl (by simp) (n : Int)).mono ?_⟩
  rintro e2 W2 ⟨h2, ho2⟩
  rw [sameI_self] at h2
  exact ⟨h2, ps, hg, ho2⟩
theorem GP.ready {D : Nat → Bool} (h : GP w g (diR n D) [] W) (hn : n ≤ 40) (hd : ∀ j, j < n → D j = true) :
    Calls Try.prog 16 #[.pointer (some ⟨g, 0, none⟩)] W fun e W' => ∃ A c, e = .returned (.slice A 1 c) ∧
      Calls Try.prog 15 #[.slice A 1 c, .slice (some ⟨W'.heap.size, 0, none⟩) 1 1] (W'.alloc (.cells #[.int .i64 100] 3)) fun e2 W2 => e2 = .returned (.bool true) ∧ Below w.heap.size w W2 := by
  obtain ⟨ps, hg, ho⟩ := h
  refine (gready_c hg ho).mono ?_
  rintro e W' ⟨v, xs, rfl, hx, ho'⟩
  obtain rfl := diR_ready hn hd hx
  obtain ⟨A, c, rfl⟩ := own_slice ho'.row
  refine ⟨A, c, rfl, (same1_c ho' rfl (by simp) 100).mono ?_⟩
  rintro e2 W2 ⟨h2, ho2⟩
  rw [sameI_self] at h2
  exact ⟨h2, ho2.below⟩
end
def dD (last i : Nat) : Nat → Bool := fun j => decide (j < i) && decide (j ≠ last)
theorem dD_zero (last : Nat) : dD last 0 = fun _ => false := by funext j; simp [dD]
theorem dD_step {last i : Nat} (h : i ≠ last) : (fun j => dD last i j || decide (j = i)) = dD last (i + 1) := by
  funext j
  unfold dD
  by_cases h1 : j = i
  · subst h1; simp [h]
  · by_cases h2 : j < i
    · have : j < i + 1 := by omega
      simp [h1, h2, this]
    · have : ¬ j < i + 1 := by omega
      simp [h1, h2, this]
theorem dD_skip (last : Nat) : dD last last = dD last (last + 1) := by
  funext j
  unfold dD
  by_cases h : j = last
  · subst h; simp
  · by_cases h2 : j < last
    · have : j < last + 1 := by omega
      simp [h2, this]
    · have : ¬ j < last + 1 := by omega
      simp [h2, this]
theorem dD_all {n last : Nat} (j : Nat) (h : j < n) : (fun j => dD last n j || decide (j = last)) j = true := by
  show (_ || _) = true
  unfold dD
  by_cases e : j = last
  · simp [e]
  · simp [e, h]
set_option maxHeartbeats 4000000 in
theorem DepsDiamond_walk (w : World) (z : Int) (wz : (Lit.int .i64 z).wf = true) (y : Int) (wy : (Lit.int .i64 y).wf = true) : Calls Try.prog 3 #[.int .i64 z, .int .i64 y] w fun e w' => e = .returned (.bool true) ∧ Below w.heap.size w w' := by
  have HA := hide (alive_c w)
  by_cases hz : (1 ≤ z ∧ z ≤ 40) ∧ 0 ≤ y ∧ y < z
  · obtain ⟨m, rfl⟩ := Int.eq_ofNat_of_zero_le (show 0 ≤ z by omega)
    obtain ⟨last, rfl⟩ := Int.eq_ofNat_of_zero_le (show 0 ≤ y by omega)
    have hm1 : 1 ≤ m := by omega
    have hm2 : m ≤ 40 := by omega
    have hlast : last < m := by omega
    have o1 : ¬ (m : Int) < 1 := by omega
    have o2 : ¬ (40 : Int) < (m : Int) := by omega
    have o3 : ¬ (last : Int) < 0 := by omega
    have o4 : ¬ (m : Int) ≤ (last : Int) := by omega
    clear hz
    go_enter Try.func3, Try.ntmps3
    go_wp2_with (first
      | (go_at_call 9; refine HA.out.mono ?_; rintro e W1 ⟨rfl, hb1⟩; have H1 := hide ((Own.start w).above hb1); clear hb1)
      | (go_at_call 10; refine (gnew_c H1.out).mono ?_; rintro e W2 ⟨g, ps2, rfl, hg2, ho2⟩; have H2 := hide (show GP w g (diA 0 (fun _ => false)) [onR none 0 0] W2 from ⟨ps2, hg2, (ho2.nilRow 3 1).back⟩); clear hg2 ho2))
    clear o1 o2 o3 o4
    go_loopw [8, 7] (fun i v wr => ∃ (k : Nat) (A : Option Addr) (c : Nat), k ≤ m ∧ i = .int .i64 k ∧ v = .slice A k c ∧ Hid (GP w g (diA k (fun _ => false)) [onR A c k] wr)) (fun i _ _ => m - (intOf i).toNat)
    case atStart => exact ⟨0, none, 0, by omega, rfl, rfl, H2⟩
    case round =>
      obtain ⟨k, A, c, hk, rfl, rfl, HK⟩ := hrel
      by_cases hlt : k < m
      · have p1 : (k : Int) < (m : Int) := by omega
        obtain ⟨i0, hi, hz0, hz1, hz2⟩ := info_parts info3
        go_wp2_with (first
          | (go_at_call 11; refine (HK.out.addD (by omega)).mono ?_; rintro e W3 ⟨z, rfl, ps3, hg3, ho3⟩; have HG3 := hide hg3; have H3 := hide ho3.front; clear hg3 ho3)
          | (at_builtin; go_must (refine wpList_append_own_at _ rfl _ _ 25 rfl w.heap.size 3 i0 (.int .i64 0) 1 8 Try.underlying25 hi hz0 hz1 hz2 rfl (by decide) _ _ _ rfl (H3.out.row.alloc _) ⟨W3.heap.size, 0, none⟩ 1 1 [.int .i64 k] rfl rfl (cell_one_new _ _ _) (by simp [Value.oneCell']) (by unfold maxLen; omega) (by have := H3.out.sz; omega) (by have := H3.out.sz; simp; omega) ?_); intro v' w4 hown' hgrow _ hat; obtain ⟨A6, c6, rfl⟩ := own_slice hown'; have H4 := hide ((H3.out.alloc _).growRow hown' hgrow hat); clear hown' hgrow hat))
        go_roundw
        case rel =>
          refine ⟨k + 1, A6, c6, by omega, by go_num, rfl, hide ⟨ps3, HG3.out, ?_⟩⟩
          have := H4.out
          rw [← castL_snoc] at this
          exact this.back
        case measure => simp [intOf]; omega
      · obtain rfl : k = m := by omega
        have p1 : ¬ (k : Int) < (k : Int) := by omega
        clear H2
        go_wp2_with (go_at_call 11; refine (HK.out.addL hm2).mono ?_; rintro e W3 ⟨rfl, h3⟩; have H3 := hide h3; clear h3)
        go_loopw [11] (fun i wr => ∃ j : Nat, j ≤ k ∧ i = .int .i64 j ∧ Hid (GP w g (diR k (dD last j)) [] wr)) (fun i _ => k - (intOf i).toNat)
        case atStart => exact ⟨0, by omega, rfl, hide (by rw [dD_zero]; exact H3.out)⟩
        case round =>
          obtain ⟨j, hj, rfl, HJ⟩ := hrel
          by_cases hlt2 : j < k
          · have q1 : (j : Int) < (k : Int) := by omega
            by_cases hl : j = last
            · subst hl
              have q2 : ((j : Int) != (j : Int)) = false := by simp
              go_wp2
              go_roundw
              case rel => exact ⟨j + 1, by omega, by go_num, hide (by rw [← dD_skip]; exact HJ.out)⟩
              case measure => simp [intOf]; omega
            · have q2 : ((j : Int) != (last : Int)) = true := (int_neb (by omega)).2
              go_wp2_with (go_at_call 12; refine (HJ.out.writeD hm2 j hlt2 (by simp [dD])).mono ?_; rintro e W4 ⟨v, rfl, h4⟩; rw [dD_step hl] at h4; have H4 := hide h4; clear h4)
              go_roundw
              case rel => exact ⟨j + 1, by omega, by go_num, H4⟩
              case measure => simp [intOf]; omega
          · obtain rfl : j = k := by omega
            have q1 : ¬ (j : Int) < (j : Int) := by omega
            clear H3
            go_wp2_with (first
              | (go_at_call 13; refine (HJ.out.nextNo hm2 last hlast (by simp [dD])).mono ?_; rintro e W4 ⟨A4, c4, rfl, h4⟩; have H4 := hide h4; clear h4)
              | (go_at_call 12; refine (H4.out.writeD hm2 last hlast (by simp [dD])).mono ?_; rintro e W5 ⟨v, rfl, h5⟩; have H5 := hide h5; clear h5)
              | (go_at_call 13; refine (H5.out.nextYes hm2 dD_all).mono ?_; rintro e W6 ⟨A6, c6, rfl, h6⟩; have H6 := hide h6; clear h6)
              | (go_at_call 14; refine (num_c _ _).mono ?_; rintro e w' ⟨rfl, rfl⟩)
              | (go_at_call 15; refine H6.out.mono ?_; rintro e W7 ⟨rfl, h7⟩; have H7 := hide h7; clear h7 H6)
              | (go_at_call 16; refine (H7.out.ready hm2 dD_all).mono ?_; rintro e W8 ⟨A8, c8, rfl, h8⟩; have H8 := hide h8; clear h8 H7)
              | (go_at_call 15; refine H8.out.mono ?_; rintro e W9 ⟨rfl, h9⟩))
            go_ret
            exact ⟨rfl, h9⟩
  · have done : ∀ (P : Prop), P → P := fun _ h => h
    by_cases h1 : 1 ≤ z
    · have o1 : ¬ z < 1 := by omega
      by_cases h2 : z ≤ 40
      · have o2 : ¬ (40 : Int) < z := by omega
        by_cases h3 : 0 ≤ y
        · have o3 : ¬ y < 0 := by omega
          have o4 : z ≤ y := by omega
          clear hz
          go_enter Try.func3, Try.ntmps3
          go_wp2_with (go_at_call 9; refine HA.out.mono ?_; rintro e W1 ⟨rfl, hb1⟩)
          go_ret
          exact ⟨rfl, hb1⟩
        · have o3 : y < 0 := by omega
          clear hz
          go_enter Try.func3, Try.ntmps3
          go_wp2_with (go_at_call 9; refine HA.out.mono ?_; rintro e W1 ⟨rfl, hb1⟩)
          go_ret
          exact ⟨rfl, hb1⟩
      · have o2 : (40 : Int) < z := by omega
        clear hz
        go_enter Try.func3, Try.ntmps3
        go_wp2_with (go_at_call 9; refine HA.out.mono ?_; rintro e W1 ⟨rfl, hb1⟩)
        go_ret
        exact ⟨rfl, hb1⟩
    · have o1 : z < 1 := by omega
      clear hz
      go_enter Try.func3, Try.ntmps3
      go_wp2_with (go_at_call 9; refine HA.out.mono ?_; rintro e W1 ⟨rfl, hb1⟩)
      go_ret
      exact ⟨rfl, hb1⟩
end Go.Proofs.Ytlpdhmkcbdhelaa
