/-
  The law DepsChain. No condition.
-/
import Derived.Test.YtlpdhmkcbdhelaaLd
import Derived.Test.YtlpdhmkcbdhelaaNe
namespace Go.Proofs.Ytlpdhmkcbdhelaa
set_option linter.unusedVariables false
set_option linter.unusedSimpArgs false
open Go.RowKit Go.Maps

theorem chR_rd {bf : Nat → Int} {n i : Nat} {x : Int} (h : 0 ≤ x ∧ x < (n : Int)) : rd (chR bf n i) x = chC bf i x.toNat := by
  unfold rd; exact chR_at (by omega)
theorem chR_good {bf : Nat → Int} {n i : Nat} {x : Int} : good (chR bf n i) x ↔ (i : Int) ≤ x ∧ x < (n : Int) := by
  unfold good
  rw [chR_len]
  constructor
  · rintro ⟨h1, h2, h3⟩
    rw [chR_rd ⟨h1, h2⟩] at h3
    have h4 : ¬ x.toNat < i := by simpa [chC] using h3
    omega
  · rintro ⟨h1, h2⟩
    have h0 : 0 ≤ x := by omega
    refine ⟨h0, h2, ?_⟩
    rw [chR_rd ⟨h0, h2⟩]
    have h4 : ¬ x.toNat < i := by omega
    simp [chC, h4]
theorem chR_reach {bf : Nat → Int} {n i : Nat} (hn : 0 < n) (x : Int) : Reach (chR bf n i) [(n : Int) - 1] x ↔ (i : Int) ≤ x ∧ x < (n : Int) := by
  refine ⟨fun h => chR_good.1 h.good, fun h => ?_⟩
  have key : ∀ d : Nat, (i : Int) ≤ (n : Int) - 1 - d → Reach (chR bf n i) [(n : Int) - 1] ((n : Int) - 1 - d) := by
    intro d
    induction d with
    | zero => intro h; exact .id (by simp) (chR_good.2 (by omega))
    | succ d ih =>
      intro h
      refine .on (ih (by omega)) ?_ (chR_good.2 (by omega))
      rw [chR_rd (by omega)]
      unfold chC
      have h0 : ¬ ((n : Int) - 1 - d).toNat = 0 := by omega
      simp only [h0, if_false, List.mem_singleton]
      omega
  have := key ((n : Int) - 1 - x).toNat (by omega)
  have e : (n : Int) - 1 - ((((n : Int) - 1 - x).toNat : Nat) : Int) = x := by omega
  rwa [e] at this
theorem chR_need {bf : Nat → Int} {n i : Nat} (hn : 0 < n) {xs : List Int} (h : needR (chR bf n i) [(n : Int) - 1] xs) : xs.length = n - i := by
  have e : xs = (castL (List.range n)).filter (fun x => decide ((i : Int) ≤ x)) := by
    refine rising_ext h.1 ((rangeI_rising n).filter _) fun x => ?_
    rw [h.2, chR_reach hn, List.mem_filter]
    constructor
    · rintro ⟨h1, h2⟩
      exact ⟨mem_rangeI (by omega), by simpa using h1⟩
    · rintro ⟨h1, h2⟩
      obtain ⟨j, hj, rfl⟩ := List.mem_map.1 h1
      have := List.mem_range.1 hj
      simp at h2
      omega
  rw [e]
  unfold castL
  rw [List.filter_map, List.length_map, ← filter_ge n i]
  congr 1
  refine List.filter_congr fun j _ => ?_
  simp
section
variable {w W : World} {g n i : Nat} {F : List Atom} {bf : Nat → Int}
theorem CP.add0 (h : GP w g (chR bf 0 0) F W) (hb : I64 (bf 0)) :
    Calls Try.prog 11 #[.pointer (some ⟨g, 0, none⟩), .int .i64 (bf 0), .slice none 0 0] W fun e W' => ∃ z, e = .returned (.tuple #[.int .i64 z, .int .i64 0]) ∧ GP w g (chR bf 1 0) F W' := by
  obtain ⟨ps, hg, ho⟩ := h
  refine (gadd0_c hg ho (bf 0) hb (by rw [chR_len]; omega) hg.tot).mono ?_
  rintro e W' ⟨ps', he, hg', ho'⟩
  have := chR_snoc bf 0
  rw [if_pos rfl] at this
  rw [this] at hg'
  exact ⟨_, he, ps', hg', ho'⟩
theorem CP.add1 {k : Nat} (h : GP w g (chR bf k 0) F W) (hk : 0 < k) (hk2 : k < 1000) (hb : I64 (bf k)) :
    Calls Try.prog 11 #[.pointer (some ⟨g, 0, none⟩), .int .i64 (bf k), .slice (some ⟨W.heap.size, 0, none⟩) 1 1] (W.alloc (.cells #[.int .i64 ((k : Int) - 1)] 3)) fun e W' => ∃ z, e = .returned (.tuple #[.int .i64 z, .int .i64 0]) ∧ GP w g (chR bf (k + 1) 0) F W' := by
  obtain ⟨ps, hg, ho⟩ := h
  have ht := chR_tot bf k 0
  refine (gadd1_c hg ho (bf k) hb ((k : Int) - 1) (by rw [chR_len]; omega) (by omega) (by rw [chR_len]; omega)).mono ?_
  rintro e W' ⟨ps', he, hg', ho'⟩
  have := chR_snoc bf k
  rw [if_neg (by omega)] at this
  rw [this] at hg'
  exact ⟨_, he, ps', hg', ho'⟩
theorem CP.ready (h : GP w g (chR bf n i) [] W) (hi : i < n) :
    Calls Try.prog 16 #[.pointer (some ⟨g, 0, none⟩)] W fun e W' => ∃ b c, e = .returned (.slice (some ⟨b, 0, none⟩) 1 c) ∧ GP w g (chR bf n i) [rowA 3 1 (.slice (some ⟨b, 0, none⟩) 1 c) 1 (ints [bf i])] W' := by
  obtain ⟨ps, hg, ho⟩ := h
  refine (gready_c hg ho).mono ?_
  rintro e W' ⟨v, xs, rfl, hx, ho'⟩
  obtain rfl := chR_ready hi hx
  obtain ⟨A, c, rfl⟩ := own_slice ho'.row
  obtain ⟨b, rfl⟩ := row_form ho'.row (by simp)
  exact ⟨b, c, rfl, ps, hg, ho'.back⟩
theorem CP.need (h : GP w g (chR bf n i) F W) (hn : 0 < n) :
    Calls Try.prog 23 #[.pointer (some ⟨g, 0, none⟩), .slice (some ⟨W.heap.size, 0, none⟩) 1 1] (W.alloc (.cells #[.int .i64 ((n : Int) - 1)] 3)) fun e W' => ∃ A c nb, e = .returned (.slice A nb c) ∧ nb = n - i ∧ GP w g (chR bf n i) F W' := by
  obtain ⟨ps, hg, ho⟩ := h
  have h1 : Own w.heap.size w (W.alloc (.cells #[.int .i64 ((n : Int) - 1)] 3)) (ps ++ (rowA 3 1 (.slice (some ⟨W.heap.size, 0, none⟩) 1 1) 1 (ints [(n : Int) - 1]) :: F)) := (ho.newInts _).back
  have h2 : Reads w.heap.size w (rowA 3 1 (.slice (some ⟨W.heap.size, 0, none⟩) 1 1) 1 (ints [(n : Int) - 1]) :: F) (some ⟨W.heap.size, 0, none⟩) [(n : Int) - 1] := Reads.row (c := 1) (k := 1) List.mem_cons_self
  refine (need_c hg h1 _ 1 [(n : Int) - 1] (by simp) h2).mono ?_
  rintro e W' ⟨v, xs, rfl, hx, ho'⟩
  obtain ⟨A, c, rfl⟩ := own_slice ho'.row
  exact ⟨A, c, _, rfl, chR_need hn hx, GP.sub (a := rowA 3 1 (.slice (some ⟨W.heap.size, 0, none⟩) 1 1) 1 (ints [(n : Int) - 1])) ⟨ps, hg, ho'.tail⟩⟩
theorem CP.done (h : GP w g (chR bf n i) F W) (hi : i < n) :
    Calls Try.prog 24 #[.pointer (some ⟨g, 0, none⟩), .int .i64 (i : Int)] W fun e W' => e = .returned (.bool false) ∧ W = W' := by
  obtain ⟨ps, hg, ho⟩ := h
  refine (gdone_c hg (fun a ha => ho.hold a (List.mem_append_left _ ha)) (i : Int)).mono ?_
  rintro e W' ⟨he, hw⟩
  refine ⟨?_, hw⟩
  rw [he]
  unfold doneR
  rw [chR_rd ⟨by omega, by omega⟩]
  simp [chC]
theorem CP.written (h : GP w g (chR bf n i) F W) (hi : i < n) (hb : I64 (bf i)) :
    Calls Try.prog 12 #[.pointer (some ⟨g, 0, none⟩), .int .i64 (bf i)] W fun e W' => ∃ A c, e = .returned (.slice A 1 c) ∧
      Calls Try.prog 15 #[.slice A 1 c, .slice (some ⟨W'.heap.size, 0, none⟩) 1 1] (W'.alloc (.cells #[.int .i64 (i : Int)] 3)) fun e2 W2 => e2 = .returned (.bool true) ∧ GP w g (chR bf n (i + 1)) F W2 := by
  obtain ⟨ps, hg, ho⟩ := h
  refine (gwritten_c hg (bf i) hb ho).mono ?_
  rintro e W' ⟨v, ps', rfl, hg', ho'⟩
  rw [chR_next, if_pos ⟨hi, rfl⟩] at ho'
  rw [chR_written hi] at hg'
  obtain ⟨A, c, rfl⟩ := own_slice ho'.row
  refine ⟨A, c, rfl, (same1_c ho' rfl (by simp) (i : Int)).mono ?_⟩
  rintro e2 W2 ⟨h2, ho2⟩
  rw [sameI_self] at h2
  exact ⟨h2, ps', hg', ho2⟩
theorem CP.left (h : GP w g (chR bf n n) [] W) :
    Calls Try.prog 18 #[.pointer (some ⟨g, 0, none⟩)] W fun e W' => e = .returned (.int .i64 0) ∧ Below w.heap.size w W' := by
  obtain ⟨ps, hg, ho⟩ := h
  refine (gleft_c hg ho).mono ?_
  rintro e W' ⟨he, rfl⟩
  rw [chR_opn, Nat.sub_self] at he
  exact ⟨he, ho.below⟩
end
def bfB (back : Bool) (n : Nat) : Nat → Int := fun j => if back then (n : Int) - (j : Int) else (j : Int)
theorem bfB_i64 {back : Bool} {n j : Nat} (hn : n ≤ 80) (hj : j ≤ n) : I64 (bfB back n j) := by
  unfold bfB I64; cases back <;> simp <;> omega
set_option maxHeartbeats 4000000 in
theorem DepsChain_walk (w : World) (z : Int) (wz : (Lit.int .i64 z).wf = true) (back : Bool) : Calls Try.prog 6 #[.int .i64 z, .bool back] w fun e w' => e = .returned (.bool true) ∧ Below w.heap.size w w' := by
  have HA := hide (alive_c w)
  by_cases hz : 1 ≤ z ∧ z ≤ 80
  · obtain ⟨m, rfl⟩ := Int.eq_ofNat_of_zero_le (show 0 ≤ z by omega)
    have hm1 : 0 < m := by omega
    have hm2 : m ≤ 80 := by omega
    have o1 : ¬ (m : Int) < 1 := by omega
    have o2 : ¬ (80 : Int) < (m : Int) := by omega
    clear hz
    go_enter Try.func6, Try.ntmps6
    go_wp2_with (first
      | (go_at_call 9; refine HA.out.mono ?_; rintro e W1 ⟨rfl, hb1⟩; have H1 := hide ((Own.start w).above hb1); clear hb1)
      | (go_at_call 10; refine (gnew_c H1.out).mono ?_; rintro e W2 ⟨g, ps2, rfl, hg2, ho2⟩; have H2 := hide (show GP w g (chR (bfB back m) 0 0) [] W2 from ⟨ps2, hg2, ho2⟩); clear hg2 ho2))
    clear o1 o2
    go_loopw [7] (fun i wr => ∃ k : Nat, k ≤ m ∧ i = .int .i64 k ∧ Hid (GP w g (chR (bfB back m) k 0) [] wr)) (fun i _ => m - (intOf i).toNat)
    case atStart => exact ⟨0, by omega, rfl, H2⟩
    case round =>
      obtain ⟨k, hk, rfl, HK⟩ := hrel
      by_cases hlt : k < m
      · have p1 : (k : Int) < (m : Int) := by omega
        have p4 : IntKind.i64.wrap ((m : Int) - (k : Int)) = (m : Int) - (k : Int) := IntWalk.i64_in _ (by omega)
        by_cases h0 : k = 0
        · subst h0
          have p2 : ¬ (0 : Int) < ((0 : Nat) : Int) := by omega
          have HC := hide (CP.add0 HK.out (bfB_i64 hm2 (by omega)))
          cases back with
          | false =>
            go_wp2_with (go_at_call 11; refine HC.out.mono ?_; rintro e W3 ⟨z, rfl, h3⟩; have H3 := hide h3; clear h3)
            go_roundw
            case rel => exact ⟨1, by omega, by go_num, H3⟩
            case measure => simp [intOf]; omega
          | true =>
            go_wp2_with (go_at_call 11; refine HC.out.mono ?_; rintro e W3 ⟨z, rfl, h3⟩; have H3 := hide h3; clear h3)
            go_roundw
            case rel => exact ⟨1, by omega, by go_num, H3⟩
            case measure => simp [intOf]; omega
        · have p2 : (0 : Int) < (k : Int) := by omega
          have p3 : IntKind.i64.wrap ((k : Int) - 1) = (k : Int) - 1 := IntWalk.i64_in _ (by omega)
          have HC := hide (CP.add1 HK.out (by omega) (by omega) (bfB_i64 hm2 (by omega)))
          cases back with
          | false =>
            go_wp2_with (go_at_call 11; refine HC.out.mono ?_; rintro e W3 ⟨z, rfl, h3⟩; have H3 := hide h3; clear h3)
            go_roundw
            case rel => exact ⟨k + 1, by omega, by go_num, H3⟩
            case measure => simp [intOf]; omega
          | true =>
            go_wp2_with (go_at_call 11; refine HC.out.mono ?_; rintro e W3 ⟨z, rfl, h3⟩; have H3 := hide h3; clear h3)
            go_roundw
            case rel => exact ⟨k + 1, by omega, by go_num, H3⟩
            case measure => simp [intOf]; omega
      · obtain rfl : k = m := by omega
        have p1 : ¬ (k : Int) < (k : Int) := by omega
        clear H2
        generalize hbf : bfB back k = bf at HK
        have hb64 := fun (j : Nat) (hj : j ≤ k) => (hbf ▸ bfB_i64 hm2 hj : I64 (bf j))
        clear hbf
        have HB := hide hb64
        clear hb64
        go_wp2
        go_loopw [10] (fun i wr => ∃ j : Nat, j ≤ k ∧ i = .int .i64 j ∧ Hid (GP w g (chR bf k j) [] wr)) (fun i _ => k - (intOf i).toNat)
        case atStart => exact ⟨0, by omega, rfl, HK⟩
        case round =>
          obtain ⟨j, hj, rfl, HJ⟩ := hrel
          by_cases hlt2 : j < k
          · have q1 : (j : Int) < (k : Int) := by omega
            have q2 : IntKind.i64.wrap ((k : Int) - (j : Int)) = (k : Int) - (j : Int) := IntWalk.i64_in _ (by omega)
            have q3 : IntKind.i64.wrap ((k : Int) - 1) = (k : Int) - 1 := IntWalk.i64_in _ (by omega)
            go_wp2_with (first
              | (go_at_call 16; refine (CP.ready HJ.out hlt2).mono ?_; rintro e W3 ⟨b3, c3, rfl, h3⟩; have H3 := hide h3; clear h3)
              | (go_at_call 23; refine (CP.need H3.out hm1).mono ?_; rintro e W4 ⟨A4, c4, nb, rfl, hnb, h4⟩; have H4 := hide h4; have q4 : ((nb : Int) != (k : Int) - (j : Int)) = false := (int_eqb (by omega)).2; clear h4 hnb)
              | (go_at_call 24; refine (CP.done H4.out hlt2).mono ?_; rintro e w' ⟨rfl, rfl⟩; have x0 : W4.cell? ⟨b3, 0, none⟩ = some (.int .i64 (bf j)) := (by obtain ⟨ps, hg, ho⟩ := H4.out; have := (ho.hold (rowA 3 1 (.slice (some ⟨b3, 0, none⟩) 1 c3) 1 (ints [bf j])) (by simp)); exact (World.ownsRow.cellAt this 0 (by omega)).trans rfl))
              | (go_at_call 12; refine (CP.written H4.out hlt2 (HB.out j hj)).mono ?_; rintro e W5 ⟨A5, c5, rfl, h5⟩; have H5 := hide h5; clear h5)
              | (go_at_call 15; refine H5.out.mono ?_; rintro e W6 ⟨rfl, h6⟩; have H6 := hide (GP.sub h6); clear h6))
            go_roundw
            case rel => exact ⟨j + 1, by omega, by go_num, H6⟩
            case measure => simp [intOf]; omega
          · obtain rfl : j = k := by omega
            have q1 : ¬ (j : Int) < (j : Int) := by omega
            go_wp2_with (go_at_call 18; refine (CP.left HJ.out).mono ?_; rintro e w' ⟨rfl, hb⟩)
            go_ret
            exact ⟨rfl, hb⟩
  · by_cases h1 : 1 ≤ z
    · have o1 : ¬ z < 1 := by omega
      have o2 : (80 : Int) < z := by omega
      clear hz
      go_enter Try.func6, Try.ntmps6
      go_wp2_with (go_at_call 9; refine HA.out.mono ?_; rintro e W1 ⟨rfl, hb1⟩)
      go_ret
      exact ⟨rfl, hb1⟩
    · have o1 : z < 1 := by omega
      clear hz
      go_enter Try.func6, Try.ntmps6
      go_wp2_with (go_at_call 9; refine HA.out.mono ?_; rintro e W1 ⟨rfl, hb1⟩)
      go_ret
      exact ⟨rfl, hb1⟩
end Go.Proofs.Ytlpdhmkcbdhelaa
