/-
  The walk of LocksRing. No condition.
-/
import Derived.Test.YtcmiboipgngjaaaLr
import Derived.Test.YtcmiboipgngjaaaWf
namespace Go.Proofs.Ytcmiboipgngjaaa
set_option linter.unusedVariables false
set_option linter.unusedSimpArgs false
open Go.RowKit Go.Maps

theorem ring_out (W : World) (n m k : Int) (h : n < 2 ∨ 15 < n ∨ m < 0 ∨ 10 < m ∨ k < 0 ∨ 10 < k) : Calls Try.prog 3 #[.int .i64 n, .int .i64 m, .int .i64 k] W fun e W' => e = .returned (.bool true) ∧ Below W.heap.size W W' := by
  have HA := hide (alive_c W)
  by_cases h0 : n < 2
  · clear h
    go_enter Try.func3, Try.ntmps3
    go_wp2_with (go_at_call 9; refine HA.out.mono ?_; rintro e w1 ⟨rfl, hb⟩; have HB := hide hb; clear hb)
    go_ret
    exact ⟨rfl, HB.out⟩
  · by_cases h1 : 15 < n
    · clear h
      go_enter Try.func3, Try.ntmps3
      go_wp2_with (go_at_call 9; refine HA.out.mono ?_; rintro e w1 ⟨rfl, hb⟩; have HB := hide hb; clear hb)
      go_ret
      exact ⟨rfl, HB.out⟩
    · by_cases h2 : m < 0
      · clear h
        go_enter Try.func3, Try.ntmps3
        go_wp2_with (go_at_call 9; refine HA.out.mono ?_; rintro e w1 ⟨rfl, hb⟩; have HB := hide hb; clear hb)
        go_ret
        exact ⟨rfl, HB.out⟩
      · by_cases h3 : 10 < m
        · clear h
          go_enter Try.func3, Try.ntmps3
          go_wp2_with (go_at_call 9; refine HA.out.mono ?_; rintro e w1 ⟨rfl, hb⟩; have HB := hide hb; clear hb)
          go_ret
          exact ⟨rfl, HB.out⟩
        · by_cases h4 : k < 0
          · clear h
            go_enter Try.func3, Try.ntmps3
            go_wp2_with (go_at_call 9; refine HA.out.mono ?_; rintro e w1 ⟨rfl, hb⟩; have HB := hide hb; clear hb)
            go_ret
            exact ⟨rfl, HB.out⟩
          · have hz : 10 < k := by omega
            clear h
            go_enter Try.func3, Try.ntmps3
            go_wp2_with (go_at_call 9; refine HA.out.mono ?_; rintro e w1 ⟨rfl, hb⟩; have HB := hide hb; clear hb)
            go_ret
            exact ⟨rfl, HB.out⟩
theorem tstuck_xs {n g q : Nat} {w W : World} {F ps : List Atom} {H R : List Lk} {xs : List Int} (hg : TB g H R q ps) (hs : Sm H R q) (ho : Own n w W (ps ++ F)) (hx : Rising xs) (hm : ∀ u, u ∈ xs ↔ stuckP H R u) :
    Calls Try.prog 12 #[.pointer (some ⟨g, 0, none⟩)] W fun e W' => ∃ A c, e = .returned (.slice A xs.length c) ∧ Own n w W' (rowA 3 1 (.slice A xs.length c) xs.length (ints xs) :: (ps ++ F)) := by
  refine (tstuck_c hg hs ho).mono ?_
  rintro e W' ⟨v, ys, rfl, h1, h2, h⟩
  obtain rfl := rising_ext h1 hx (fun u => (h2 u).trans (hm u).symm)
  obtain ⟨A, c, rfl⟩ := own_slice h.head
  exact ⟨A, c, rfl, h⟩
theorem tmod_nat (a b : Nat) : Int.tmod (a : Int) (b : Int) = ((a % b : Nat) : Int) := by rw [Int.tmod_eq_emod_of_nonneg (by omega)]; rfl
set_option maxHeartbeats 4000000 in
set_option maxRecDepth 100000 in
theorem ring_in (W : World) (n m k : Nat) (h1 : 2 ≤ n) (h2 : n ≤ 15) (h3 : m ≤ 10) (h4 : k ≤ 10) : Calls Try.prog 3 #[.int .i64 n, .int .i64 m, .int .i64 k] W fun e W' => e = .returned (.bool true) ∧ Below W.heap.size W W' := by
  have HA := hide (alive_c W)
  have HN := hide (fun V => tnew_c (Own.start V))
  have t1 : ¬ (n : Int) < 2 := by omega
  have t2 : ¬ 15 < (n : Int) := by omega
  have t3 : ¬ (m : Int) < 0 := by omega
  have t4 : ¬ 10 < (m : Int) := by omega
  have t5 : ¬ (k : Int) < 0 := by omega
  have t6 : ¬ 10 < (k : Int) := by omega
  go_enter Try.func3, Try.ntmps3
  go_upto_region 6 with (first
    | (go_at_call 9; refine HA.out.mono ?_; rintro e w1 ⟨rfl, hb⟩; have HB := hide hb; clear hb)
    | (go_at_call 10; refine (HN.out _).mono ?_; rintro e w2 ⟨g, p0, rfl, t0, o0⟩; have T0 := hide (And.intro t0 o0); clear t0 o0))
  clear HA HN t1 t2 t3 t4 t5 t6
  go_loopg [9] n (fun mm v9 wr => ∃ (i : Nat) (ps : List Atom), mm = n - i ∧ i ≤ n ∧ v9 = .int .i64 i ∧ Hid (Ok (rgm fH i) []) ∧ Hid (TB g (rgm fH i) [] i ps) ∧ Hid (Own w1.heap.size w1 wr (ps ++ [])))
  case atStart => exact ⟨0, p0, by omega, by omega, rfl, hide Ok.nil, hide T0.out.1, hide T0.out.2⟩
  case round =>
    obtain ⟨i, ps, rfl, hi, rfl, HK, HT, HO⟩ := hrel
    clear T0
    by_cases hlt : i < n
    · have o1 : (i : Int) < (n : Int) := by omega
      have hok := HK.out.ask (x := fH i) (rg_wf1 (by omega))
      have KA := hide (task_to HT.out ⟨HK.out, by rw [rgm_len]; simp; omega, by omega⟩ HO.out (rg_wf1 (i := i) (by omega)) (rg_ask1 i).1 (rg_ask1 i).2.1 (rg_ask1 i).2.2)
      rw [(rg_ask1 i).2.1, (rg_ask1 i).2.2] at hok
      simp only [show (fH i).v = .agg #[.int .i64 i, .int .i64 i, .bool true] from rfl] at KA
      have HOK := hide hok
      clear hok HK HT HO
      go_wp2_with (go_at_call 11; refine KA.out.mono ?_; rintro e w3 ⟨rfl, p1, t1, o1⟩; have T1 := hide (And.intro t1 o1); clear t1 o1)
      go_roundg (n - (i + 1))
      case measure => omega
      case rel => exact ⟨i + 1, p1, by omega, by omega, by go_num, HOK, hide T1.out.1, hide T1.out.2⟩
    · obtain rfl : i = n := by omega
      have o1 : ¬ (i : Int) < (i : Int) := by omega
      go_upto_region 10 with (fail)
      go_loopg [10] i (fun mm v10 V => ∃ (j : Nat) (ps : List Atom), mm = i - j ∧ j ≤ i ∧ v10 = .int .i64 j ∧ Hid (Ok (rgm fH i) (rgm (fA i) j)) ∧ Hid (TB g (rgm fH i) (rgm (fA i) j) (i + j) ps) ∧ Hid (Own w1.heap.size w1 V (ps ++ [])))
      case atStart => exact ⟨0, ps, by omega, by omega, rfl, HK, HT, HO⟩
      case round =>
        obtain ⟨j, ps, rfl, hj, rfl, HK, HT, HO⟩ := hrel
        by_cases hlt : j < i
        · have o1 : (j : Int) < (i : Int) := by omega
          have hok := HK.out.ask (x := fA i j) (rg_wf2 h1 h2 hlt)
          have KA := hide (task_to HT.out ⟨HK.out, by rw [rgm_len, rgm_len]; omega, by omega⟩ HO.out (rg_wf2 h1 h2 hlt) (rg_ask2 h1 hlt).1 (rg_ask2 h1 hlt).2.1 (rg_ask2 h1 hlt).2.2)
          rw [(rg_ask2 h1 hlt).2.1, (rg_ask2 h1 hlt).2.2] at hok
          simp only [show (fA i j).v = .agg #[.int .i64 j, .int .i64 ((j + 1) % i : Nat), .bool true] from rfl] at KA
          have HOK := hide hok
          have hrm : Int.tmod ((j : Int) + 1) (i : Int) = (((j + 1) % i : Nat) : Int) := by rw [← tmod_nat]; rfl
          have hwp : IntKind.i64.wrap ((j : Int) + 1) = (j : Int) + 1 := IntWalk.i64_in _ (by omega)
          have hnz : ¬ (i : Int) = 0 := by omega
          generalize (((j + 1) % i : Nat) : Int) = r at KA hrm
          clear hok HK HT HO
          go_wp2_with (go_at_call 11; refine KA.out.mono ?_; rintro e w3 ⟨rfl, p1, t1, o1⟩; have T1 := hide (And.intro t1 o1); clear t1 o1)
          go_roundg (i - (j + 1))
          case measure => omega
          case rel => exact ⟨j + 1, p1, by omega, by omega, by go_num, HOK, hide T1.out.1, hide T1.out.2⟩
        · obtain rfl : j = i := by omega
          have o1 : ¬ (j : Int) < (j : Int) := by omega
          have e0 : rgm (fA j) j = rgR j 0 := by unfold rgR rgm; simp
          rw [e0] at HK HT
          clear e0
          go_upto_region 14 with (fail)
          go_loopg [11] m (fun mm v11 V => ∃ (i : Nat) (ps : List Atom), mm = m - i ∧ i ≤ m ∧ v11 = .int .i64 i ∧ Hid (Ok (rgm fH j) (rgR j i)) ∧ Hid (TB g (rgm fH j) (rgR j i) (j + j + i) ps) ∧ Hid (Own w1.heap.size w1 V (ps ++ [])))
          case atStart => exact ⟨0, ps, by omega, by omega, rfl, HK, HT, HO⟩
          case round =>
            obtain ⟨i, ps, rfl, hi, rfl, HK, HT, HO⟩ := hrel
            by_cases hlt : i < m
            · have o1 : (i : Int) < (m : Int) := by omega
              have hok := HK.out.ask (x := fB j i) (rg_wf3 h1 h2 (by omega))
              obtain ⟨a1, a2, a3⟩ := rg_ask3 (j := i) h1 h2
              have KA := hide (task_to (x := fB j i) HT.out ⟨HK.out, by unfold rgR; rw [List.length_append, rgm_len, rgm_len, rgm_len]; omega, by omega⟩ HO.out (rg_wf3 h1 h2 (by omega)) a1 a2 a3)
              rw [show askH (rgm fH j) (rgR j i) (fB j i) = _ from a2, show askR (rgm fH j) (rgR j i) (fB j i) = _ from a3] at hok
              simp only [show (fB j i).v = .agg #[.int .i64 (100 + i), .int .i64 (i % j : Nat), .bool false] from rfl] at KA
              have HOK := hide hok
              have hrm : Int.tmod (i : Int) (j : Int) = ((i % j : Nat) : Int) := tmod_nat i j
              have hwp : IntKind.i64.wrap (100 + (i : Int)) = 100 + (i : Int) := IntWalk.i64_in _ (by omega)
              have hnz : ¬ (j : Int) = 0 := by omega
              generalize ((i % j : Nat) : Int) = r at KA hrm
              clear hok HK HT HO a1 a2 a3
              go_wp2_with (go_at_call 11; refine KA.out.mono ?_; rintro e w3 ⟨rfl, p1, t1, o1⟩; have T1 := hide (And.intro t1 o1); clear t1 o1)
              go_roundg (m - (i + 1))
              case measure => omega
              case rel => exact ⟨i + 1, p1, by omega, by omega, by go_num, HOK, hide T1.out.1, hide T1.out.2⟩
            · obtain rfl : i = m := by omega
              have o1 : ¬ (i : Int) < (i : Int) := by omega
              have hok := HK.out.ask (x := f5) rg_wf4
              obtain ⟨a1, a2, a3⟩ := rg_ask4 h1 h2 h3
              have hlr : (rgR j i).length = j + i := by unfold rgR; rw [List.length_append, rgm_len, rgm_len]
              have KA := hide (task_to (x := f5) HT.out ⟨HK.out, by rw [rgm_len, hlr]; omega, by omega⟩ HO.out rg_wf4 a1 a2 a3)
              rw [a2, a3] at hok
              simp only [show f5.v = .agg #[.int .i64 500, .int .i64 50, .bool true] from rfl] at KA
              have e0 : rgR j i = rgR j i ++ rgm fD 0 := by unfold rgm; simp
              rw [e0] at hok
              have HOK := hide hok
              clear hok HK HT HO a1 a2 a3
              go_upto_region 19 with (go_at_call 11; refine KA.out.mono ?_; rintro e w3 ⟨rfl, p1, t1, o1⟩; have T1 := hide (And.intro t1 o1); clear t1 o1)
              rw [e0] at T1
              clear e0 KA
              go_loopg [12] k (fun mm v12 V => ∃ (q : Nat) (ps : List Atom), mm = k - q ∧ q ≤ k ∧ v12 = .int .i64 q ∧ Hid (Ok (rgm fH j ++ [f5]) (rgR j i ++ rgm fD q)) ∧ Hid (TB g (rgm fH j ++ [f5]) (rgR j i ++ rgm fD q) (j + j + i + 1 + q) ps) ∧ Hid (Own w1.heap.size w1 V (ps ++ [])))
              case atStart => exact ⟨0, p1, by omega, by omega, rfl, HOK, hide T1.out.1, hide T1.out.2⟩
              case round =>
                obtain ⟨q, ps, rfl, hq, rfl, HK, HT, HO⟩ := hrel
                clear T1 HOK
                have hln : (rgm fH j ++ [f5]).length + (rgR j i ++ rgm fD q).length < 549755813888 := by rw [List.length_append, List.length_append, hlr, rgm_len, rgm_len, List.length_singleton]; omega
                by_cases hlt : q < k
                · have o1 : (q : Int) < (k : Int) := by omega
                  have hok := HK.out.ask (x := fD q) (rg_wf5 (by omega))
                  obtain ⟨a1, a2, a3⟩ := rg_ask5 (k := q) h1 h2 h3 (by omega)
                  have KA := hide (task_to (x := fD q) HT.out ⟨HK.out, hln, by omega⟩ HO.out (rg_wf5 (by omega)) a1 a2 a3)
                  rw [a2, a3] at hok
                  simp only [show (fD q).v = .agg #[.int .i64 (300 + q), .int .i64 50, .bool true] from rfl] at KA
                  have HOK := hide hok
                  have hwp : IntKind.i64.wrap (300 + (q : Int)) = 300 + (q : Int) := IntWalk.i64_in _ (by omega)
                  clear hok HK HT HO a1 a2 a3 hlr hln
                  go_wp2_with (go_at_call 11; refine KA.out.mono ?_; rintro e w3 ⟨rfl, p1, t1, o1⟩; have T1 := hide (And.intro t1 o1); clear t1 o1)
                  go_roundg (k - (q + 1))
                  case measure => omega
                  case rel => exact ⟨q + 1, p1, by omega, by omega, by go_num, HOK, hide T1.out.1, hide T1.out.2⟩
                · obtain rfl : q = k := by omega
                  have o1 : ¬ (q : Int) < (q : Int) := by omega
                  have KS := hide (tstuck_xs (xs := rgS j i) HT.out ⟨HK.out, hln, by omega⟩ HO.out (rgS_rising h2) (fun u => rgS_mem.trans (rg_stuck h1 h2 h3 h4 HK.out.nd u).symm))
                  rw [rgS_len] at KS
                  have hwp : IntKind.i64.wrap ((j : Int) + (i : Int)) = (j : Int) + (i : Int) := IntWalk.i64_in _ (by omega)
                  have hnn : (((j + i : Nat) : Int) != (j : Int) + (i : Int)) = false := by simp
                  have hnn2 : (((j + i : Nat) : Int) == (j : Int) + (i : Int)) = true := by simp
                  clear HK HT HO hlr hln
                  obtain ⟨L, hL⟩ : ∃ L, j + i = L := ⟨_, rfl⟩
                  rw [hL] at KS hnn hnn2
                  have HL := hide hL
                  have hLb : L ≤ 25 := by omega
                  clear hL
                  go_upto_region 26 with (go_at_call 12; refine KS.out.mono ?_; rintro e w3 ⟨A3, c3, rfl, o3⟩; have O3 := hide o3; clear o3)
                  go_loopg [14] L (fun mm v14 V => ∃ r : Nat, mm = L - r ∧ r ≤ L ∧ v14 = .int .i64 r ∧ V = w3)
                  case atStart => exact ⟨0, by omega, by omega, rfl, rfl⟩
                  case round =>
                    obtain ⟨r, rfl, hr, rfl, rfl⟩ := hrel
                    by_cases hlt : r < L
                    · have o1 : (r : Int) < (L : Int) := by omega
                      have o2 : (0 : Int) ≤ (r : Int) := by omega
                      have hrl : r < (rgS j i).length := by rw [rgS_len, HL.out]; exact hlt
                      obtain ⟨b, off, rfl, y0⟩ := row_at (l := rgS j i) (A := A3) (c := c3) O3.out (by rw [rgS_len, HL.out]; exact List.mem_cons_self) hrl
                      rw [rgS_at] at y0
                      by_cases hrj : r < j
                      · rw [if_pos hrj] at y0
                        have o3 : ¬ (j : Int) ≤ (r : Int) := by omega
                        clear hrl
                        go_wp2
                        go_roundg (L - (r + 1))
                        case measure => omega
                        case rel => exact ⟨r + 1, by omega, by omega, by go_num, rfl⟩
                      · rw [if_neg hrj] at y0
                        have o3 : (j : Int) ≤ (r : Int) := by omega
                        have hw1 : IntKind.i64.wrap (100 + (r : Int)) = 100 + (r : Int) := IntWalk.i64_in _ (by have := HL.out; omega)
                        have hw2 : IntKind.i64.wrap (100 + (r : Int) - (j : Int)) = 100 + (r : Int) - (j : Int) := IntWalk.i64_in _ (by have := HL.out; omega)
                        clear hrl
                        go_wp2
                        go_roundg (L - (r + 1))
                        case measure => omega
                        case rel => exact ⟨r + 1, by omega, by omega, by go_num, rfl⟩
                    · obtain rfl : r = L := by omega
                      have o1 : ¬ (r : Int) < (r : Int) := by omega
                      go_wp2
                      go_ret
                      exact ⟨rfl, HB.out.trans (O3.out.below.mono HB.out.size)⟩
theorem LocksRing_walk (W : World) (n : Int) (hn : (Lit.int .i64 n).wf = true) (m : Int) (hm : (Lit.int .i64 m).wf = true) (k : Int) (hk : (Lit.int .i64 k).wf = true) : Calls Try.prog 3 #[.int .i64 n, .int .i64 m, .int .i64 k] W fun e W' => e = .returned (.bool true) ∧ Below W.heap.size W W' := by
  by_cases h : n < 2 ∨ 15 < n ∨ m < 0 ∨ 10 < m ∨ k < 0 ∨ 10 < k
  · exact ring_out W n m k h
  · obtain ⟨N, rfl⟩ := Int.eq_ofNat_of_zero_le (show 0 ≤ n by omega)
    obtain ⟨M, rfl⟩ := Int.eq_ofNat_of_zero_le (show 0 ≤ m by omega)
    obtain ⟨K, rfl⟩ := Int.eq_ofNat_of_zero_le (show 0 ≤ k by omega)
    exact ring_in W N M K (by omega) (by omega) (by omega) (by omega)
end Go.Proofs.Ytcmiboipgngjaaa
