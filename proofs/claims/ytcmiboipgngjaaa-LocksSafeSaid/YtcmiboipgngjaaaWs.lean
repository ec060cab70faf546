/-
  The walk of LocksShared. No condition.
-/
import Derived.Test.YtcmiboipgngjaaaAl
import Derived.Test.YtcmiboipgngjaaaLs
namespace Go.Proofs.Ytcmiboipgngjaaa
set_option linter.unusedVariables false
set_option linter.unusedSimpArgs false
open Go.RowKit Go.Maps

section
variable {n g q : Nat} {w W : World} {F ps X : List Atom} {H R : List Lk}
theorem tholders_n (hg : TB g H R q ps) (hs : Sm H R q) (ho : Own n w W (ps ++ F)) (k : Int) (hw : (Lit.int .i64 k).wf = true) {xs : List Int} (e : sortI ((onT k H).map Lk.th) = xs) :
    Calls Try.prog 15 #[.pointer (some ⟨g, 0, none⟩), .int .i64 k] W fun e W' => ∃ A c, e = .returned (.slice A xs.length c) ∧ Own n w W' (rowA 3 1 (.slice A xs.length c) xs.length (ints xs) :: (ps ++ F)) := by
  subst e
  refine (tholders_c hg hs ho k hw).mono ?_
  rintro e W' ⟨v, rfl, h⟩
  obtain ⟨A, c, rfl⟩ := own_slice h.head
  exact ⟨A, c, rfl, h⟩
theorem trel_to (hg : TB g H R q ps) (hs : Sm H R q) (ho : Own n w W (ps ++ F)) (th k : Int) (hw : (Lit.int .i64 k).wf = true) {gr H' R' : List Lk} (e1 : gotP H R th k = gr) (e2 : relH H R th k = H') (e3 : relR H R th k = R') :
    Calls Try.prog 14 #[.pointer (some ⟨g, 0, none⟩), .int .i64 th, .int .i64 k] W fun e W' => ∃ A c ps', e = .returned (.slice A gr.length c) ∧ TB g H' R' q ps' ∧ Own n w W' (offA 3 (.slice A gr.length c) gr.length (cellsK gr) :: (ps' ++ F)) := by
  subst e1
  subst e2
  subst e3
  refine (trel_c hg hs ho th k hw).mono ?_
  rintro e W' ⟨v, ps', rfl, h1, h⟩
  obtain ⟨A, c, rfl⟩ := off_slice h.head
  exact ⟨A, c, ps', rfl, h1, h⟩
theorem tstuck_no (hg : TB g H R q ps) (hs : Sm H R q) (ho : Own n w W (ps ++ F)) (hn : ∀ u, ¬ stuckP H R u) :
    Calls Try.prog 12 #[.pointer (some ⟨g, 0, none⟩)] W fun e W' => ∃ A c, e = .returned (.slice A 0 c) ∧ Own n w W' (ps ++ F) := by
  refine (tstuck_c hg hs ho).mono ?_
  rintro e W' ⟨v, xs, rfl, h1, h2, h⟩
  have : xs = [] := List.eq_nil_iff_forall_not_mem.2 fun x hx => hn x ((h2 x).1 hx)
  subst this
  obtain ⟨A, c, rfl⟩ := own_slice h.head
  exact ⟨A, c, rfl, h.tail⟩
end
theorem wf_1 : (Lit.int .i64 1).wf = true := wf_small (by decide)
theorem shared_out (W : World) (n m : Int) (h : n < 1 ∨ 20 < n ∨ m < 0 ∨ 20 < m) : Calls Try.prog 6 #[.int .i64 n, .int .i64 m] W fun e W' => e = .returned (.bool true) ∧ Below W.heap.size W W' := by
  have HA := hide (alive_c W)
  by_cases h1 : n < 1
  · clear h
    go_enter Try.func6, Try.ntmps6
    go_wp2_with (go_at_call 9; refine HA.out.mono ?_; rintro e w1 ⟨rfl, hb⟩; have HB := hide hb; clear hb)
    go_ret
    exact ⟨rfl, HB.out⟩
  · by_cases h2 : 20 < n
    · clear h
      go_enter Try.func6, Try.ntmps6
      go_wp2_with (go_at_call 9; refine HA.out.mono ?_; rintro e w1 ⟨rfl, hb⟩; have HB := hide hb; clear hb)
      go_ret
      exact ⟨rfl, HB.out⟩
    · by_cases h3 : m < 0
      · clear h
        go_enter Try.func6, Try.ntmps6
        go_wp2_with (go_at_call 9; refine HA.out.mono ?_; rintro e w1 ⟨rfl, hb⟩; have HB := hide hb; clear hb)
        go_ret
        exact ⟨rfl, HB.out⟩
      · have h4 : 20 < m := by omega
        clear h
        go_enter Try.func6, Try.ntmps6
        go_wp2_with (go_at_call 9; refine HA.out.mono ?_; rintro e w1 ⟨rfl, hb⟩; have HB := hide hb; clear hb)
        go_ret
        exact ⟨rfl, HB.out⟩
/-- the state while the holders let go -/
def shSt (N M i : Nat) : List Lk × List Lk := if i < N then (shH i (N - i), sh100 :: shR M) else ([sh100], shR M)
set_option maxHeartbeats 4000000 in
set_option maxRecDepth 100000 in
theorem shared_in (W : World) (N M : Nat) (h1 : 1 ≤ N) (h2 : N ≤ 20) (h3 : M ≤ 20) : Calls Try.prog 6 #[.int .i64 N, .int .i64 M] W fun e W' => e = .returned (.bool true) ∧ Below W.heap.size W W' := by
  have HA := hide (alive_c W)
  have HN := hide (fun V => tnew_c (Own.start V))
  have t1 : ¬ (N : Int) < 1 := by omega
  have t2 : ¬ 20 < (N : Int) := by omega
  have t3 : ¬ (M : Int) < 0 := by omega
  have t4 : ¬ 20 < (M : Int) := by omega
  have K1 := hide (fun (i k g : Nat) ps w V hi hg ho => @task_to k g i w V [] ps (shH 0 i) [] (shM i) true (shH 0 (i + 1)) [] hg ⟨sh_ok1 i (show i ≤ 20 from hi), by rw [shH_len]; simp; omega, by omega⟩ ho (wf_mk ⟨by show (-1000000 : Int) ≤ i; omega, by show (i : Int) ≤ 1000000; omega⟩ (show -1000000 ≤ (1 : Int) ∧ (1 : Int) ≤ 1000000 from ⟨by decide, by decide⟩)) (sh_ask1 i).1 (sh_ask1 i).2.1 (sh_ask1 i).2.2)
  simp only [show ∀ i : Nat, (shM i).v = .agg #[.int .i64 i, .int .i64 1, .bool false] from fun i => rfl] at K1
  go_enter Try.func6, Try.ntmps6
  go_upto_region 6 with (first
    | (go_at_call 9; refine HA.out.mono ?_; rintro e w1 ⟨rfl, hb⟩; have HB := hide hb; clear hb)
    | (go_at_call 10; refine (HN.out _).mono ?_; rintro e w2 ⟨g, p0, rfl, t0, o0⟩; have T0 := hide (And.intro t0 o0); clear t0 o0))
  clear HA HN t1 t2 t3 t4
  go_loopg [7] N (fun mm v7 wr => ∃ (i : Nat) (ps : List Atom), mm = N - i ∧ i ≤ N ∧ v7 = .int .i64 i ∧ Hid (TB g (shH 0 i) [] i ps) ∧ Hid (Own w1.heap.size w1 wr (ps ++ [])))
  case atStart => exact ⟨0, p0, by omega, by omega, rfl, hide T0.out.1, hide T0.out.2⟩
  case round =>
    obtain ⟨i, ps, rfl, hi, rfl, HT, HO⟩ := hrel
    clear T0
    by_cases hlt : i < N
    · have o1 : (i : Int) < (N : Int) := by omega
      have HK := hide (K1.out i _ _ _ _ _ (by omega) HT.out HO.out)
      go_wp2_with (go_at_call 11; refine HK.out.mono ?_; rintro e w3 ⟨rfl, p1, t1, o1⟩; have T1 := hide (And.intro t1 o1); clear t1 o1)
      go_roundg (N - (i + 1))
      case measure => omega
      case rel => exact ⟨i + 1, p1, by omega, by omega, by go_num, hide T1.out.1, hide T1.out.2⟩
    · obtain rfl : i = N := by omega
      have o1 : ¬ (i : Int) < (i : Int) := by omega
      have K2 := hide (task_to (x := sh100) HT.out ⟨sh_ok1 i h2, by rw [shH_len]; simp; omega, by omega⟩ HO.out (wf_mk ⟨by decide, by decide⟩ ⟨by decide, by decide⟩) (sh_ask2 h1 h2).1 (sh_ask2 h1 h2).2.1 (sh_ask2 h1 h2).2.2)
      simp only [show sh100.v = .agg #[.int .i64 100, .int .i64 1, .bool true] from rfl] at K2
      clear K1
      go_upto_region 13 with (go_at_call 11; refine K2.out.mono ?_; rintro e w3 ⟨rfl, p1, t1, o1⟩; have T1 := hide (And.intro t1 o1); clear t1 o1)
      clear K2 HT HO
      have K3 := hide (fun (j g : Nat) ps V (hj : j < 20) hg ho => @task_to w1.heap.size g (i + 1 + j) w1 V [] ps (shH 0 i) (sh100 :: shR j) (shB j) false (shH 0 i) (sh100 :: shR (j + 1)) hg ⟨sh_ok2 h1 h2 j (by omega), by rw [shH_len, List.length_cons, shR_len]; omega, by omega⟩ ho (wf_mk ⟨by show (-1000000 : Int) ≤ 200 + (j : Int); omega, by show 200 + (j : Int) ≤ 1000000; omega⟩ (show -1000000 ≤ (1 : Int) ∧ (1 : Int) ≤ 1000000 from ⟨by decide, by decide⟩)) (sh_ask3 h2).1 (sh_ask3 h2).2.1 (sh_ask3 h2).2.2)
      simp only [show ∀ j : Nat, (shB j).v = .agg #[.int .i64 (200 + j), .int .i64 1, .bool false] from fun i => rfl] at K3
      go_loopg [10] M (fun mm v10 wr => ∃ (j : Nat) (ps : List Atom), mm = M - j ∧ j ≤ M ∧ v10 = .int .i64 j ∧ Hid (TB g (shH 0 i) (sh100 :: shR j) (i + 1 + j) ps) ∧ Hid (Own w1.heap.size w1 wr (ps ++ [])))
      case atStart => exact ⟨0, p1, by omega, by omega, rfl, hide T1.out.1, hide T1.out.2⟩
      case round =>
        obtain ⟨j, ps, rfl, hj, rfl, HT, HO⟩ := hrel
        clear T1
        by_cases hlt2 : j < M
        · have o2 : (j : Int) < (M : Int) := by omega
          have hwr : IntKind.i64.wrap (200 + (j : Int)) = 200 + (j : Int) := IntWalk.i64_in _ (by omega)
          have HK := hide (K3.out j _ _ _ (by omega) HT.out HO.out)
          go_wp2_with (go_at_call 11; refine HK.out.mono ?_; rintro e w3 ⟨rfl, p1, t1, o1⟩; have T1 := hide (And.intro t1 o1); clear t1 o1)
          go_roundg (M - (j + 1))
          case measure => omega
          case rel => exact ⟨j + 1, p1, by omega, by omega, by go_num, hide T1.out.1, hide T1.out.2⟩
        · obtain rfl : j = M := by omega
          have o2 : ¬ (j : Int) < (j : Int) := by omega
          clear K3
          have hlenH : (shH 0 i).length + (sh100 :: shR j).length < 549755813888 := by rw [shH_len, List.length_cons, shR_len]; omega
          have K4 := hide (tholders_n HT.out ⟨sh_ok2 h1 h2 j h3, hlenH, by omega⟩ HO.out 1 wf_1 (xs := sortI ((onT 1 (shH 0 i)).map Lk.th)) rfl)
          have hlen4 : (sortI ((onT 1 (shH 0 i)).map Lk.th)).length = i := by rw [sortI_len, List.length_map, onT_shH, shH_len]
          rw [hlen4] at K4
          have K5 := hide (fun V F h => @tstuck_no w1.heap.size g (i + 1 + j) w1 V F ps (shH 0 i) (sh100 :: shR j) HT.out ⟨sh_ok2 h1 h2 j h3, hlenH, by omega⟩ h (sh_none h1 h2 h3))
          clear hlen4
          go_upto_region 21 with (first
            | (go_at_call 15; refine K4.out.mono ?_; rintro e w4 ⟨A4, c4, rfl, o4⟩; have T4 := hide (o4.tail); clear o4)
            | (go_at_call 12; refine (K5.out _ _ T4.out).mono ?_; rintro e w5 ⟨A5, c5, rfl, o5⟩; have T5 := hide o5; clear o5))
          have HOK := hide (show Ok (shSt i j 0).1 (shSt i j 0).2 by unfold shSt; rw [if_pos (by omega)]; exact sh_ok2 h1 h2 j h3)
          have HTB := hide (show TB g (shSt i j 0).1 (shSt i j 0).2 (i + 1 + j) ps by unfold shSt; rw [if_pos (by omega)]; exact HT.out)
          clear K4 K5 T4 HT hlenH
          go_loopg [12] i (fun mm v12 wr => ∃ (r : Nat) (ps : List Atom), mm = i - r ∧ r ≤ i ∧ v12 = .int .i64 r ∧ Hid (TB g (shSt i j r).1 (shSt i j r).2 (i + 1 + j) ps) ∧ Hid (Ok (shSt i j r).1 (shSt i j r).2) ∧ Hid (Own w1.heap.size w1 wr (ps ++ [])))
          case atStart => exact ⟨0, ps, by omega, by omega, rfl, HTB, HOK, T5⟩
          case round =>
            obtain ⟨r, ps, rfl, hr, rfl, HT, HK, HO⟩ := hrel
            clear T5 HTB HOK
            by_cases hlt3 : r < i
            · have o3 : (r : Int) < (i : Int) := by omega
              have hw2 : IntKind.i64.wrap ((i : Int) - 1) = (i : Int) - 1 := IntWalk.i64_in _ (by omega)
              have hst : shSt i j r = (shH r (i - r), sh100 :: shR j) := by unfold shSt; rw [if_pos hlt3]
              have hT := HT.out
              have hK := HK.out
              rw [hst] at hT hK
              have hsm : Sm (shH r (i - r)) (sh100 :: shR j) (i + 1 + j) := ⟨hK, by rw [shH_len, List.length_cons, shR_len]; omega, by omega⟩
              by_cases hlast : r + 1 < i
              · obtain ⟨k, hk⟩ : ∃ k, i - r = k + 2 := ⟨i - r - 2, by omega⟩
                rw [hk] at hT hK hsm
                obtain ⟨e1, e2, e3⟩ := sh_rel r k j
                have hq : ((r : Int) == (i : Int) - 1) = false := by simp; omega
                have hnx : shSt i j (r + 1) = (shH (r + 1) (k + 1), sh100 :: shR j) := by unfold shSt; rw [if_pos hlast, show i - (r + 1) = k + 1 by omega]
                have hok2 := hK.rel r 1
                rw [e2, e3] at hok2
                have KR := hide (trel_to hT hsm HO.out r 1 wf_1 e1 e2 e3)
                have HNX := hide hnx
                have HOK2 := hide hok2
                clear hst hT hK hsm hk e1 e2 e3 hnx hok2
                go_wp2_with (go_at_call 14; refine KR.out.mono ?_; rintro e w6 ⟨A6, c6, p6, rfl, t6, o6⟩; have T6 := hide (And.intro t6 o6.tail); clear t6 o6)
                go_roundg (i - (r + 1))
                case measure => omega
                case rel => exact ⟨r + 1, p6, by omega, by omega, by go_num, hide (by rw [HNX.out]; exact T6.out.1), hide (by rw [HNX.out]; exact HOK2.out), hide T6.out.2⟩
              · have hk : i - r = 1 := by omega
                rw [hk] at hT hK hsm
                obtain ⟨e1, e2, e3⟩ := sh_last r j
                have hq : ((r : Int) == (i : Int) - 1) = true := by simp; omega
                have hnx : shSt i j (r + 1) = ([sh100], shR j) := by unfold shSt; rw [if_neg hlast]
                have hok2 := hK.rel r 1
                rw [e2, e3] at hok2
                have KR := hide (trel_to hT hsm HO.out r 1 wf_1 e1 e2 e3)
                have HNX := hide hnx
                have HOK2 := hide hok2
                clear hst hT hK hsm hk e1 e2 e3 hnx hok2
                go_wp2_with (go_at_call 14; refine KR.out.mono ?_; rintro e w6 ⟨A6, c6, p6, rfl, t6, o6⟩; have T6 := hide (And.intro t6 o6.tail); clear t6 o6)
                go_roundg (i - (r + 1))
                case measure => omega
                case rel => exact ⟨r + 1, p6, by omega, by omega, by go_num, hide (by rw [HNX.out]; exact T6.out.1), hide (by rw [HNX.out]; exact HOK2.out), hide T6.out.2⟩
            · obtain rfl : r = i := by omega
              have o3 : ¬ (r : Int) < (r : Int) := by omega
              have hst : shSt r j r = ([sh100], shR j) := by unfold shSt; rw [if_neg (by omega)]
              have hT := HT.out
              have hK := HK.out
              rw [hst] at hT hK
              have hsm : Sm [sh100] (shR j) (r + 1 + j) := ⟨hK, by rw [shR_len]; simp; omega, by omega⟩
              have KH := hide (tholders_n hT hsm HO.out 1 wf_1 (xs := [100]) (by rw [show onT 1 [sh100] = [sh100] from rfl]; simp [sortI, sh100]))
              obtain ⟨e1, e2⟩ := sh_all j
              have e3 : relR [sh100] (shR j) 100 1 = [] := by
                unfold relR
                rw [e1]
                exact List.filter_eq_nil_iff.2 fun x hx => by simp; exact ⟨x, hx, rfl⟩
              have KR := hide (fun V F (h : Own w1.heap.size w1 V (ps ++ F)) => trel_to hT hsm h 100 1 wf_1 e1 e2 e3)
              have hok3 := hK.rel 100 1
              rw [e2, e3] at hok3
              have KF := hide (fun V F p7 (t7 : TB g (shR j) [] (r + 1 + j) p7) (h : Own w1.heap.size w1 V (p7 ++ F)) => tholders_n t7 ⟨hok3, by rw [shR_len]; simp; omega, by omega⟩ h 1 wf_1 (xs := sortI ((onT 1 (shR j)).map Lk.th)) rfl)
              have hlen4 : (sortI ((onT 1 (shR j)).map Lk.th)).length = j := by rw [sortI_len, List.length_map, onT_shR, shR_len]
              simp only [hlen4, shR_len] at KF KR
              clear hst hT hK hsm e1 e2 e3 hok3 hlen4 HT HK
              go_wp2_with (first
                | (have hx := T9; clear hx; go_at_call 15; refine (KF.out _ _ _ T9.out.1 T9.out.2).mono ?_; rintro e wb ⟨Ab, cb, rfl, ob⟩; have TB2 := hide ob; clear ob)
                | (go_at_call 15; refine KH.out.mono ?_; rintro e w7 ⟨A7, c7, rfl, o7⟩; have T7 := hide o7; have HS := hide (same17_c (l1 := [100]) (l2 := [100]) (Own.newRow (e := 3) (sz := 1) o7 #[.int .i64 100] 1 (by unfold maxLen; omega) rfl) (A := A7) (c := c7) (B := some ⟨w7.heap.size, 0, none⟩) (d := 1) (by simp) (by simp [ints]) (by simp) (by simp)); rw [sameI_self] at HS; clear o7)
                | (go_at_call 17; refine HS.out.mono ?_; rintro e w8 ⟨rfl, o8⟩; have T8 := hide o8.tail.tail; clear o8)
                | (go_at_call 14; refine (KR.out _ _ T8.out).mono ?_; rintro e w9 ⟨A9, c9, p9, rfl, t9, o9⟩; have T9 := hide (And.intro t9 o9.tail); clear t9 o9))
              go_ret
              exact ⟨by simp, HB.out.trans (TB2.out.below.mono HB.out.size)⟩
theorem LocksShared_walk (W : World) (n : Int) (hn : (Lit.int .i64 n).wf = true) (m : Int) (hm : (Lit.int .i64 m).wf = true) : Calls Try.prog 6 #[.int .i64 n, .int .i64 m] W fun e W' => e = .returned (.bool true) ∧ Below W.heap.size W W' := by
  by_cases h : n < 1 ∨ 20 < n ∨ m < 0 ∨ 20 < m
  · exact shared_out W n m h
  · obtain ⟨N, rfl⟩ := Int.eq_ofNat_of_zero_le (show 0 ≤ n by omega)
    obtain ⟨M, rfl⟩ := Int.eq_ofNat_of_zero_le (show 0 ≤ m by omega)
    exact shared_in W N M (by omega) (by omega) (by omega)
end Go.Proofs.Ytcmiboipgngjaaa
