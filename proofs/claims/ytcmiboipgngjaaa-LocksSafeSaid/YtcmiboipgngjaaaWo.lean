/-
  The walk of LocksOrder. No condition.
-/
import Derived.Test.YtcmiboipgngjaaaLo
namespace Go.Proofs.Ytcmiboipgngjaaa
set_option linter.unusedVariables false
set_option linter.unusedSimpArgs false
open Go.RowKit Go.Maps

theorem order_out (W : World) (A : Option Addr) (len cap : Nat) (n : Int) (h : 100 < len ∨ n < 1 ∨ 20 < n) : Calls Try.prog 4 #[.slice A len cap, .int .i64 n] W fun e W' => e = .returned (.bool true) ∧ Below W.heap.size W W' := by
  have HA := hide (alive_c W)
  by_cases h1 : (100 : Int) < (len : Int)
  · clear h
    go_enter Try.func4, Try.ntmps4
    go_wp2_with (go_at_call 9; refine HA.out.mono ?_; rintro e w1 ⟨rfl, hb⟩; have HB := hide hb; clear hb)
    go_ret
    exact ⟨rfl, HB.out⟩
  · by_cases h2 : n < 1
    · clear h
      go_enter Try.func4, Try.ntmps4
      go_wp2_with (go_at_call 9; refine HA.out.mono ?_; rintro e w1 ⟨rfl, hb⟩; have HB := hide hb; clear hb)
      go_ret
      exact ⟨rfl, HB.out⟩
    · have h3 : 20 < n := by omega
      clear h
      go_enter Try.func4, Try.ntmps4
      go_wp2_with (go_at_call 9; refine HA.out.mono ?_; rintro e w1 ⟨rfl, hb⟩; have HB := hide hb; clear hb)
      go_ret
      exact ⟨rfl, HB.out⟩
theorem make28 (N : Nat) (hN : N ≤ 1000) (V : World) : (Instr.makeSlice 28 (.int .i64 (N : Int)) (.int .i64 (N : Int))).run Try.prog V = .ok (.slice (some ⟨V.heap.size, 0, none⟩) N N) (V.alloc (.cells (madeCells #[.int .i64 0] N) 3)) := by
  obtain ⟨i0, hi, hz0, hz1, hz2⟩ := info_parts info3
  have := run_make (P := Try.prog) V 28 3 i0 (.int .i64 0) Try.underlying28 hi hz0 .i64 .i64 (N : Int) (N : Int) (by omega) (by omega) (by rw [hz2]; omega) (by omega)
  rw [hz1] at this
  simpa [Value.cells] using this
/-- the state of the loop -/
structure OrP (k : Nat) (w1 : World) (g bl q : Nat) (L : List Int) (W : World) : Prop where
  ex : ∃ H R ps, TB g H R q ps ∧ Ok H R ∧ H.length + R.length ≤ q ∧ Ord H R L ∧ Own k w1 W (ps ++ [rowA 3 1 (.slice (some ⟨bl, 0, none⟩) L.length L.length) L.length (ints L)])
set_option maxHeartbeats 4000000 in
set_option maxRecDepth 100000 in
theorem order_in (W : World) (A : Option Addr) (cap : Nat) (zs : List Int) (N : Nat) (hl : zs.length ≤ 100) (h1 : 1 ≤ N) (h2 : N ≤ 20) (hw : ∀ x ∈ zs, (Lit.int .i64 x).wf = true) (hx : Ints W.heap.size W A zs) : Calls Try.prog 4 #[.slice A zs.length cap, .int .i64 N] W fun e W' => e = .returned (.bool true) ∧ Below W.heap.size W W' := by
  have HA := hide (alive_c W)
  have HN := hide (fun V => tnew_c (Own.start V))
  have t1 : ¬ (100 : Int) < (zs.length : Int) := by omega
  have t2 : ¬ (N : Int) < 1 := by omega
  have t3 : ¬ 20 < (N : Int) := by omega
  have HX := hide hx
  have HW := hide hw
  have hmk := make28 N (by omega)
  clear hx hw
  go_enter Try.func4, Try.ntmps4
  go_upto_region 7 with (first
    | (go_at_call 9; refine HA.out.mono ?_; rintro e w1 ⟨rfl, hb⟩; have HB := hide hb; have HX1 := hide (HX.out.below hb (Nat.le_refl _)); clear hb)
    | (go_at_call 10; refine (HN.out _).mono ?_; rintro e w2 ⟨g, p0, rfl, t0, o0⟩; have T0 := hide (And.intro t0 o0); clear t0 o0))
  have HX2 := hide (HX1.out.more HB.out.size)
  have HP : Hid (OrP w1.heap.size w1 g w2.heap.size 0 (List.replicate N 0) (w2.alloc (.cells (madeCells #[.int .i64 0] N) 3))) := hide ⟨[], [], p0, T0.out.1, Ok.nil, Nat.le_refl _, Ord.nil N, by
    have h1 := T0.out.2.newRow (e := 3) (sz := 1) (madeCells #[.int .i64 0] N) N (by unfold maxLen; omega) (by rw [size_madeCells]; omega)
    rw [toList_madeCells_one] at h1
    rw [List.length_replicate, show ints (List.replicate N 0) = List.replicate N (.int .i64 0) from by simp [ints]]
    exact h1.back⟩
  clear HA HN t1 t2 t3 hmk T0 HX HX1
  generalize w2.alloc (.cells (madeCells #[.int .i64 0] N) 3) = w3 at HP ⊢
  generalize w2.heap.size = bl at HP ⊢
  go_loopg [8] zs.length (fun mm v8 wr => ∃ (i : Nat) (L : List Int), mm = zs.length - i ∧ i ≤ zs.length ∧ v8 = .int .i64 i ∧ L.length = N ∧ Hid (OrP w1.heap.size w1 g bl i L wr))
  case atStart => exact ⟨0, _, by omega, by omega, rfl, by simp, HP⟩
  case round =>
    obtain ⟨i, L, rfl, hi, rfl, hL, HP1⟩ := hrel
    clear HP
    obtain ⟨H, R, ps, ht, hok, hlen, hord, ho⟩ := HP1.out.ex
    have hsm : Sm H R i := ⟨hok, by omega, by omega⟩
    by_cases hlt : i < zs.length
    · have o1 : (i : Int) < (zs.length : Int) := by omega
      have o0 : (0 : Int) ≤ (i : Int) := by omega
      obtain ⟨k, hk⟩ : ∃ k, i % N = k := ⟨_, rfl⟩
      have hkN : k < N := by rw [← hk]; exact Nat.mod_lt _ (by omega)
      have hrm : Int.tmod (i : Int) (N : Int) = (k : Int) := by rw [tmod_nat, hk]
      have hnz : ¬ (N : Int) = 0 := by omega
      have hwk : (Lit.int .i64 (k : Int)).wf = true := wf_big ⟨by omega, by omega⟩
      rw [hL] at ho
      have KW := hide (twaits_c ht ho (k : Int) hwk)
      obtain ⟨y, hy⟩ : ∃ y, (fW R (k : Int)).getD zl = y := ⟨_, rfl⟩
      rw [hy] at KW
      unfold Lk.v at KW
      have HST := hide (fun (wq : Bool) (h : waitsP R (k : Int) = wq) => h)
      obtain ⟨wq, hwq⟩ : ∃ wq, waitsP R (k : Int) = wq := ⟨_, rfl⟩
      rw [hwq] at KW
      have HXC := hide (fun V (h : Below w1.heap.size w1 V) => show ∃ b off, A = some ⟨b, off, none⟩ ∧ V.cell? ⟨b, off + i, none⟩ = some (.int .i64 zs[i]) from by
        obtain ⟨b, off, e, -, hc⟩ := HX2.out.below h (Nat.le_refl _) (by intro e; rw [e] at hlt; simp at hlt)
        have := hc i hlt
        rw [show zs.getD i 0 = zs[i] by simp [hlt]] at this
        exact ⟨b, off, e, this⟩)
      have hwi := HW.out _ (List.getElem_mem hlt)
      obtain ⟨z, hz⟩ : ∃ z, zs[i] = z := ⟨_, rfl⟩
      rw [hz] at HXC hwi
      have HLC := hide (fun V F (h : Own w1.heap.size w1 V (F ++ [rowA 3 1 (.slice (some ⟨bl, 0, none⟩) L.length L.length) L.length (ints L)])) => show V.cell? ⟨bl, k, none⟩ = some (.int .i64 (L.getD k 0)) ∧ V.frozen? ⟨bl, k, none⟩ = false from by
        have hr : V.ownsRow 0 3 1 (.slice (some ⟨bl, 0, none⟩) L.length L.length) L.length (ints L) := h.hold (rowA 3 1 (.slice (some ⟨bl, 0, none⟩) L.length L.length) L.length (ints L)) (by simp)
        refine ⟨?_, hr.frozenAt _⟩
        rw [hr.cellAt k (by omega)]
        simp [ints, hL, hkN])
      rw [hL] at HLC
      have HO := hide (And.intro hsm (And.intro hord (And.intro hwq hlen)))
      have HT := hide ht
      clear ht hok hlen hord ho hsm hy hwq hk hz HP1 HST
      go_upto_region 11 with (go_at_call 13; refine KW.out.mono ?_; rintro e w4 ⟨rfl, o4⟩; have O4 := hide o4; clear o4)
      have O5 := hide (O4.out.alloc (.cells #[.int .i64 y.th, .int .i64 y.tg, .bool y.al] 27))
      generalize w4.alloc (.cells #[.int .i64 y.th, .int .i64 y.tg, .bool y.al] 27) = w5 at O5 ⊢
      generalize w4.heap.size = bw4 at ⊢
      obtain ⟨b, off, rfl, y0⟩ := HXC.out w5 O5.out.below
      obtain ⟨y1, y2⟩ := HLC.out w5 ps O5.out
      have o2 : (0 : Int) ≤ (k : Int) := by omega
      have o3 : (k : Int) < (N : Int) := by omega
      have HSK := hide (fun (nq : Nat) => show OrP w1.heap.size w1 g bl (i + 1) L (w5.drewN nq) from ⟨H, R, ps, by obtain ⟨bt, bw, l, e, h1, h2⟩ := HT.out; exact ⟨bt, bw, l, e, h1, by omega⟩, HO.out.1.ok, by have := HO.out.2.2.2; omega, HO.out.2.1, by rw [hL]; exact O5.out.drewN nq⟩)
      cases wq with
      | true =>
        clear HXC HLC
        go_quiet (fail)
        go_wp2
        go_roundg (zs.length - (i + 1))
        case measure => omega
        case rel => exact ⟨i + 1, L, by omega, by omega, by go_num, hL, hide (HSK.out _)⟩
      | false =>
        obtain ⟨lk, hlk⟩ : ∃ lk, L.getD k 0 = lk := ⟨_, rfl⟩
        rw [hlk] at y1 HLC
        have HLK := hide hlk
        clear hlk
        by_cases hle : z ≤ lk
        · clear HXC HLC
          go_quiet (fail)
          go_wp2
          go_roundg (zs.length - (i + 1))
          case measure => omega
          case rel => exact ⟨i + 1, L, by omega, by omega, by go_num, hL, hide (HSK.out _)⟩
        · by_cases hbg : 1000 < z
          · clear HXC HLC
            go_quiet (fail)
            go_wp2
            go_roundg (zs.length - (i + 1))
            case measure => omega
            case rel => exact ⟨i + 1, L, by omega, by omega, by go_num, hL, hide (HSK.out _)⟩
          · have KA := hide (fun (bb : Bool) V F h => @task_c w1.heap.size g i w1 V F ps H R HT.out HO.out.1 h ⟨k, z, bb⟩ ⟨hwk, hwi⟩)
            simp only [show ∀ bb, (⟨(k : Int), z, bb⟩ : Lk).v = .agg #[.int .i64 k, .int .i64 z, .bool bb] from fun _ => rfl] at KA
            have HNX := hide (fun (bb : Bool) => And.intro (HO.out.1.ok.ask (x := ⟨k, z, bb⟩) ⟨hwk, hwi⟩) (And.intro (ask_len H R ⟨k, z, bb⟩) (HO.out.2.1.ask (x := ⟨k, z, bb⟩) ⟨o2, by rw [hL]; exact o3⟩ (by show L.getD (k : Int).toNat 0 < z; rw [Int.toNat_natCast, HLK.out]; omega) HO.out.2.2.1)))
            have HQ := hide HO.out.2.2.2
            clear HSK HO HT
            go_quiet (fail)
            have O6 := hide (O5.out.drewN nq)
            have y3 : (w5.drewN nq).cell? ⟨b, off + i, none⟩ = some (.int .i64 z) := y0
            clear O5 y0 y1 y2
            generalize w5.drewN nq = w6 at O6 y3 ⊢
            go_wp2_with (go_at_call 11; refine (KA.out _ _ _ O6.out).mono ?_; rintro e w7 ⟨rfl, p7, t7, o7⟩; have T7 := hide (And.intro t7 o7); obtain ⟨b', off', e7, y4⟩ := HXC.out w7 o7.below; cases e7; obtain ⟨y5, y6⟩ := HLC.out w7 p7 o7; clear t7 o7)
            go_roundg (zs.length - (i + 1))
            case measure => omega
            case rel =>
              refine ⟨i + 1, L.set k z, by omega, by omega, by go_num, by rw [List.length_set]; exact hL, hide ⟨_, _, p7, T7.out.1, (HNX.out _).1, by have := (HNX.out (decide (0 < (i : Int) % 3))).2.1; have := HQ.out; omega, (HNX.out _).2.2, ?_⟩⟩
              have h8 := (T7.out.2.front.setRow k (.int .i64 z)).back
              rw [List.length_set, hL]
              have e8 : ints (L.set k z) = (ints L).set k (.int .i64 z) := by unfold ints; rw [List.map_set]
              rw [e8]
              exact h8
    · obtain rfl : i = zs.length := by omega
      have o1 : ¬ (zs.length : Int) < (zs.length : Int) := by omega
      have KS := hide (tstuck_no ht hsm ho (hord.none_ hok.nd))
      clear ht hok hlen hord ho hsm HP1
      go_wp2_with (go_at_call 12; refine KS.out.mono ?_; rintro e w4 ⟨A4, c4, rfl, o4⟩; have O4 := hide o4; clear o4)
      go_ret
      exact ⟨by simp, HB.out.trans (O4.out.below.mono HB.out.size)⟩
theorem LocksOrder_walk (W : World) (A : Option Addr) (len cap : Nat) (zs : List Int) (hlen : zs.length = len) (hmax : len ≤ maxLen) (hwf : ∀ n ∈ zs, (Lit.int .i64 n).wf = true) (hc : zs ≠ [] → ∃ x, A = some x ∧ x.block < W.heap.size ∧ ∀ j, j < zs.length → W.cell? (x.add j) = some (.int .i64 (zs.getD j 0))) (n : Int) (hn : (Lit.int .i64 n).wf = true) :
    Calls Try.prog 4 #[.slice A len cap, .int .i64 n] W fun e W' => e = .returned (.bool true) ∧ Below W.heap.size W W' := by
  subst hlen
  by_cases h : 100 < zs.length ∨ n < 1 ∨ 20 < n
  · exact order_out W A zs.length cap n h
  · obtain ⟨N, rfl⟩ := Int.eq_ofNat_of_zero_le (show 0 ≤ n by omega)
    exact order_in W A cap zs N (by omega) (by omega) (by omega) hwf (Ints.of_open hc)
end Go.Proofs.Ytcmiboipgngjaaa
