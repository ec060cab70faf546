/-
  The machine side of functions of a law, written by a program of this session out of the translation (see hp.py).
-/
import Derived.Test.YtnmlmbbacicojaaMWalkLinks3
namespace Go.Proofs.Ytnmlmbbacicojaa.PWalkSame
open Go.RowKit Go.Proofs.YtnmlmbbacicojaaW.PrintWords Go.Proofs.YtnmlmbbacicojaaW.PrintLast Go.Proofs.YtnmlmbbacicojaaW.PrintMore
attribute [local go_sem] max2_int min2_int max_two min_two max_three min_three max_four min_four   -- for this text's walks alone
set_option linter.unusedVariables false
set_option linter.unusedSimpArgs false

/-! ### lockgatelaw20_WalkLinks: function 8 -/
mutual
def lockgatelaw20_WalkLinks.j0 : Nat → Int → Bool → Bool → Option (Bool)
  | 0, _, _, _ => none
  | k + 1, x0, x3, x22 => if x22 = true then (some x3) else (lockgatelaw20_WalkLinks.l0 k x0 0 1 2 0 0 ([] : List (S32)))
def lockgatelaw20_WalkLinks.l0 : Nat → Int → Int → Int → Int → Int → Int → List (S32) → Option (Bool)
  | 0, _, _, _, _, _, _, _ => none
  | k + 1, x0, x5, x115000, x115001, x115002, x115003, x115005 => if x5 < x0 then (if 0 ≤ x5 then (if x5 ≤ (wrap64 (x5 + 1)) then (if (wrap64 (x5 + 1)) ≤ 20 then ((some (([(⟨7, (⟨#[97, 98, 99, 100, 101, 102, 103, 104, 105, 106, 107, 108, 109, 110, 111, 112, 113, 114, 115, 116]⟩ : ByteArray).extract (x5 : Int).toNat ((wrap64 (x5 + 1)) : Int).toNat⟩ : S32), (⟨0, (⟨#[]⟩ : ByteArray)⟩ : S32)] : List (S32)) : List (S32))).bind fun y115 => (if x115005.length + y115.length < 5864062014805 then (lockgatelaw20_WalkLinks.l0 k x0 (wrap64 (x5 + 1)) x115000 x115001 x115002 x115003 (x115005 ++ y115)) else (none))) else (none)) else (none)) else (none)) else ((some (([(⟨7, 1, x0, 0, ([] : List (S35)), ([] : List (S32))⟩ : S30), (⟨x115000, x115001, x115002, x115003, ([] : List (S35)), x115005⟩ : S30)] : List (S30)) : List (S30))).bind fun y121 => ((walk_Paths.f y121).bind fun t124 => ((walk_Renumber.f y121).bind fun t127 => (if (t124.length : Int) = x0 then (if (t127.length : Int) = 2 then (if 0 < (t127.length : Int) then (if ((rd_T30 t127 0).f0) = 1 then (if ((rd_T30 t127 0).f1) = 2 then (if 1 < (t127.length : Int) then (if ((rd_T30 t127 1).f0) = 2 then (lockgatelaw20_WalkLinks.j2 k x0 y121 t124 t127 (((rd_T30 t127 1).f1) != 1)) else (lockgatelaw20_WalkLinks.j2 k x0 y121 t124 t127 true)) else (none)) else (lockgatelaw20_WalkLinks.j2 k x0 y121 t124 t127 true)) else (lockgatelaw20_WalkLinks.j2 k x0 y121 t124 t127 true)) else (none)) else (lockgatelaw20_WalkLinks.j2 k x0 y121 t124 t127 true)) else (lockgatelaw20_WalkLinks.j2 k x0 y121 t124 t127 true)))))
def lockgatelaw20_WalkLinks.j2 : Nat → Int → List (S30) → List ByteArray → List (S30) → Bool → Option (Bool)
  | 0, _, _, _, _, _ => none
  | k + 1, x0, x6, x7, x8, x85 => if x85 = true then (some false) else (lockgatelaw20_WalkLinks.l1 k x0 x6 x7 x8 0)
def lockgatelaw20_WalkLinks.l1 : Nat → Int → List (S30) → List ByteArray → List (S30) → Int → Option (Bool)
  | 0, _, _, _, _, _ => none
  | k + 1, x0, x6, x7, x8, x9 => if x9 < x0 then (if 0 ≤ x9 then (if x9 < (x7.length : Int) then ((walk_Find.f x6 (rdOf ByteArray.empty x7 x9)).bind fun bt139 => ((lockgatelaw20_num.f bt139.2).bind fun t141 => (if t141 = 0 then (if bt139.1 = 0 then (if 0 < (x8.length : Int) then (if 0 ≤ (wrap64 (2 * x9)) then (if (wrap64 (2 * x9)) < (((rd_T30 x8 0).f5).length : Int) then (if ((rd_T32 ((rd_T30 x8 0).f5) (wrap64 (2 * x9))).f0) = 2 then (if 0 ≤ (wrap64 ((wrap64 (2 * x9)) + 1)) then (if (wrap64 ((wrap64 (2 * x9)) + 1)) < (((rd_T30 x8 0).f5).length : Int) then (if ((rd_T32 ((rd_T30 x8 0).f5) (wrap64 ((wrap64 (2 * x9)) + 1))).f0) = 0 then (lockgatelaw20_WalkLinks.l1 k x0 x6 x7 x8 (wrap64 (x9 + 1))) else (some false)) else (none)) else (none)) else (some false)) else (none)) else (none)) else (none)) else (some false)) else (some false)))) else (none)) else (none)) else ((walk_Renumber.f x8).bind fun t134 => ((lockgateref20_Same.f t134 x8).bind fun t137 => (some t137)))
end
def lockgatelaw20_WalkLinks.f (k : Nat) (a0 : Int) : Option (Bool) := (lockgatelaw20_alive.f).bind fun t113 => (if t113 = true then (if a0 < 1 then (lockgatelaw20_WalkLinks.j0 k a0 t113 true) else (lockgatelaw20_WalkLinks.j0 k a0 t113 (decide (a0 > 20)))) else (lockgatelaw20_WalkLinks.j0 k a0 t113 true))
theorem lockgatelaw20_WalkLinks.mono_l : ∀ k, (∀ y0 y1 y2, LeO (lockgatelaw20_WalkLinks.j0 k y0 y1 y2) (lockgatelaw20_WalkLinks.j0 (k + 1) y0 y1 y2)) ∧ (∀ y0 y1 y2 y3 y4 y5 y6, LeO (lockgatelaw20_WalkLinks.l0 k y0 y1 y2 y3 y4 y5 y6) (lockgatelaw20_WalkLinks.l0 (k + 1) y0 y1 y2 y3 y4 y5 y6)) ∧ (∀ y0 y1 y2 y3 y4, LeO (lockgatelaw20_WalkLinks.j2 k y0 y1 y2 y3 y4) (lockgatelaw20_WalkLinks.j2 (k + 1) y0 y1 y2 y3 y4)) ∧ (∀ y0 y1 y2 y3 y4, LeO (lockgatelaw20_WalkLinks.l1 k y0 y1 y2 y3 y4) (lockgatelaw20_WalkLinks.l1 (k + 1) y0 y1 y2 y3 y4))
  | 0 => ⟨fun _ _ _ r h => by simp [lockgatelaw20_WalkLinks.j0] at h, fun _ _ _ _ _ _ _ r h => by simp [lockgatelaw20_WalkLinks.l0] at h, fun _ _ _ _ _ r h => by simp [lockgatelaw20_WalkLinks.j2] at h, fun _ _ _ _ _ r h => by simp [lockgatelaw20_WalkLinks.l1] at h⟩
  | k + 1 => by
    obtain ⟨ih0, ih1, ih2, ih3⟩ := lockgatelaw20_WalkLinks.mono_l k
    refine ⟨?_, ?_, ?_, ?_⟩
    · intro y0 y1 y2
      unfold lockgatelaw20_WalkLinks.j0
      repeat' first
      | (with_reducible exact ih0 _ _ _)
      | (with_reducible exact ih1 _ _ _ _ _ _ _)
      | (with_reducible exact ih2 _ _ _ _ _)
      | (with_reducible exact ih3 _ _ _ _ _)
      | (with_reducible exact LeO.refl _)
      | (with_reducible exact LeO.none _)
      | (with_reducible refine LeO.ite ?_ ?_)
      | (with_reducible refine LeO.bind ?_ (fun _ => ?_))
      | exact ih0 _ _ _
      | exact ih1 _ _ _ _ _ _ _
      | exact ih2 _ _ _ _ _
      | exact ih3 _ _ _ _ _
      | exact LeO.none _
      | refine LeO.ite ?_ ?_
      | refine LeO.bind ?_ (fun _ => ?_)
    · intro y0 y1 y2 y3 y4 y5 y6
      unfold lockgatelaw20_WalkLinks.l0
      repeat' first
      | (with_reducible exact ih0 _ _ _)
      | (with_reducible exact ih1 _ _ _ _ _ _ _)
      | (with_reducible exact ih2 _ _ _ _ _)
      | (with_reducible exact ih3 _ _ _ _ _)
      | (with_reducible exact LeO.refl _)
      | (with_reducible exact LeO.none _)
      | (with_reducible refine LeO.ite ?_ ?_)
      | (with_reducible refine LeO.bind ?_ (fun _ => ?_))
      | exact ih0 _ _ _
      | exact ih1 _ _ _ _ _ _ _
      | exact ih2 _ _ _ _ _
      | exact ih3 _ _ _ _ _
      | exact LeO.none _
      | refine LeO.ite ?_ ?_
      | refine LeO.bind ?_ (fun _ => ?_)
    · intro y0 y1 y2 y3 y4
      unfold lockgatelaw20_WalkLinks.j2
      repeat' first
      | (with_reducible exact ih0 _ _ _)
      | (with_reducible exact ih1 _ _ _ _ _ _ _)
      | (with_reducible exact ih2 _ _ _ _ _)
      | (with_reducible exact ih3 _ _ _ _ _)
      | (with_reducible exact LeO.refl _)
      | (with_reducible exact LeO.none _)
      | (with_reducible refine LeO.ite ?_ ?_)
      | (with_reducible refine LeO.bind ?_ (fun _ => ?_))
      | exact ih0 _ _ _
      | exact ih1 _ _ _ _ _ _ _
      | exact ih2 _ _ _ _ _
      | exact ih3 _ _ _ _ _
      | exact LeO.none _
      | refine LeO.ite ?_ ?_
      | refine LeO.bind ?_ (fun _ => ?_)
    · intro y0 y1 y2 y3 y4
      unfold lockgatelaw20_WalkLinks.l1
      repeat' first
      | (with_reducible exact ih0 _ _ _)
      | (with_reducible exact ih1 _ _ _ _ _ _ _)
      | (with_reducible exact ih2 _ _ _ _ _)
      | (with_reducible exact ih3 _ _ _ _ _)
      | (with_reducible exact LeO.refl _)
      | (with_reducible exact LeO.none _)
      | (with_reducible refine LeO.ite ?_ ?_)
      | (with_reducible refine LeO.bind ?_ (fun _ => ?_))
      | exact ih0 _ _ _
      | exact ih1 _ _ _ _ _ _ _
      | exact ih2 _ _ _ _ _
      | exact ih3 _ _ _ _ _
      | exact LeO.none _
      | refine LeO.ite ?_ ?_
      | refine LeO.bind ?_ (fun _ => ?_)
theorem lockgatelaw20_WalkLinks.mono : ∀ a0 k, LeO (lockgatelaw20_WalkLinks.f k a0) (lockgatelaw20_WalkLinks.f (k + 1) a0) := by
  intro a0 k
  obtain ⟨ih0, ih1, ih2, ih3⟩ := lockgatelaw20_WalkLinks.mono_l k
  unfold lockgatelaw20_WalkLinks.f
  repeat' first
      | (with_reducible exact ih0 _ _ _)
      | (with_reducible exact ih1 _ _ _ _ _ _ _)
      | (with_reducible exact ih2 _ _ _ _ _)
      | (with_reducible exact ih3 _ _ _ _ _)
      | (with_reducible exact LeO.refl _)
      | (with_reducible exact LeO.none _)
      | (with_reducible refine LeO.ite ?_ ?_)
      | (with_reducible refine LeO.bind ?_ (fun _ => ?_))
      | exact ih0 _ _ _
      | exact ih1 _ _ _ _ _ _ _
      | exact ih2 _ _ _ _ _
      | exact ih3 _ _ _ _ _
      | exact LeO.none _
      | refine LeO.ite ?_ ?_
      | refine LeO.bind ?_ (fun _ => ?_)
def lockgatelaw20_WalkLinks.T8 : Bool × List (List Nat × List Nat) := (true, [([], []), ([0], [0]), ([], []), ([], []), ([3], [3]), ([2, 4], [2, 4]), ([5], [5]), ([], []), ([6, 7], [6, 7]), ([1, 8], [1, 8]), ([0, 1, 2, 3, 4, 5, 6, 7, 8, 9], []), ([10, 9, 9, 0, 1, 2, 3, 4, 5, 6, 7, 8, 9], [9, 10])])
def lockgatelaw20_WalkLinks.B8 : List Nat := [0, 1, 0, 0, 8, 28, 60, 0, 252, 511, 1023, 2047]
theorem lockgatelaw20_WalkLinks.tab8 : rtab .any (opsOf Try.f8 8) = lockgatelaw20_WalkLinks.T8 := by kernel_rfl
theorem lockgatelaw20_WalkLinks.bits8 : waitsOk lockgatelaw20_WalkLinks.T8.2 lockgatelaw20_WalkLinks.B8 = true := by kernel_rfl
set_option maxHeartbeats 8000000 in
set_option maxRecDepth 100000 in
theorem lockgatelaw20_WalkLinks.calls (k : Nat) (a0 : Int) (r : Bool) (w : World) (h : lockgatelaw20_WalkLinks.f k a0 = some r) :
    Calls Try.prog 8 #[.int .i64 a0] w fun e w' => e = .returned (.bool r) ∧ Below w.heap.size w w' := by
  have hu30 := Try.underlying30
  have hu32 := Try.underlying32
  have HB := Aside0.mk (Below.refl w.heap.size w)
  have H : ((lockgatelaw20_alive.f).bind fun t113 => (if t113 = true then (if a0 < 1 then (lockgatelaw20_WalkLinks.j0 k a0 t113 true) else (lockgatelaw20_WalkLinks.j0 k a0 t113 (decide (a0 > 20)))) else (lockgatelaw20_WalkLinks.j0 k a0 t113 true))) = some r := h
  clear h
  replace H := Option.bind_eq_some_iff.mp H
  obtain ⟨t113, A20, H⟩ := H
  replace H : (if t113 = true then (if a0 < 1 then (lockgatelaw20_WalkLinks.j0 k a0 t113 true) else (lockgatelaw20_WalkLinks.j0 k a0 t113 (decide (a0 > 20)))) else (lockgatelaw20_WalkLinks.j0 k a0 t113 true)) = some r := H
  have A2 := Aside0.mk A20
  clear A20
  have HC3 := Aside0.mk H
  clear H
  go_enter Try.func8, Try.ntmps8
  go_upto_region 2 with (first | ((with_reducible refine gate_callee (f := 9) rfl ?_); refine goesL_ (some 12) rfl rfl Try.func9 (by kernel_rfl) rfl #[] rfl (by (try simp only [List.map_toArray, List.map_cons, List.map_nil]); first | done | rfl | (simp only [List.length_drop, List.length_take]; rfl)) ?_; (with_reducible refine (lockgatelaw20_alive.calls  t113 _ A2.out).mono ?_); rintro e w4 ⟨rfl, hb⟩; refine ⟨_, rfl, ?_⟩; have n0_ := Aside0.mk (below_step (by repeat (first | (with_reducible first | exact HB.out | apply below_alloc | apply pw_below_drewN | apply below_drew1) | exact HB.out)) hb); clear HB; have HB := n0_; clear n0_; (try clear hb); (try clear hb2); (try clear hk); (try clear hi)))
  (try simp only [Act.put, List.setIfInBounds_toArray, List.set_cons_zero, List.set_cons_succ])
  go_cut [22] (fun v22 wc => ∃ (kq : Nat) (x22_2 : Bool), v22 = .bool x22_2 ∧ Aside0 (lockgatelaw20_WalkLinks.j0 kq a0 t113 x22_2 = some r) ∧ Aside0 (kq ≤ k) ∧ Aside0 (Below w.heap.size w wc))
  case first =>
    have H := HC3.out
    clear HC3
    by_cases c5 : t113 = true
    · subst c5
      have H1 : (if a0 < 1 then (lockgatelaw20_WalkLinks.j0 k a0 true true) else (lockgatelaw20_WalkLinks.j0 k a0 true (decide (a0 > 20)))) = some r := by rw [if_pos rfl] at H; exact H
      clear H
      have H := H1
      clear H1
      by_cases c6 : a0 < 1
      · rw [if_pos c6] at H
        have c6b0 : decide (a0 < 1) = true := decide_eq_true c6
        clear c6
        (first | rw [c6b0] | (simp only [i64_w, i32_w]; rw [c6b0]) | skip)
        have H' := Aside0.mk H
        clear H
        go_wp2
        go_meet
        case rel => exact ⟨_, (true), (by first | rfl | (simp; done) | (simp [*]; done)), H', ⟨by first | omega | exact Nat.le_refl _⟩, ⟨by repeat (first | (with_reducible first | exact HB.out | apply below_alloc | apply pw_below_drewN | apply below_drew1) | exact HB.out)⟩⟩
      · rw [if_neg c6] at H
        have c6b0 : decide (a0 < 1) = false := decide_eq_false c6
        clear c6
        (first | rw [c6b0] | (simp only [i64_w, i32_w]; rw [c6b0]) | skip)
        have H' := Aside0.mk H
        clear H
        go_wp2
        go_meet
        case rel => exact ⟨_, (decide (a0 > 20)), (by first | rfl | (simp; done) | (simp [*]; done)), H', ⟨by first | omega | exact Nat.le_refl _⟩, ⟨by repeat (first | (with_reducible first | exact HB.out | apply below_alloc | apply pw_below_drewN | apply below_drew1) | exact HB.out)⟩⟩
    · replace c5 := Bool.eq_false_iff.mpr c5
      subst c5
      have H1 : (lockgatelaw20_WalkLinks.j0 k a0 false true) = some r := by rw [if_neg (show ¬ (false = true) by decide)] at H; exact H
      clear H
      have H := H1
      clear H1
      have H' := Aside0.mk H
      clear H
      go_wp2
      go_meet
      case rel => exact ⟨_, (true), (by first | rfl | (simp; done) | (simp [*]; done)), H', ⟨by first | omega | exact Nat.le_refl _⟩, ⟨by repeat (first | (with_reducible first | exact HB.out | apply below_alloc | apply pw_below_drewN | apply below_drew1) | exact HB.out)⟩⟩
  case rest =>
    clear HC3
    try clear p2
    try clear c5
    try clear c6
    try clear c6b0
    obtain ⟨kq, x22_2, rfl, HA, HJ2, HB⟩ := hcut
    cases kq with
    | zero => exact absurd HA.out (by simp [lockgatelaw20_WalkLinks.j0])
    | succ kj2 =>
      have H := HA.out
      clear HA
      simp only [lockgatelaw20_WalkLinks.j0] at H
      by_cases c7 : x22_2 = true
      · subst c7
        have H1 : (some t113) = some r := by rw [if_pos rfl] at H; exact H
        clear H
        have H := H1
        clear H1
        obtain rfl := Option.some.inj H
        go_wp2
        go_ret
        exact ⟨by first | rfl | (simp [errW_none, errW_some] <;> rfl) | (simp [*, errW_none, errW_some] <;> rfl), by repeat (first | (with_reducible first | exact HB.out | apply below_alloc | apply pw_below_drewN | apply below_drew1) | exact HB.out)⟩
      · replace c7 := Bool.eq_false_iff.mpr c7
        subst c7
        have H1 : (lockgatelaw20_WalkLinks.l0 kj2 a0 0 1 2 0 0 ([] : List (S32))) = some r := by rw [if_neg (show ¬ (false = true) by decide)] at H; exact H
        clear H
        have H := H1
        clear H1
        have H' := Aside0.mk H
        clear H
        go_wp2_with (first | ((with_reducible refine gate_dst (N := 4) rfl ?_); (try (refine gate_guard (by rfl) ?_; dsimp only)); refine box_event ?hg (N := 4) ?hd (cs := #[.int .i64 0, .int .i64 0, .int .i64 0, .int .i64 0, .slice none 0 0, .slice none 0 0]) (t := 30) ?hr ?_; (case hd => rfl); (case hg => rfl); (case hr => first | (go_simp; done) | (go_simp; rfl)); intro gb114 hg w8 hbox hb; have n0_ := Aside0.mk (below_step (by repeat (first | (with_reducible first | exact HB.out | apply below_alloc | apply pw_below_drewN | apply below_drew1) | exact HB.out)) hb); have n1_ := Aside0.mk (hbox); have n2_ := Aside0.mk ((by rw [hg]; exact (below_size (by repeat (first | (with_reducible first | exact HB.out | apply below_alloc | apply pw_below_drewN | apply below_drew1) | exact HB.out))) : w.heap.size ≤ gb114)); have n3_ := Aside0.mk ((by rw [hg]; exact (below_size (by repeat (first | (with_reducible first | exact HB.out | apply below_alloc | apply pw_below_drewN | apply below_drew1) | exact HB.out))) : w.heap.size ≤ gb114)); clear HB; have HB := n0_; have BK114 := n1_; have GW114 := n2_; have GE114 := n3_; clear n0_ n1_ n2_ n3_; clear hb hbox hg; have hcz9_0 : w8.cell? ⟨gb114, 0, none⟩ = some (.int .i64 0) := (blk_cell BK114.out 0).trans rfl; have hcz9_1 : w8.cell? ⟨gb114, 1, none⟩ = some (.int .i64 0) := (blk_cell BK114.out 1).trans rfl; have hcz9_2 : w8.cell? ⟨gb114, 2, none⟩ = some (.int .i64 0) := (blk_cell BK114.out 2).trans rfl; have hcz9_3 : w8.cell? ⟨gb114, 3, none⟩ = some (.int .i64 0) := (blk_cell BK114.out 3).trans rfl; have hcz9_4 : w8.cell? ⟨gb114, 4, none⟩ = some (.slice none 0 0) := (blk_cell BK114.out 4).trans rfl; have hcz9_5 : w8.cell? ⟨gb114, 5, none⟩ = some (.slice none 0 0) := (blk_cell BK114.out 5).trans rfl; have hfz9_0 := blk_frozen BK114.out 0; have hfz9_1 := blk_frozen BK114.out 1; have hfz9_2 := blk_frozen BK114.out 2; have hfz9_3 := blk_frozen BK114.out 3; have hfz9_4 := blk_frozen BK114.out 4; have hfz9_5 := blk_frozen BK114.out 5))
        go_loopg [5] kj2 (fun kq v5 w' => ∃ (x5_2 : Int) (x115005_2 : List (S32)) (u115005 : Value), v5 = .int .i64 x5_2 ∧ Aside0 (lockgatelaw20_WalkLinks.l0 kq a0 x5_2 1 2 0 0 x115005_2 = some r) ∧ Aside0 (kq ≤ kj2) ∧ Aside0 (Kd.R k32 32 w' w.heap.size (fun _ => True) u115005 x115005_2) ∧ Aside0 (w'.heap[gb114]? = some (.cells #[.int .i64 1, .int .i64 2, .int .i64 0, .int .i64 0, (.slice none 0 0), u115005] 30 (0, 0))) ∧ Aside0 (Below w.heap.size w w'))
        case atStart => exact ⟨(0), (([] : List (S32))), (.slice none 0 0), (by first | rfl | (simp; done) | (simp [*]; done)), H', ⟨Nat.le_refl _⟩, ⟨by first | exact Kd.R_nil _ _ _ _ _ | exact Kd.N_nil _ _ _ _ _ | exact Kd.V_nil _ _ _ _ _ | exact Kd.Q_nil _ _ _ _ _ | exact Kd.S_nil _ _ _ _ _⟩, ⟨by (with_reducible repeat (first | refine blk_drewN ?_ _ | refine blk_drew ?_ | refine blk_alloc ?_ _)); refine blk_put (cs := #[.int .i64 1, .int .i64 2, .int .i64 0, .int .i64 0, .slice none 0 0, .slice none 0 0]) ?_ 5 _ rfl; (with_reducible repeat (first | refine blk_drewN ?_ _ | refine blk_drew ?_ | refine blk_alloc ?_ _)); refine blk_put (cs := #[.int .i64 1, .int .i64 2, .int .i64 0, .int .i64 0, .slice none 0 0, .slice none 0 0]) ?_ 4 _ rfl; (with_reducible repeat (first | refine blk_drewN ?_ _ | refine blk_drew ?_ | refine blk_alloc ?_ _)); refine blk_put (cs := #[.int .i64 1, .int .i64 2, .int .i64 0, .int .i64 0, .slice none 0 0, .slice none 0 0]) ?_ 3 _ rfl; (with_reducible repeat (first | refine blk_drewN ?_ _ | refine blk_drew ?_ | refine blk_alloc ?_ _)); refine blk_put (cs := #[.int .i64 1, .int .i64 2, .int .i64 0, .int .i64 0, .slice none 0 0, .slice none 0 0]) ?_ 2 _ rfl; (with_reducible repeat (first | refine blk_drewN ?_ _ | refine blk_drew ?_ | refine blk_alloc ?_ _)); refine blk_put (cs := #[.int .i64 1, .int .i64 0, .int .i64 0, .int .i64 0, .slice none 0 0, .slice none 0 0]) ?_ 1 _ rfl; (with_reducible repeat (first | refine blk_drewN ?_ _ | refine blk_drew ?_ | refine blk_alloc ?_ _)); refine blk_put (cs := #[.int .i64 0, .int .i64 0, .int .i64 0, .int .i64 0, .slice none 0 0, .slice none 0 0]) ?_ 0 _ rfl; (with_reducible repeat (first | refine blk_drewN ?_ _ | refine blk_drew ?_ | refine blk_alloc ?_ _)); exact BK114.out⟩, ⟨by repeat (first | (with_reducible first | exact HB.out | apply below_alloc | apply pw_below_drewN | apply below_drew1 | refine below_set ?_ GE114.out) | exact HB.out)⟩⟩
        case round =>
          clear H'
          try clear p2
          try clear c5
          try clear c6
          try clear c6b0
          try clear c7
          try clear c8
          try clear c9
          try clear hcz9_0
          try clear hcz9_1
          try clear hcz9_2
          try clear hcz9_3
          try clear hcz9_4
          try clear hcz9_5
          try clear hfz9_0
          try clear hfz9_1
          try clear hfz9_2
          try clear hfz9_3
          try clear hfz9_4
          try clear hfz9_5
          try clear p2
          obtain ⟨x5_2, x115005_2, u115005, rfl, HA, HK2, HO_115005, BK114, HB⟩ := hrel
          cases gk with
          | zero => exact absurd HA.out (by simp [lockgatelaw20_WalkLinks.l0])
          | succ k2 =>
            have H := HA.out
            clear HA
            simp only [lockgatelaw20_WalkLinks.l0] at H
            by_cases c10 : x5_2 < a0
            · rw [if_pos c10] at H
              have c10b0 : decide (x5_2 < a0) = true := decide_eq_true c10
              clear c10
              by_cases c11 : 0 ≤ x5_2
              · rw [if_pos c11] at H
                have c11b0 := eq_true c11
                have c11b1 : decide (0 ≤ x5_2) = true := decide_eq_true c11
                clear c11
                by_cases c12 : x5_2 ≤ (wrap64 (x5_2 + 1))
                · rw [if_pos c12] at H
                  have c12b0 := eq_true c12
                  have c12b1 : decide (x5_2 ≤ (wrap64 (x5_2 + 1))) = true := decide_eq_true c12
                  by_cases c13 : (wrap64 (x5_2 + 1)) ≤ 20
                  · rw [if_pos c13] at H
                    have c13b0 := eq_true c13
                    have c13b1 : decide ((wrap64 (x5_2 + 1)) ≤ 20) = true := decide_eq_true c13
                    obtain ⟨y115, hy115⟩ : ∃ y_ : List (S32), y_ = (([(⟨7, (⟨#[97, 98, 99, 100, 101, 102, 103, 104, 105, 106, 107, 108, 109, 110, 111, 112, 113, 114, 115, 116]⟩ : ByteArray).extract (x5_2 : Int).toNat ((wrap64 (x5_2 + 1)) : Int).toNat⟩ : S32), (⟨0, (⟨#[]⟩ : ByteArray)⟩ : S32)] : List (S32))) := ⟨_, rfl⟩
                    replace H : (if x115005_2.length + y115.length < 5864062014805 then (lockgatelaw20_WalkLinks.l0 k2 a0 (wrap64 (x5_2 + 1)) 1 2 0 0 (x115005_2 ++ y115)) else (none)) = some r := by first | (rw [hy115]; with_reducible exact H) | (have H2_ := (Option.bind_some _ _).symm.trans H; rw [hy115]; with_reducible exact H2_) | (have H2_ := (Option.bind_some _ _).symm.trans H; with_reducible exact H2_) | with_reducible exact H | (rw [hy115]; exact H) | exact H
                    have Ny115 := Aside0.mk hy115
                    clear hy115
                    by_cases c14 : x115005_2.length + y115.length < 5864062014805
                    · rw [if_pos c14] at H
                      have LMc14 := Aside0.mk c14
                      clear c14
                      obtain ⟨y118, hy118⟩ : ∃ y_ : List (S32), y_ = (x115005_2 ++ y115) := ⟨_, rfl⟩
                      replace H : (lockgatelaw20_WalkLinks.l0 k2 a0 (wrap64 (x5_2 + 1)) 1 2 0 0 y118) = some r := by first | (rw [hy118]; with_reducible exact H) | (have H2_ := (Option.bind_some _ _).symm.trans H; rw [hy118]; with_reducible exact H2_) | (have H2_ := (Option.bind_some _ _).symm.trans H; with_reducible exact H2_) | with_reducible exact H | (rw [hy118]; exact H) | exact H
                      have Ny118 := Aside0.mk hy118
                      clear hy118
                      have H' := Aside0.mk H
                      clear H
                      try go_wp2
                      have n0_ := Aside0.mk (Kd.R_drew HO_115005.out)
                      have n1_ := Aside0.mk (blk_drew BK114.out)
                      have n2_ := Aside0.mk (below_drew1 HB.out)
                      clear HO_115005
                      clear BK114
                      clear HB
                      have HO_115005 := n0_
                      have BK114 := n1_
                      have HB := n2_
                      clear n0_ n1_ n2_
                      refine start_ (n := 12) (S := fun w' => w'.cell? ⟨gb114, 0, none⟩ = some (.int .i64 1) ∧ w'.cell? ⟨gb114, 1, none⟩ = some (.int .i64 2) ∧ w'.cell? ⟨gb114, 2, none⟩ = some (.int .i64 0) ∧ w'.cell? ⟨gb114, 3, none⟩ = some (.int .i64 0) ∧ w'.cell? ⟨gb114, 4, none⟩ = some (.slice none 0 0) ∧ w'.cell? ⟨gb114, 5, none⟩ = some (u115005)) (ds := [11]) #[false, false, false, false, false, false, false, false, false, false, false, false] (by kernel_rfl) rfl rfl ⟨(blk_cell BK114.out 0).trans rfl, (blk_cell BK114.out 1).trans rfl, (blk_cell BK114.out 2).trans rfl, (blk_cell BK114.out 3).trans rfl, (blk_cell BK114.out 4).trans rfl, (blk_cell BK114.out 5).trans rfl⟩ (fun hHeld => ?_); refine with_tabW lockgatelaw20_WalkLinks.tab8 lockgatelaw20_WalkLinks.bits8 (fun HT_ HW_ => ?_)
                      generalize wr.drew = w15 at HO_115005 BK114 HB hHeld ⊢
                      refine pure_ (i := 0) (N := some 30) (v := ?_) (a' := ?_) #[true, false, false, false, false, false, false, false, false, false, false, false] rfl rfl (any_of HT_.out (by kernel_rfl)) (fun _ _ _ h => h) (Or.inl ⟨by rfl, ?_⟩) ?_ ?_
                      rotate_left
                      · intro w'
                        go_simp
                        with_reducible rfl
                      rotate_left
                      · simp only [Act.put, List.setIfInBounds_toArray, List.set_cons_zero, List.set_cons_succ, i64_w, i32_w]
                        rfl
                      refine pure_ (i := 2) (N := some 32) (v := ?_) (a' := ?_) #[true, false, true, false, false, false, false, false, false, false, false, false] rfl rfl (any_of HT_.out (by kernel_rfl)) (fun _ _ _ h => h) (Or.inl ⟨by rfl, ?_⟩) ?_ ?_
                      rotate_left
                      · intro w'
                        go_simp
                        with_reducible rfl
                      rotate_left
                      · simp only [Act.put, List.setIfInBounds_toArray, List.set_cons_zero, List.set_cons_succ, i64_w, i32_w]
                        rfl
                      refine pure_ (i := 3) (N := some 33) (v := ?_) (a' := ?_) #[true, false, true, true, false, false, false, false, false, false, false, false] rfl rfl (any_of HT_.out (by kernel_rfl)) (fun _ _ _ h => h) (Or.inl ⟨by rfl, ?_⟩) ?_ ?_
                      rotate_left
                      · intro w'
                        go_simp
                        with_reducible rfl
                      rotate_left
                      · simp only [Act.put, List.setIfInBounds_toArray, List.set_cons_zero, List.set_cons_succ, i64_w, i32_w]
                        rfl
                      refine pure_ (i := 4) (N := some 34) (v := ?_) (a' := ?_) #[true, false, true, true, true, false, false, false, false, false, false, false] rfl rfl (any_of HT_.out (by kernel_rfl)) (fun _ _ _ h => h) (Or.inl ⟨by rfl, ?_⟩) ?_ ?_
                      rotate_left
                      · intro w'
                        go_simp
                        with_reducible rfl
                      rotate_left
                      · simp only [Act.put, List.setIfInBounds_toArray, List.set_cons_zero, List.set_cons_succ, i64_w, i32_w]
                        rfl
                      refine pure_ (i := 5) (N := some 35) (v := ?_) (a' := ?_) #[true, false, true, true, true, true, false, false, false, false, false, false] rfl rfl (any_of HT_.out (by kernel_rfl)) (fun _ _ _ h => h) (Or.inl ⟨by rfl, ?_⟩) ?_ ?_
                      rotate_left
                      · intro w'
                        go_simp
                        with_reducible rfl
                      rotate_left
                      · simp only [Act.put, List.setIfInBounds_toArray, List.set_cons_zero, List.set_cons_succ, i64_w, i32_w]
                        rfl
                      refine pure_ (i := 6) (N := some 36) (v := ?_) (a' := ?_) #[true, false, true, true, true, true, true, false, false, false, false, false] rfl rfl (any_of HT_.out (by kernel_rfl)) (fun _ _ _ h => h) (Or.inl ⟨by rfl, ?_⟩) ?_ ?_
                      rotate_left
                      · intro w'
                        go_simp
                        with_reducible rfl
                      rotate_left
                      · simp only [Act.put, List.setIfInBounds_toArray, List.set_cons_zero, List.set_cons_succ, i64_w, i32_w]
                        rfl
                      refine pure_ (i := 7) (N := some 37) (v := ?_) (a' := ?_) #[true, false, true, true, true, true, true, true, false, false, false, false] rfl rfl (any_of HT_.out (by kernel_rfl)) (fun _ _ _ h => h) (Or.inl ⟨by rfl, ?_⟩) ?_ ?_
                      rotate_left
                      · intro w'
                        go_simp
                        with_reducible rfl
                      rotate_left
                      · simp only [Act.put, List.setIfInBounds_toArray, List.set_cons_zero, List.set_cons_succ, i64_w, i32_w]
                        rfl
                      refine take_ (i := 1) (N := some 31) (v := ?_) (a' := ?_) #[true, true, true, true, true, true, true, true, false, false, false, false] rfl rfl (take_ofW HT_.out HW_.out (by kernel_rfl)) (fun _ _ _ h => h) (Or.inl ⟨by rfl, ?_⟩) hHeld ?_ ?_
                      rotate_left
                      · rintro w' ⟨s0, s1, s2, s3, s4, s5⟩
                        go_simp
                        with_reducible rfl
                      rotate_left
                      · simp only [Act.put, List.setIfInBounds_toArray, List.set_cons_zero, List.set_cons_succ, i64_w, i32_w]
                        rfl
                      refine one_ (i := 8) (N := some 38) #[true, true, true, true, true, true, true, true, true, false, false, false] rfl rfl (one_of HT_.out (by kernel_rfl)) (by decide) (fun K hK => ?_)
                      refine Kd.R_lit_step k32 _ 32 ?hg (N := 38) ?hd (xs := ([(⟨7, (⟨#[97, 98, 99, 100, 101, 102, 103, 104, 105, 106, 107, 108, 109, 110, 111, 112, 113, 114, 115, 116]⟩ : ByteArray).extract (x5_2 : Int).toNat ((wrap64 (x5_2 + 1)) : Int).toNat⟩ : S32), (⟨0, (⟨#[]⟩ : ByteArray)⟩ : S32)] : List (S32))) (inner := [.int .i64 7, .string ((⟨#[97, 98, 99, 100, 101, 102, 103, 104, 105, 106, 107, 108, 109, 110, 111, 112, 113, 114, 115, 116]⟩ : ByteArray).extract (x5_2 : Int).toNat ((wrap64 (x5_2 + 1)) : Int).toNat), .int .i64 0, .string (⟨#[]⟩ : ByteArray)]) (ok := fun _ => True) (okp := fun _ => True) ?hr ?hp (fun _ hk => hk) trivial (Below.refl _ _) (Nat.le_refl _) (by simp) ?_; (case hd => rfl); (case hg => rfl); (case hr => first | (go_simp; done) | (go_simp; rfl)); (case hp => exact (Reps.c2 (show Kd.M k32 _ _ _ (⟨7, (⟨#[97, 98, 99, 100, 101, 102, 103, 104, 105, 106, 107, 108, 109, 110, 111, 112, 113, 114, 115, 116]⟩ : ByteArray).extract (x5_2 : Int).toNat ((wrap64 (x5_2 + 1)) : Int).toNat⟩ : S32) [.int .i64 7, .string ((⟨#[97, 98, 99, 100, 101, 102, 103, 104, 105, 106, 107, 108, 109, 110, 111, 112, 113, 114, 115, 116]⟩ : ByteArray).extract (x5_2 : Int).toNat ((wrap64 (x5_2 + 1)) : Int).toNat)] from (k32_mkM _ _ _ (⟨7, (⟨#[97, 98, 99, 100, 101, 102, 103, 104, 105, 106, 107, 108, 109, 110, 111, 112, 113, 114, 115, 116]⟩ : ByteArray).extract (x5_2 : Int).toNat ((wrap64 (x5_2 + 1)) : Int).toNat⟩ : S32) )) (Reps.c2 (show Kd.M k32 _ _ _ (⟨0, (⟨#[]⟩ : ByteArray)⟩ : S32) [.int .i64 0, .string (⟨#[]⟩ : ByteArray)] from (k32_mkM _ _ _ (⟨0, (⟨#[]⟩ : ByteArray)⟩ : S32) )) (Reps.none _ _))))
                      intro v116 w16 ho17 hb hg_ hnew_
                      clear hg_ hnew_
                      (first | rw [← Ny115.out] at ho17 | (simp only [Int.reduceToNat] at ho17; rw [← Ny115.out] at ho17))
                      have n0_ := Aside0.mk (Kd.R_elder' (by (with_reducible repeat (first | apply Kd.R_alloc | apply Kd.R_drewN | apply Kd.R_drew)); exact HO_115005.out) (Kd.R_base ho17) hb)
                      have n1_ := Aside0.mk (Kd.R_lower (Kd.R_new' ho17 (Kd.R_lt (by (with_reducible repeat (first | apply Kd.R_alloc | apply Kd.R_drewN | apply Kd.R_drew)); exact HO_115005.out))) (below_size (by repeat (first | (with_reducible first | exact HB.out | apply below_alloc | apply pw_below_drewN | apply below_drew1 | refine below_set ?_ GE114.out) | exact HB.out))))
                      have n2_ := Aside0.mk (blk_below (g := gb114) (o := .cells #[.int .i64 1, .int .i64 2, .int .i64 0, .int .i64 0, .slice none 0 0, u115005] 30 (0, 0)) (by (with_reducible repeat (first | refine blk_drewN ?_ _ | refine blk_drew ?_ | refine blk_alloc ?_ _)); exact BK114.out) hb)
                      have n3_ := Aside0.mk (below_step (by repeat (first | (with_reducible first | exact HB.out | apply below_alloc | apply pw_below_drewN | apply below_drew1 | refine below_set ?_ GE114.out) | exact HB.out)) hb)
                      clear HO_115005
                      clear BK114
                      clear HB
                      have HO_115005 := n0_
                      have HO117 := n1_
                      have BK114 := n2_
                      have HB := n3_
                      clear n0_ n1_ n2_ n3_
                      clear hb ho17
                      obtain ⟨Ao19, co19, eo19⟩ := Kd.R_slice HO117.out
                      (first | subst eo19 | (injection eo19 with f1_ f2_ f3_; have f4_ := f1_.symm; have f5_ := f3_.symm; clear f1_ f2_ f3_; subst f4_; subst f5_))
                      refine hK.out _ _ ⟨(blk_cell BK114.out 0).trans rfl, (blk_cell BK114.out 1).trans rfl, (blk_cell BK114.out 2).trans rfl, (blk_cell BK114.out 3).trans rfl, (blk_cell BK114.out 4).trans rfl, (blk_cell BK114.out 5).trans rfl⟩ (fun hHeld => ?_)
                      clear hK K
                      refine norm_ (a' := ?_) ?_ ?_
                      rotate_left
                      · show Act.put _ (some 38) _ = _
                        simp only [Act.put, List.setIfInBounds_toArray, List.set_cons_zero, List.set_cons_succ, i64_w, i32_w]
                        rfl
                      refine one_ (i := 9) (N := some 39) #[true, true, true, true, true, true, true, true, true, true, false, false] rfl rfl (one_of HT_.out (by kernel_rfl)) (by decide) (fun K hK => ?_)
                      refine Kd.R_append_rows_step k32 (w0 := w) w.heap.size (by rfl) (.tmp 31) (.tmp 38) 28 32 (.agg #[(.int .i64 0), (.string ⟨#[]⟩)]) 24 rfl Try.underlying28 info32 rfl (by decide) (by omega) u115005 x115005_2 y115 _ _ _ (fun k_ => some k_ ≠ (.slice Ao19 y115.length co19 : Value).ownBlock) (fun _ => False) rfl rfl ?aO ?aR (fun _ _ h => h) (fun _ h => h.elim) ?aF ?aB ?aS ?aL ?_
                      (case aR => repeat (first | exact (Kd.R_reads' HO117.out).2.2 | (with_reducible refine Kd.C_alloc ?_ _) | (with_reducible refine Kd.C_drewN ?_ _) | (with_reducible refine Kd.C_drew ?_)))
                      (case aB => exact (by repeat (first | (with_reducible first | exact HB.out | apply below_alloc | apply pw_below_drewN | apply below_drew1 | refine below_set ?_ GE114.out) | exact HB.out)))
                      (case aF => exact (fun k_ hk => Kd.fresh' (Kd.R_lt (by (with_reducible repeat (first | apply Kd.R_alloc | apply Kd.R_drewN | apply Kd.R_drew)); exact HO117.out)) k_ hk))
                      (case aO => exact (by (with_reducible repeat (first | apply Kd.R_alloc | apply Kd.R_drewN | apply Kd.R_drew)); exact Kd.R_mono HO_115005.out (fun _ hk => hk.2)))
                      (case aS => exact (below_size (by repeat (first | (with_reducible first | exact HB.out | apply below_alloc | apply pw_below_drewN | apply below_drew1 | refine below_set ?_ GE114.out) | exact HB.out))))
                      (case aL => have := LMc14.out; omega)
                      intro v119 w18 ho hb hg hat
                      rw [← Ny118.out] at ho
                      have n0_ := Aside0.mk (blk_grown (g := gb114) (o := .cells #[.int .i64 1, .int .i64 2, .int .i64 0, .int .i64 0, .slice none 0 0, u115005] 30 (0, 0)) (by (with_reducible repeat (first | refine blk_drewN ?_ _ | refine blk_drew ?_ | refine blk_alloc ?_ _)); exact BK114.out) hg (Kd.R_ne HO_115005.out BK114.out (by decide)))
                      have n1_ := Aside0.mk (Kd.R_after (ok := (fun _ => True)) (by (with_reducible repeat (first | apply Kd.R_alloc | apply Kd.R_drewN | apply Kd.R_drew)); exact HO117.out) hg hat)
                      have n2_ := Aside0.mk (hb)
                      have n3_ := Aside0.mk (ho)
                      clear BK114
                      clear HO117
                      clear HB
                      clear HO_115005
                      have BK114 := n0_
                      have HO117 := n1_
                      have HB := n2_
                      have HO120 := n3_
                      clear n0_ n1_ n2_ n3_
                      clear ho hb hg hat
                      obtain ⟨Ao20, co20, eo20⟩ := Kd.R_slice HO120.out
                      (first | subst eo20 | (injection eo20 with f1_ f2_ f3_; have f4_ := f1_.symm; have f5_ := f3_.symm; clear f1_ f2_ f3_; subst f4_; subst f5_))
                      refine hK.out _ _ ⟨(blk_cell BK114.out 0).trans rfl, (blk_cell BK114.out 1).trans rfl, (blk_cell BK114.out 2).trans rfl, (blk_cell BK114.out 3).trans rfl, (blk_cell BK114.out 4).trans rfl, (blk_cell BK114.out 5).trans rfl⟩ (fun hHeld => ?_)
                      clear hK K
                      refine norm_ (a' := ?_) ?_ ?_
                      rotate_left
                      · show Act.put _ (some 39) _ = _
                        simp only [Act.put, List.setIfInBounds_toArray, List.set_cons_zero, List.set_cons_succ, i64_w, i32_w]
                        rfl
                      refine pure_ (i := 10) (N := some 40) (v := ?_) (a' := ?_) #[true, true, true, true, true, true, true, true, true, true, true, false] rfl rfl (any_of HT_.out (by kernel_rfl)) (fun _ _ _ h => h) (Or.inl ⟨by rfl, ?_⟩) ?_ ?_
                      rotate_left
                      · intro w'
                        go_simp
                        with_reducible rfl
                      rotate_left
                      · simp only [Act.put, List.setIfInBounds_toArray, List.set_cons_zero, List.set_cons_succ, i64_w, i32_w]
                        rfl
                      refine last_ (i := 11) (N := none) #[true, true, true, true, true, true, true, true, true, true, true, true] rfl rfl (one_of HT_.out (by kernel_rfl)) (by decide) (fun K hK => ?_)
                      have hs21 : w18.cell? ⟨gb114, 5, none⟩ = some (u115005) := (blk_cell BK114.out 5).trans rfl
                      have hfs21 := blk_frozen BK114.out 5
                      refine skip_ (w1 := ?_) (by rfl) rfl ?_ ?_
                      rotate_left
                      · go_simp
                        rfl
                      refine hK.out _ _ ?_
                      clear hK K
                      refine done_ (done_of HT_.out (by kernel_rfl)) ?_
                      try go_wp2
                      go_roundg k2
                      case measure => have := HJ2.out; have := HK2.out; omega
                      case rel => exact ⟨(wrap64 (x5_2 + 1)), (y118), (.slice Ao20 y118.length co20), (by first | rfl | (simp; done) | (simp [*]; done)), H', ⟨by have := HJ2.out; have := HK2.out; omega⟩, ⟨by (with_reducible repeat (first | apply Kd.R_alloc | apply Kd.R_drewN | apply Kd.R_drew)); exact Kd.R_mono (Kd.R_far (p := ⟨gb114, 5, none⟩) (Kd.R_types HO120.out BK114.out (by decide)) (fun _ hk => hk.2) (.slice Ao20 y118.length co20)) (fun _ hk => trivial)⟩, ⟨by (with_reducible repeat (first | refine blk_drewN ?_ _ | refine blk_drew ?_ | refine blk_alloc ?_ _)); refine blk_put (cs := #[.int .i64 1, .int .i64 2, .int .i64 0, .int .i64 0, .slice none 0 0, u115005]) ?_ 5 _ rfl; (with_reducible repeat (first | refine blk_drewN ?_ _ | refine blk_drew ?_ | refine blk_alloc ?_ _)); exact BK114.out⟩, ⟨by repeat (first | (with_reducible first | exact HB.out | apply below_alloc | apply pw_below_drewN | apply below_drew1 | refine below_set ?_ GE114.out) | exact HB.out)⟩⟩
                    · rw [if_neg c14] at H
                      exact absurd H (by simp)
                  · rw [if_neg c13] at H
                    exact absurd H (by simp)
                · rw [if_neg c12] at H
                  exact absurd H (by simp)
              · rw [if_neg c11] at H
                exact absurd H (by simp)
            · rw [if_neg c10] at H
              have c10b0 : decide (x5_2 < a0) = false := decide_eq_false c10
              clear c10
              obtain ⟨y121, hy121⟩ : ∃ y_ : List (S30), y_ = (([(⟨7, 1, a0, 0, ([] : List (S35)), ([] : List (S32))⟩ : S30), (⟨1, 2, 0, 0, ([] : List (S35)), x115005_2⟩ : S30)] : List (S30))) := ⟨_, rfl⟩
              replace H : ((walk_Paths.f y121).bind fun t124 => ((walk_Renumber.f y121).bind fun t127 => (if (t124.length : Int) = a0 then (if (t127.length : Int) = 2 then (if 0 < (t127.length : Int) then (if ((rd_T30 t127 0).f0) = 1 then (if ((rd_T30 t127 0).f1) = 2 then (if 1 < (t127.length : Int) then (if ((rd_T30 t127 1).f0) = 2 then (lockgatelaw20_WalkLinks.j2 k2 a0 y121 t124 t127 (((rd_T30 t127 1).f1) != 1)) else (lockgatelaw20_WalkLinks.j2 k2 a0 y121 t124 t127 true)) else (none)) else (lockgatelaw20_WalkLinks.j2 k2 a0 y121 t124 t127 true)) else (lockgatelaw20_WalkLinks.j2 k2 a0 y121 t124 t127 true)) else (none)) else (lockgatelaw20_WalkLinks.j2 k2 a0 y121 t124 t127 true)) else (lockgatelaw20_WalkLinks.j2 k2 a0 y121 t124 t127 true)))) = some r := by first | (rw [hy121]; with_reducible exact H) | (have H2_ := (Option.bind_some _ _).symm.trans H; rw [hy121]; with_reducible exact H2_) | (have H2_ := (Option.bind_some _ _).symm.trans H; with_reducible exact H2_) | with_reducible exact H | (rw [hy121]; exact H) | exact H
              have Ny121 := Aside0.mk hy121
              clear hy121
              replace H := Option.bind_eq_some_iff.mp H
              obtain ⟨t124, A220, H⟩ := H
              replace H : ((walk_Renumber.f y121).bind fun t127 => (if (t124.length : Int) = a0 then (if (t127.length : Int) = 2 then (if 0 < (t127.length : Int) then (if ((rd_T30 t127 0).f0) = 1 then (if ((rd_T30 t127 0).f1) = 2 then (if 1 < (t127.length : Int) then (if ((rd_T30 t127 1).f0) = 2 then (lockgatelaw20_WalkLinks.j2 k2 a0 y121 t124 t127 (((rd_T30 t127 1).f1) != 1)) else (lockgatelaw20_WalkLinks.j2 k2 a0 y121 t124 t127 true)) else (none)) else (lockgatelaw20_WalkLinks.j2 k2 a0 y121 t124 t127 true)) else (lockgatelaw20_WalkLinks.j2 k2 a0 y121 t124 t127 true)) else (none)) else (lockgatelaw20_WalkLinks.j2 k2 a0 y121 t124 t127 true)) else (lockgatelaw20_WalkLinks.j2 k2 a0 y121 t124 t127 true))) = some r := H
              have A22 := Aside0.mk A220
              clear A220
              replace H := Option.bind_eq_some_iff.mp H
              obtain ⟨t127, A230, H⟩ := H
              replace H : (if (t124.length : Int) = a0 then (if (t127.length : Int) = 2 then (if 0 < (t127.length : Int) then (if ((rd_T30 t127 0).f0) = 1 then (if ((rd_T30 t127 0).f1) = 2 then (if 1 < (t127.length : Int) then (if ((rd_T30 t127 1).f0) = 2 then (lockgatelaw20_WalkLinks.j2 k2 a0 y121 t124 t127 (((rd_T30 t127 1).f1) != 1)) else (lockgatelaw20_WalkLinks.j2 k2 a0 y121 t124 t127 true)) else (none)) else (lockgatelaw20_WalkLinks.j2 k2 a0 y121 t124 t127 true)) else (lockgatelaw20_WalkLinks.j2 k2 a0 y121 t124 t127 true)) else (none)) else (lockgatelaw20_WalkLinks.j2 k2 a0 y121 t124 t127 true)) else (lockgatelaw20_WalkLinks.j2 k2 a0 y121 t124 t127 true)) = some r := H
              have A23 := Aside0.mk A230
              clear A230
              have HC24 := Aside0.mk H
              clear H
              have hcz25_0 : wr.cell? ⟨gb114, 0, none⟩ = some (.int .i64 1) := (blk_cell BK114.out 0).trans rfl
              have hcz25_1 : wr.cell? ⟨gb114, 1, none⟩ = some (.int .i64 2) := (blk_cell BK114.out 1).trans rfl
              have hcz25_2 : wr.cell? ⟨gb114, 2, none⟩ = some (.int .i64 0) := (blk_cell BK114.out 2).trans rfl
              have hcz25_3 : wr.cell? ⟨gb114, 3, none⟩ = some (.int .i64 0) := (blk_cell BK114.out 3).trans rfl
              have hcz25_4 : wr.cell? ⟨gb114, 4, none⟩ = some (.slice none 0 0) := (blk_cell BK114.out 4).trans rfl
              have hcz25_5 : wr.cell? ⟨gb114, 5, none⟩ = some (u115005) := (blk_cell BK114.out 5).trans rfl
              have hfz25_0 := blk_frozen BK114.out 0
              have hfz25_1 := blk_frozen BK114.out 1
              have hfz25_2 := blk_frozen BK114.out 2
              have hfz25_3 := blk_frozen BK114.out 3
              have hfz25_4 := blk_frozen BK114.out 4
              have hfz25_5 := blk_frozen BK114.out 5
              obtain ⟨Ao26, co26, eo26⟩ := Kd.R_slice HO_115005.out
              subst eo26
              go_upto_region 12 with (first | ((with_reducible refine gate_dst (N := 44) rfl ?_); (try (refine gate_guard (by rfl) ?_; dsimp only)); refine Kd.N_lit k30 _ 30 ?hg (N' := 44) ?hd (xs := ([(⟨7, 1, a0, 0, ([] : List (S35)), ([] : List (S32))⟩ : S30), (⟨1, 2, 0, 0, ([] : List (S35)), x115005_2⟩ : S30)] : List (S30))) (inner := [.int .i64 7, .int .i64 1, .int .i64 a0, .int .i64 0, .slice none 0 0, .slice none 0 0, .int .i64 1, .int .i64 2, .int .i64 0, .int .i64 0, .slice none 0 0, .slice Ao26 x115005_2.length co26]) (ok := (fun k_ => k_ ≠ gb114)) (okp := (fun k_ => k_ ≠ gb114)) ?hr ?hp (fun _ hk => hk) ((show ∀ k_, wr.heap.size ≤ k_ → (fun k_ => k_ ≠ gb114) k_ from fun k_ hk => Kd.freshB (g := gb114) (o := .cells #[.int .i64 1, .int .i64 2, .int .i64 0, .int .i64 0, .slice none 0 0, .slice Ao26 x115005_2.length co26] 30 (0, 0)) (by (with_reducible repeat (first | refine blk_drewN ?_ _ | refine blk_drew ?_ | refine blk_alloc ?_ _)); exact BK114.out) k_ hk) _ (Nat.le_refl _)) (Below.refl _ _) (Nat.le_refl _) (by simp) ?_; (case hd => rfl); (case hg => rfl); (case hr => first | (go_simp; done) | (go_simp; rfl)); (case hp => exact (Reps.c6 (show Kd.FK k30 _ _ (⟨7, 1, a0, 0, ([] : List (S35)), ([] : List (S32))⟩ : S30) [.int .i64 7, .int .i64 1, .int .i64 a0, .int .i64 0, .slice none 0 0, .slice none 0 0] from (k30_mkF _ _ (⟨7, 1, a0, 0, ([] : List (S35)), ([] : List (S32))⟩ : S30) (Nat.le_refl _) (Kd.F_nil _ _ _) (Nat.le_refl _) (Kd.F_nil _ _ _))) (Reps.c6 (show Kd.FK k30 _ _ (⟨1, 2, 0, 0, ([] : List (S35)), x115005_2⟩ : S30) [.int .i64 1, .int .i64 2, .int .i64 0, .int .i64 0, .slice none 0 0, .slice Ao26 x115005_2.length co26] from (k30_mkF _ _ (⟨1, 2, 0, 0, ([] : List (S35)), x115005_2⟩ : S30) (Nat.le_refl _) (Kd.F_nil _ _ _) (Kd.R_reads' (Kd.R_mono (ok' := (fun k_ => k_ ≠ gb114)) (Kd.R_types (HO_115005.out) BK114.out (by decide)) (fun k_ hk => hk.2))).2.1 (Kd.R_F (Kd.R_mono (ok' := (fun k_ => k_ ≠ gb114)) (Kd.R_types (HO_115005.out) BK114.out (by decide)) (fun k_ hk => hk.2))))) (Reps.none _ _)))); intro v122 w27 ho28 hb hg_ hnew_; clear hg_ hnew_; (first | rw [← Ny121.out] at ho28 | (simp only [Int.reduceToNat] at ho28; rw [← Ny121.out] at ho28)); have n0_ := Aside0.mk (Kd.N_lower ho28 (below_size (by repeat (first | (with_reducible first | exact HB.out | apply below_alloc | apply pw_below_drewN | apply below_drew1 | refine below_set ?_ GE114.out) | exact HB.out)))); have n1_ := Aside0.mk (blk_below (g := gb114) (o := .cells #[.int .i64 1, .int .i64 2, .int .i64 0, .int .i64 0, .slice none 0 0, .slice Ao26 x115005_2.length co26] 30 (0, 0)) (by (with_reducible repeat (first | refine blk_drewN ?_ _ | refine blk_drew ?_ | refine blk_alloc ?_ _)); exact BK114.out) hb); have n2_ := Aside0.mk (below_step (by repeat (first | (with_reducible first | exact HB.out | apply below_alloc | apply pw_below_drewN | apply below_drew1 | refine below_set ?_ GE114.out) | exact HB.out)) hb); have nX_ := Aside0.mk (Kd.R_below HO_115005.out hb); clear BK114; clear HB; clear HO_115005; have HO_115005 := nX_; clear nX_; have HO123 := n0_; have BK114 := n1_; have HB := n2_; clear n0_ n1_ n2_; clear hb ho28; obtain ⟨Ao29, co29, eo29⟩ := Kd.N_slice HO123.out; subst eo29) | ((with_reducible refine gate_callee (f := 19) rfl ?_); refine goesL_ (some 46) rfl rfl Try.func19 (by kernel_rfl) rfl #[.slice Ao29 y121.length co29] rfl (by (try simp only [List.map_toArray, List.map_cons, List.map_nil]); first | done | rfl | (simp only [List.length_drop, List.length_take]; rfl)) ?_; (with_reducible refine (walk_Paths.calls _ _ y121 t124 _ ?side1 ?side2 A22.out).mono ?_); (case side1 => repeat (first | exact (Kd.N_reads' HO123.out).2.2 | (with_reducible refine Kd.C_alloc ?_ _) | (with_reducible refine Kd.C_drewN ?_ _) | (with_reducible refine Kd.C_drew ?_))); (case side2 => exact (Kd.N_reads' HO123.out).2.1); rintro e w30 ⟨v125, rfl, ho0, hb⟩; refine ⟨_, rfl, ?_⟩; have n0_ := Aside0.mk (Kd.N_elder' (by (with_reducible repeat (first | apply Kd.N_alloc | apply Kd.N_drewN | apply Kd.N_drew)); exact HO123.out) (Kd.R_base ho0) hb); have n1_ := Aside0.mk (Kd.R_lower ho0 (below_size (by repeat (first | (with_reducible first | exact HB.out | apply below_alloc | apply pw_below_drewN | apply below_drew1 | refine below_set ?_ GE114.out) | exact HB.out)))); have n2_ := Aside0.mk (blk_below (g := gb114) (o := .cells #[.int .i64 1, .int .i64 2, .int .i64 0, .int .i64 0, .slice none 0 0, .slice Ao26 x115005_2.length co26] 30 (0, 0)) (by (with_reducible repeat (first | refine blk_drewN ?_ _ | refine blk_drew ?_ | refine blk_alloc ?_ _)); exact BK114.out) hb); have n3_ := Aside0.mk (below_step (by repeat (first | (with_reducible first | exact HB.out | apply below_alloc | apply pw_below_drewN | apply below_drew1 | refine below_set ?_ GE114.out) | exact HB.out)) hb); clear HO123; clear BK114; clear HB; have HO123 := n0_; have HO126 := n1_; have BK114 := n2_; have HB := n3_; clear n0_ n1_ n2_ n3_; have nX_ := Aside0.mk (Kd.R_below (by (with_reducible repeat (first | apply Kd.R_alloc | apply Kd.R_drewN | apply Kd.R_drew)); exact HO_115005.out) hb); clear HO_115005; have HO_115005 := nX_; clear nX_; (try clear hb); (try clear hb2); (try clear hk); (try clear hi); (try clear ho0)) | ((with_reducible refine gate_callee (f := 13) rfl ?_); refine goesL_ (some 48) rfl rfl Try.func13 (by kernel_rfl) rfl #[.slice Ao29 y121.length co29] rfl (by (try simp only [List.map_toArray, List.map_cons, List.map_nil]); first | done | rfl | (simp only [List.length_drop, List.length_take]; rfl)) ?_; (with_reducible refine (walk_Renumber.calls _ _ y121 t127 _ ?side1 ?side2 A23.out).mono ?_); (case side1 => repeat (first | exact (Kd.N_reads' HO123.out).2.2 | (with_reducible refine Kd.C_alloc ?_ _) | (with_reducible refine Kd.C_drewN ?_ _) | (with_reducible refine Kd.C_drew ?_))); (case side2 => exact (Kd.N_reads' HO123.out).2.1); rintro e w31 ⟨v128, rfl, ho0, hb⟩; refine ⟨_, rfl, ?_⟩; have n0_ := Aside0.mk (Kd.N_elder' (by (with_reducible repeat (first | apply Kd.N_alloc | apply Kd.N_drewN | apply Kd.N_drew)); exact HO123.out) (Kd.N_base ho0) hb); have n1_ := Aside0.mk (Kd.R_below (by (with_reducible repeat (first | apply Kd.R_alloc | apply Kd.R_drewN | apply Kd.R_drew)); exact HO126.out) hb); have n2_ := Aside0.mk (Kd.N_lower (Kd.N_mono (ok' := fun k_ => some k_ ≠ (.slice Ao29 y121.length co29 : Value).ownBlock ∧ some k_ ≠ (v125 : Value).ownBlock ∧ k_ ≠ gb114) ho0 (fun k_ hk_ => ⟨(Kd.fresh' (Kd.N_lt (by (with_reducible repeat (first | apply Kd.N_alloc | apply Kd.N_drewN | apply Kd.N_drew)); exact HO123.out)) k_ hk_), (Kd.fresh' (Kd.R_lt (by (with_reducible repeat (first | apply Kd.R_alloc | apply Kd.R_drewN | apply Kd.R_drew)); exact HO126.out)) k_ hk_), (Kd.freshB (g := gb114) (o := .cells #[.int .i64 1, .int .i64 2, .int .i64 0, .int .i64 0, .slice none 0 0, .slice Ao26 x115005_2.length co26] 30 (0, 0)) (by (with_reducible repeat (first | refine blk_drewN ?_ _ | refine blk_drew ?_ | refine blk_alloc ?_ _)); exact BK114.out) k_ hk_)⟩)) (below_size (by repeat (first | (with_reducible first | exact HB.out | apply below_alloc | apply pw_below_drewN | apply below_drew1 | refine below_set ?_ GE114.out) | exact HB.out)))); have n3_ := Aside0.mk (blk_below (g := gb114) (o := .cells #[.int .i64 1, .int .i64 2, .int .i64 0, .int .i64 0, .slice none 0 0, .slice Ao26 x115005_2.length co26] 30 (0, 0)) (by (with_reducible repeat (first | refine blk_drewN ?_ _ | refine blk_drew ?_ | refine blk_alloc ?_ _)); exact BK114.out) hb); have n4_ := Aside0.mk (below_step (by repeat (first | (with_reducible first | exact HB.out | apply below_alloc | apply pw_below_drewN | apply below_drew1 | refine below_set ?_ GE114.out) | exact HB.out)) hb); clear HO123; clear HO126; clear BK114; clear HB; have HO123 := n0_; have HO126 := n1_; have HO129 := n2_; have BK114 := n3_; have HB := n4_; clear n0_ n1_ n2_ n3_ n4_; have nX_ := Aside0.mk (Kd.R_below (by (with_reducible repeat (first | apply Kd.R_alloc | apply Kd.R_drewN | apply Kd.R_drew)); exact HO_115005.out) hb); clear HO_115005; have HO_115005 := nX_; clear nX_; (try clear hb); (try clear hb2); (try clear hk); (try clear hi); (try clear ho0)))
              (try simp only [Act.put, List.setIfInBounds_toArray, List.set_cons_zero, List.set_cons_succ])
              go_cut [85] (fun v85 wc => ∃ (kq : Nat) (x85_23 : Bool), v85 = .bool x85_23 ∧ Aside0 (lockgatelaw20_WalkLinks.j2 kq a0 y121 t124 t127 x85_23 = some r) ∧ Aside0 (kq ≤ k2) ∧ Aside0 (Kd.N k30 30 wc w.heap.size (fun k_ => some k_ ≠ (v125 : Value).ownBlock ∧ some k_ ≠ (v128 : Value).ownBlock ∧ k_ ≠ gb114) (.slice Ao29 y121.length co29) y121) ∧ Aside0 (Kd.R Kd.string 9 wc w.heap.size (fun _ => True) v125 t124) ∧ Aside0 (Kd.N k30 30 wc w.heap.size (fun k_ => some k_ ≠ ((.slice Ao29 y121.length co29) : Value).ownBlock ∧ some k_ ≠ (v125 : Value).ownBlock ∧ k_ ≠ gb114) v128 t127) ∧ Aside0 (Kd.R k32 32 wc w.heap.size (fun _ => True) (.slice Ao26 x115005_2.length co26) x115005_2) ∧ Aside0 (wc.heap[gb114]? = some (.cells #[.int .i64 1, .int .i64 2, .int .i64 0, .int .i64 0, (.slice none 0 0), (.slice Ao26 x115005_2.length co26)] 30 (0, 0))) ∧ Aside0 (Below w.heap.size w wc))
              case first =>
                have H := HC24.out
                clear HC24
                by_cases c32 : (t124.length : Int) = a0
                · rw [if_pos c32] at H
                  have c32b0 : ((t124.length : Int) == a0) = true := beq_iff_eq.mpr c32
                  have c32b1 : ((t124.length : Int) != a0) = false := bne_eq_false_iff_eq.mpr c32
                  clear c32
                  (first | rw [c32b0] | (simp only [i64_w, i32_w]; rw [c32b0]) | skip)
                  by_cases c33 : (t127.length : Int) = 2
                  · rw [if_pos c33] at H
                    have c33b0 : ((t127.length : Int) == 2) = true := beq_iff_eq.mpr c33
                    have c33b1 : ((t127.length : Int) != 2) = false := bne_eq_false_iff_eq.mpr c33
                    clear c33
                    by_cases c34 : 0 < (t127.length : Int)
                    · rw [if_pos c34] at H
                      have c34b0 : decide (0 < (t127.length : Int)) = true := decide_eq_true c34
                      have c34b1 : decide (0 < t127.length) = true := decide_eq_true (by omega)
                      clear c34
                      by_cases c35 : ((rd_T30 t127 0).f0) = 1
                      · rw [if_pos c35] at H
                        have c35b0 : (((rd_T30 t127 0).f0) == 1) = true := beq_iff_eq.mpr c35
                        have c35b1 : (((rd_T30 t127 0).f0) != 1) = false := bne_eq_false_iff_eq.mpr c35
                        clear c35
                        by_cases c36 : ((rd_T30 t127 0).f1) = 2
                        · rw [if_pos c36] at H
                          have c36b0 : (((rd_T30 t127 0).f1) == 2) = true := beq_iff_eq.mpr c36
                          have c36b1 : (((rd_T30 t127 0).f1) != 2) = false := bne_eq_false_iff_eq.mpr c36
                          clear c36
                          by_cases c37 : 1 < (t127.length : Int)
                          · rw [if_pos c37] at H
                            have c37b0 : decide (1 < (t127.length : Int)) = true := decide_eq_true c37
                            have c37b1 : decide (1 < t127.length) = true := decide_eq_true (by omega)
                            clear c37
                            by_cases c38 : ((rd_T30 t127 1).f0) = 2
                            · rw [if_pos c38] at H
                              have c38b0 : (((rd_T30 t127 1).f0) == 2) = true := beq_iff_eq.mpr c38
                              have c38b1 : (((rd_T30 t127 1).f0) != 2) = false := bne_eq_false_iff_eq.mpr c38
                              clear c38
                              have H' := Aside0.mk H
                              clear H
                              obtain ⟨Ao39, co39, eo39⟩ := Kd.R_slice HO126.out
                              subst eo39
                              obtain ⟨Ao40, co40, eo40⟩ := Kd.N_slice HO129.out
                              subst eo40
                              have p130 : 0 ≤ (0 : Int) := (by omega)
                              have q130 : 0 < (t127.length : Int) := of_decide_eq_true (by first | (with_reducible assumption) | assumption)
                              obtain ⟨ad130, A130_4, c130_4, A130_5, c130_5, e130, hx130_0, hx130_1, hx130_2, hx130_3, hx130_4, hx130_5, hl130_4, hi130_4, hl130_5, hi130_5⟩ := at_T30 (Kd.N_reads' HO129.out).2.2 0 p130 q130
                              cases e130
                              obtain ⟨ce130, hce130, hMe130, hcc130⟩ := Kd.N_get HO129.out z30 0 p130 (by first | exact q130 | exact of_decide_eq_true (by first | (with_reducible assumption) | assumption) | (have e_ := (Kd.N_reads' HO129.out).1; omega))
                              obtain ⟨ua130_4, uc130_4, ua130_5, uc130_5, rfl, ul130_4, ge130_4, ul130_5, ge130_5⟩ := k30_openF hMe130
                              have hv130_4 := hcc130 4 _ rfl
                              rw [add_field _ _ 4 (by omega)] at hv130_4
                              replace hv130_4 := Option.some.inj (hv130_4.symm.trans hx130_4)
                              injection hv130_4 with hva_ hvn_ hvc_
                              rw [hva_] at ge130_4
                              rw [hvc_] at ul130_4
                              have HL130_4 := Aside0.mk (show Kd.V k35 35 _ w.heap.size _ _ ((rd_T30 t127 0).f4) from Kd.V_mk ul130_4 ge130_4)
                              clear hva_ hvn_ hvc_ ge130_4 ul130_4
                              have hv130_5 := hcc130 5 _ rfl
                              rw [add_field _ _ 5 (by omega)] at hv130_5
                              replace hv130_5 := Option.some.inj (hv130_5.symm.trans hx130_5)
                              injection hv130_5 with hva_ hvn_ hvc_
                              rw [hva_] at ge130_5
                              rw [hvc_] at ul130_5
                              have HL130_5 := Aside0.mk (show Kd.V k32 32 _ w.heap.size _ _ ((rd_T30 t127 0).f5) from Kd.V_mk ul130_5 ge130_5)
                              clear hva_ hvn_ hvc_ ge130_5 ul130_5
                              clear hcc130 hce130
                              have qi130 : (0 < t127.length) = True := eq_true (by omega)
                              (try rw [show ((0 : Int)).toNat = 0 from rfl] at hx130_0)
                              (try rw [show 0 * 6 = 0 from rfl] at hx130_0)
                              (try rw [Addr.add_zero'] at hx130_0)
                              (try rw [show ((0 : Int)).toNat = 0 from rfl] at hx130_1)
                              (try rw [show 0 * 6 = 0 from rfl] at hx130_1)
                              (try rw [Addr.add_zero'] at hx130_1)
                              (try rw [show ((0 : Int)).toNat = 0 from rfl] at hx130_2)
                              (try rw [show 0 * 6 = 0 from rfl] at hx130_2)
                              (try rw [Addr.add_zero'] at hx130_2)
                              (try rw [show ((0 : Int)).toNat = 0 from rfl] at hx130_3)
                              (try rw [show 0 * 6 = 0 from rfl] at hx130_3)
                              (try rw [Addr.add_zero'] at hx130_3)
                              (try rw [show ((0 : Int)).toNat = 0 from rfl] at hx130_4)
                              (try rw [show 0 * 6 = 0 from rfl] at hx130_4)
                              (try rw [Addr.add_zero'] at hx130_4)
                              (try rw [show ((0 : Int)).toNat = 0 from rfl] at hx130_5)
                              (try rw [show 0 * 6 = 0 from rfl] at hx130_5)
                              (try rw [Addr.add_zero'] at hx130_5)
                              have HR130_4 := Aside0.mk hi130_4
                              have HC130_4 := Aside0.mk hl130_4
                              clear hi130_4 hl130_4
                              have HR130_5 := Aside0.mk hi130_5
                              have HC130_5 := Aside0.mk hl130_5
                              clear hi130_5 hl130_5
                              replace p130 := eq_true p130
                              replace q130 := eq_true q130
                              have p131 : 0 ≤ (0 : Int) := (by omega)
                              have q131 : 0 < (t127.length : Int) := of_decide_eq_true (by first | (with_reducible assumption) | assumption)
                              obtain ⟨ad131, A131_4, c131_4, A131_5, c131_5, e131, hx131_0, hx131_1, hx131_2, hx131_3, hx131_4, hx131_5, hl131_4, hi131_4, hl131_5, hi131_5⟩ := at_T30 (Kd.N_reads' HO129.out).2.2 0 p131 q131
                              obtain rfl : ad130 = ad131 := (by injection e131)
                              obtain ⟨ce131, hce131, hMe131, hcc131⟩ := Kd.N_get HO129.out z30 0 p131 (by first | exact q131 | exact of_decide_eq_true (by first | (with_reducible assumption) | assumption) | (have e_ := (Kd.N_reads' HO129.out).1; omega))
                              obtain ⟨ua131_4, uc131_4, ua131_5, uc131_5, rfl, ul131_4, ge131_4, ul131_5, ge131_5⟩ := k30_openF hMe131
                              have hv131_4 := hcc131 4 _ rfl
                              rw [add_field _ _ 4 (by omega)] at hv131_4
                              replace hv131_4 := Option.some.inj (hv131_4.symm.trans hx131_4)
                              injection hv131_4 with hva_ hvn_ hvc_
                              rw [hva_] at ge131_4
                              rw [hvc_] at ul131_4
                              have HL131_4 := Aside0.mk (show Kd.V k35 35 _ w.heap.size _ _ ((rd_T30 t127 0).f4) from Kd.V_mk ul131_4 ge131_4)
                              clear hva_ hvn_ hvc_ ge131_4 ul131_4
                              have hv131_5 := hcc131 5 _ rfl
                              rw [add_field _ _ 5 (by omega)] at hv131_5
                              replace hv131_5 := Option.some.inj (hv131_5.symm.trans hx131_5)
                              injection hv131_5 with hva_ hvn_ hvc_
                              rw [hva_] at ge131_5
                              rw [hvc_] at ul131_5
                              have HL131_5 := Aside0.mk (show Kd.V k32 32 _ w.heap.size _ _ ((rd_T30 t127 0).f5) from Kd.V_mk ul131_5 ge131_5)
                              clear hva_ hvn_ hvc_ ge131_5 ul131_5
                              clear hcc131 hce131
                              have qi131 : (0 < t127.length) = True := eq_true (by omega)
                              (try rw [show ((0 : Int)).toNat = 0 from rfl] at hx131_0)
                              (try rw [show 0 * 6 = 0 from rfl] at hx131_0)
                              (try rw [Addr.add_zero'] at hx131_0)
                              (try rw [show ((0 : Int)).toNat = 0 from rfl] at hx131_1)
                              (try rw [show 0 * 6 = 0 from rfl] at hx131_1)
                              (try rw [Addr.add_zero'] at hx131_1)
                              (try rw [show ((0 : Int)).toNat = 0 from rfl] at hx131_2)
                              (try rw [show 0 * 6 = 0 from rfl] at hx131_2)
                              (try rw [Addr.add_zero'] at hx131_2)
                              (try rw [show ((0 : Int)).toNat = 0 from rfl] at hx131_3)
                              (try rw [show 0 * 6 = 0 from rfl] at hx131_3)
                              (try rw [Addr.add_zero'] at hx131_3)
                              (try rw [show ((0 : Int)).toNat = 0 from rfl] at hx131_4)
                              (try rw [show 0 * 6 = 0 from rfl] at hx131_4)
                              (try rw [Addr.add_zero'] at hx131_4)
                              (try rw [show ((0 : Int)).toNat = 0 from rfl] at hx131_5)
                              (try rw [show 0 * 6 = 0 from rfl] at hx131_5)
                              (try rw [Addr.add_zero'] at hx131_5)
                              have HR131_4 := Aside0.mk hi131_4
                              have HC131_4 := Aside0.mk hl131_4
                              clear hi131_4 hl131_4
                              have HR131_5 := Aside0.mk hi131_5
                              have HC131_5 := Aside0.mk hl131_5
                              clear hi131_5 hl131_5
                              replace p131 := eq_true p131
                              replace q131 := eq_true q131
                              have ea_ := Option.some.inj (hx130_4.symm.trans hx131_4)
                              injection ea_ with ea_ en_ ec_
                              subst ea_
                              subst ec_
                              clear en_
                              have ea_ := Option.some.inj (hx130_5.symm.trans hx131_5)
                              injection ea_ with ea_ en_ ec_
                              subst ea_
                              subst ec_
                              clear en_
                              have p132 : 0 ≤ (1 : Int) := (by omega)
                              have q132 : 1 < (t127.length : Int) := of_decide_eq_true (by first | (with_reducible assumption) | assumption)
                              obtain ⟨ad132, A132_4, c132_4, A132_5, c132_5, e132, hx132_0, hx132_1, hx132_2, hx132_3, hx132_4, hx132_5, hl132_4, hi132_4, hl132_5, hi132_5⟩ := at_T30 (Kd.N_reads' HO129.out).2.2 1 p132 q132
                              obtain rfl : ad130 = ad132 := (by injection e132)
                              obtain ⟨ce132, hce132, hMe132, hcc132⟩ := Kd.N_get HO129.out z30 1 p132 (by first | exact q132 | exact of_decide_eq_true (by first | (with_reducible assumption) | assumption) | (have e_ := (Kd.N_reads' HO129.out).1; omega))
                              obtain ⟨ua132_4, uc132_4, ua132_5, uc132_5, rfl, ul132_4, ge132_4, ul132_5, ge132_5⟩ := k30_openF hMe132
                              have hv132_4 := hcc132 4 _ rfl
                              rw [add_field _ _ 4 (by omega)] at hv132_4
                              replace hv132_4 := Option.some.inj (hv132_4.symm.trans hx132_4)
                              injection hv132_4 with hva_ hvn_ hvc_
                              rw [hva_] at ge132_4
                              rw [hvc_] at ul132_4
                              have HL132_4 := Aside0.mk (show Kd.V k35 35 _ w.heap.size _ _ ((rd_T30 t127 1).f4) from Kd.V_mk ul132_4 ge132_4)
                              clear hva_ hvn_ hvc_ ge132_4 ul132_4
                              have hv132_5 := hcc132 5 _ rfl
                              rw [add_field _ _ 5 (by omega)] at hv132_5
                              replace hv132_5 := Option.some.inj (hv132_5.symm.trans hx132_5)
                              injection hv132_5 with hva_ hvn_ hvc_
                              rw [hva_] at ge132_5
                              rw [hvc_] at ul132_5
                              have HL132_5 := Aside0.mk (show Kd.V k32 32 _ w.heap.size _ _ ((rd_T30 t127 1).f5) from Kd.V_mk ul132_5 ge132_5)
                              clear hva_ hvn_ hvc_ ge132_5 ul132_5
                              clear hcc132 hce132
                              (try simp only [show (1 : Int).toNat = 1 from rfl, Nat.reduceMul, Nat.reduceEqDiff, Go.Addr.add, ↓reduceIte] at hx132_0)
                              (try simp only [show (1 : Int).toNat = 1 from rfl, Nat.reduceMul, Nat.reduceEqDiff, Go.Addr.add, ↓reduceIte] at hx132_1)
                              (try simp only [show (1 : Int).toNat = 1 from rfl, Nat.reduceMul, Nat.reduceEqDiff, Go.Addr.add, ↓reduceIte] at hx132_2)
                              (try simp only [show (1 : Int).toNat = 1 from rfl, Nat.reduceMul, Nat.reduceEqDiff, Go.Addr.add, ↓reduceIte] at hx132_3)
                              (try simp only [show (1 : Int).toNat = 1 from rfl, Nat.reduceMul, Nat.reduceEqDiff, Go.Addr.add, ↓reduceIte] at hx132_4)
                              (try simp only [show (1 : Int).toNat = 1 from rfl, Nat.reduceMul, Nat.reduceEqDiff, Go.Addr.add, ↓reduceIte] at hx132_5)
                              have qi132 : (1 < t127.length) = True := eq_true (by omega)
                              (try rw [show ((1 : Int)).toNat = 1 from rfl] at hx132_0)
                              (try rw [show 1 * 6 = 6 from rfl] at hx132_0)
                              (try rw [show ((1 : Int)).toNat = 1 from rfl] at hx132_1)
                              (try rw [show 1 * 6 = 6 from rfl] at hx132_1)
                              (try rw [show ((1 : Int)).toNat = 1 from rfl] at hx132_2)
                              (try rw [show 1 * 6 = 6 from rfl] at hx132_2)
                              (try rw [show ((1 : Int)).toNat = 1 from rfl] at hx132_3)
                              (try rw [show 1 * 6 = 6 from rfl] at hx132_3)
                              (try rw [show ((1 : Int)).toNat = 1 from rfl] at hx132_4)
                              (try rw [show 1 * 6 = 6 from rfl] at hx132_4)
                              (try rw [show ((1 : Int)).toNat = 1 from rfl] at hx132_5)
                              (try rw [show 1 * 6 = 6 from rfl] at hx132_5)
                              have HR132_4 := Aside0.mk hi132_4
                              have HC132_4 := Aside0.mk hl132_4
                              clear hi132_4 hl132_4
                              have HR132_5 := Aside0.mk hi132_5
                              have HC132_5 := Aside0.mk hl132_5
                              clear hi132_5 hl132_5
                              replace p132 := eq_true p132
                              replace q132 := eq_true q132
                              have p133 : 0 ≤ (1 : Int) := (by omega)
                              have q133 : 1 < (t127.length : Int) := of_decide_eq_true (by first | (with_reducible assumption) | assumption)
                              obtain ⟨ad133, A133_4, c133_4, A133_5, c133_5, e133, hx133_0, hx133_1, hx133_2, hx133_3, hx133_4, hx133_5, hl133_4, hi133_4, hl133_5, hi133_5⟩ := at_T30 (Kd.N_reads' HO129.out).2.2 1 p133 q133
                              obtain rfl : ad130 = ad133 := (by injection e133)
                              obtain ⟨ce133, hce133, hMe133, hcc133⟩ := Kd.N_get HO129.out z30 1 p133 (by first | exact q133 | exact of_decide_eq_true (by first | (with_reducible assumption) | assumption) | (have e_ := (Kd.N_reads' HO129.out).1; omega))
                              obtain ⟨ua133_4, uc133_4, ua133_5, uc133_5, rfl, ul133_4, ge133_4, ul133_5, ge133_5⟩ := k30_openF hMe133
                              have hv133_4 := hcc133 4 _ rfl
                              rw [add_field _ _ 4 (by omega)] at hv133_4
                              replace hv133_4 := Option.some.inj (hv133_4.symm.trans hx133_4)
                              injection hv133_4 with hva_ hvn_ hvc_
                              rw [hva_] at ge133_4
                              rw [hvc_] at ul133_4
                              have HL133_4 := Aside0.mk (show Kd.V k35 35 _ w.heap.size _ _ ((rd_T30 t127 1).f4) from Kd.V_mk ul133_4 ge133_4)
                              clear hva_ hvn_ hvc_ ge133_4 ul133_4
                              have hv133_5 := hcc133 5 _ rfl
                              rw [add_field _ _ 5 (by omega)] at hv133_5
                              replace hv133_5 := Option.some.inj (hv133_5.symm.trans hx133_5)
                              injection hv133_5 with hva_ hvn_ hvc_
                              rw [hva_] at ge133_5
                              rw [hvc_] at ul133_5
                              have HL133_5 := Aside0.mk (show Kd.V k32 32 _ w.heap.size _ _ ((rd_T30 t127 1).f5) from Kd.V_mk ul133_5 ge133_5)
                              clear hva_ hvn_ hvc_ ge133_5 ul133_5
                              clear hcc133 hce133
                              (try simp only [show (1 : Int).toNat = 1 from rfl, Nat.reduceMul, Nat.reduceEqDiff, Go.Addr.add, ↓reduceIte] at hx133_0)
                              (try simp only [show (1 : Int).toNat = 1 from rfl, Nat.reduceMul, Nat.reduceEqDiff, Go.Addr.add, ↓reduceIte] at hx133_1)
                              (try simp only [show (1 : Int).toNat = 1 from rfl, Nat.reduceMul, Nat.reduceEqDiff, Go.Addr.add, ↓reduceIte] at hx133_2)
                              (try simp only [show (1 : Int).toNat = 1 from rfl, Nat.reduceMul, Nat.reduceEqDiff, Go.Addr.add, ↓reduceIte] at hx133_3)
                              (try simp only [show (1 : Int).toNat = 1 from rfl, Nat.reduceMul, Nat.reduceEqDiff, Go.Addr.add, ↓reduceIte] at hx133_4)
                              (try simp only [show (1 : Int).toNat = 1 from rfl, Nat.reduceMul, Nat.reduceEqDiff, Go.Addr.add, ↓reduceIte] at hx133_5)
                              have qi133 : (1 < t127.length) = True := eq_true (by omega)
                              (try rw [show ((1 : Int)).toNat = 1 from rfl] at hx133_0)
                              (try rw [show 1 * 6 = 6 from rfl] at hx133_0)
                              (try rw [show ((1 : Int)).toNat = 1 from rfl] at hx133_1)
                              (try rw [show 1 * 6 = 6 from rfl] at hx133_1)
                              (try rw [show ((1 : Int)).toNat = 1 from rfl] at hx133_2)
                              (try rw [show 1 * 6 = 6 from rfl] at hx133_2)
                              (try rw [show ((1 : Int)).toNat = 1 from rfl] at hx133_3)
                              (try rw [show 1 * 6 = 6 from rfl] at hx133_3)
                              (try rw [show ((1 : Int)).toNat = 1 from rfl] at hx133_4)
                              (try rw [show 1 * 6 = 6 from rfl] at hx133_4)
                              (try rw [show ((1 : Int)).toNat = 1 from rfl] at hx133_5)
                              (try rw [show 1 * 6 = 6 from rfl] at hx133_5)
                              have HR133_4 := Aside0.mk hi133_4
                              have HC133_4 := Aside0.mk hl133_4
                              clear hi133_4 hl133_4
                              have HR133_5 := Aside0.mk hi133_5
                              have HC133_5 := Aside0.mk hl133_5
                              clear hi133_5 hl133_5
                              replace p133 := eq_true p133
                              replace q133 := eq_true q133
                              have ea_ := Option.some.inj (hx132_4.symm.trans hx133_4)
                              injection ea_ with ea_ en_ ec_
                              subst ea_
                              subst ec_
                              clear en_
                              have ea_ := Option.some.inj (hx132_5.symm.trans hx133_5)
                              injection ea_ with ea_ en_ ec_
                              subst ea_
                              subst ec_
                              clear en_
                              go_wp2
                              go_meet
                              case rel => exact ⟨_, ((((rd_T30 t127 1).f1) != 1)), (by first | rfl | (simp; done) | (simp [*]; done)), H', ⟨by have := HJ2.out; have := HK2.out; first | omega | exact Nat.le_refl _⟩, ⟨by (with_reducible repeat (first | apply Kd.N_alloc | apply Kd.N_drewN | apply Kd.N_drew)); exact Kd.N_mono HO123.out (fun _ hk => ⟨hk.1.2, ⟨hk.2, hk.1.1⟩⟩)⟩, ⟨by (with_reducible repeat (first | apply Kd.R_alloc | apply Kd.R_drewN | apply Kd.R_drew)); exact HO126.out⟩, ⟨by (with_reducible repeat (first | apply Kd.N_alloc | apply Kd.N_drewN | apply Kd.N_drew)); exact HO129.out⟩, ⟨by (with_reducible repeat (first | apply Kd.R_alloc | apply Kd.R_drewN | apply Kd.R_drew)); exact HO_115005.out⟩, ⟨by (with_reducible repeat (first | refine blk_drewN ?_ _ | refine blk_drew ?_ | refine blk_alloc ?_ _)); exact BK114.out⟩, ⟨by repeat (first | (with_reducible first | exact HB.out | apply below_alloc | apply pw_below_drewN | apply below_drew1 | refine below_set ?_ GE114.out) | exact HB.out)⟩⟩
                            · rw [if_neg c38] at H
                              have c38b0 : (((rd_T30 t127 1).f0) == 2) = false := beq_eq_false_iff_ne.mpr c38
                              have c38b1 : (((rd_T30 t127 1).f0) != 2) = true := bne_iff_ne.mpr c38
                              have H' := Aside0.mk H
                              clear H
                              obtain ⟨Ao41, co41, eo41⟩ := Kd.R_slice HO126.out
                              subst eo41
                              obtain ⟨Ao42, co42, eo42⟩ := Kd.N_slice HO129.out
                              subst eo42
                              have p130 : 0 ≤ (0 : Int) := (by omega)
                              have q130 : 0 < (t127.length : Int) := of_decide_eq_true (by first | (with_reducible assumption) | assumption)
                              obtain ⟨ad130, A130_4, c130_4, A130_5, c130_5, e130, hx130_0, hx130_1, hx130_2, hx130_3, hx130_4, hx130_5, hl130_4, hi130_4, hl130_5, hi130_5⟩ := at_T30 (Kd.N_reads' HO129.out).2.2 0 p130 q130
                              cases e130
                              obtain ⟨ce130, hce130, hMe130, hcc130⟩ := Kd.N_get HO129.out z30 0 p130 (by first | exact q130 | exact of_decide_eq_true (by first | (with_reducible assumption) | assumption) | (have e_ := (Kd.N_reads' HO129.out).1; omega))
                              obtain ⟨ua130_4, uc130_4, ua130_5, uc130_5, rfl, ul130_4, ge130_4, ul130_5, ge130_5⟩ := k30_openF hMe130
                              have hv130_4 := hcc130 4 _ rfl
                              rw [add_field _ _ 4 (by omega)] at hv130_4
                              replace hv130_4 := Option.some.inj (hv130_4.symm.trans hx130_4)
                              injection hv130_4 with hva_ hvn_ hvc_
                              rw [hva_] at ge130_4
                              rw [hvc_] at ul130_4
                              have HL130_4 := Aside0.mk (show Kd.V k35 35 _ w.heap.size _ _ ((rd_T30 t127 0).f4) from Kd.V_mk ul130_4 ge130_4)
                              clear hva_ hvn_ hvc_ ge130_4 ul130_4
                              have hv130_5 := hcc130 5 _ rfl
                              rw [add_field _ _ 5 (by omega)] at hv130_5
                              replace hv130_5 := Option.some.inj (hv130_5.symm.trans hx130_5)
                              injection hv130_5 with hva_ hvn_ hvc_
                              rw [hva_] at ge130_5
                              rw [hvc_] at ul130_5
                              have HL130_5 := Aside0.mk (show Kd.V k32 32 _ w.heap.size _ _ ((rd_T30 t127 0).f5) from Kd.V_mk ul130_5 ge130_5)
                              clear hva_ hvn_ hvc_ ge130_5 ul130_5
                              clear hcc130 hce130
                              have qi130 : (0 < t127.length) = True := eq_true (by omega)
                              (try rw [show ((0 : Int)).toNat = 0 from rfl] at hx130_0)
                              (try rw [show 0 * 6 = 0 from rfl] at hx130_0)
                              (try rw [Addr.add_zero'] at hx130_0)
                              (try rw [show ((0 : Int)).toNat = 0 from rfl] at hx130_1)
                              (try rw [show 0 * 6 = 0 from rfl] at hx130_1)
                              (try rw [Addr.add_zero'] at hx130_1)
                              (try rw [show ((0 : Int)).toNat = 0 from rfl] at hx130_2)
                              (try rw [show 0 * 6 = 0 from rfl] at hx130_2)
                              (try rw [Addr.add_zero'] at hx130_2)
                              (try rw [show ((0 : Int)).toNat = 0 from rfl] at hx130_3)
                              (try rw [show 0 * 6 = 0 from rfl] at hx130_3)
                              (try rw [Addr.add_zero'] at hx130_3)
                              (try rw [show ((0 : Int)).toNat = 0 from rfl] at hx130_4)
                              (try rw [show 0 * 6 = 0 from rfl] at hx130_4)
                              (try rw [Addr.add_zero'] at hx130_4)
                              (try rw [show ((0 : Int)).toNat = 0 from rfl] at hx130_5)
                              (try rw [show 0 * 6 = 0 from rfl] at hx130_5)
                              (try rw [Addr.add_zero'] at hx130_5)
                              have HR130_4 := Aside0.mk hi130_4
                              have HC130_4 := Aside0.mk hl130_4
                              clear hi130_4 hl130_4
                              have HR130_5 := Aside0.mk hi130_5
                              have HC130_5 := Aside0.mk hl130_5
                              clear hi130_5 hl130_5
                              replace p130 := eq_true p130
                              replace q130 := eq_true q130
                              have p131 : 0 ≤ (0 : Int) := (by omega)
                              have q131 : 0 < (t127.length : Int) := of_decide_eq_true (by first | (with_reducible assumption) | assumption)
                              obtain ⟨ad131, A131_4, c131_4, A131_5, c131_5, e131, hx131_0, hx131_1, hx131_2, hx131_3, hx131_4, hx131_5, hl131_4, hi131_4, hl131_5, hi131_5⟩ := at_T30 (Kd.N_reads' HO129.out).2.2 0 p131 q131
                              obtain rfl : ad130 = ad131 := (by injection e131)
                              obtain ⟨ce131, hce131, hMe131, hcc131⟩ := Kd.N_get HO129.out z30 0 p131 (by first | exact q131 | exact of_decide_eq_true (by first | (with_reducible assumption) | assumption) | (have e_ := (Kd.N_reads' HO129.out).1; omega))
                              obtain ⟨ua131_4, uc131_4, ua131_5, uc131_5, rfl, ul131_4, ge131_4, ul131_5, ge131_5⟩ := k30_openF hMe131
                              have hv131_4 := hcc131 4 _ rfl
                              rw [add_field _ _ 4 (by omega)] at hv131_4
                              replace hv131_4 := Option.some.inj (hv131_4.symm.trans hx131_4)
                              injection hv131_4 with hva_ hvn_ hvc_
                              rw [hva_] at ge131_4
                              rw [hvc_] at ul131_4
                              have HL131_4 := Aside0.mk (show Kd.V k35 35 _ w.heap.size _ _ ((rd_T30 t127 0).f4) from Kd.V_mk ul131_4 ge131_4)
                              clear hva_ hvn_ hvc_ ge131_4 ul131_4
                              have hv131_5 := hcc131 5 _ rfl
                              rw [add_field _ _ 5 (by omega)] at hv131_5
                              replace hv131_5 := Option.some.inj (hv131_5.symm.trans hx131_5)
                              injection hv131_5 with hva_ hvn_ hvc_
                              rw [hva_] at ge131_5
                              rw [hvc_] at ul131_5
                              have HL131_5 := Aside0.mk (show Kd.V k32 32 _ w.heap.size _ _ ((rd_T30 t127 0).f5) from Kd.V_mk ul131_5 ge131_5)
                              clear hva_ hvn_ hvc_ ge131_5 ul131_5
                              clear hcc131 hce131
                              have qi131 : (0 < t127.length) = True := eq_true (by omega)
                              (try rw [show ((0 : Int)).toNat = 0 from rfl] at hx131_0)
                              (try rw [show 0 * 6 = 0 from rfl] at hx131_0)
                              (try rw [Addr.add_zero'] at hx131_0)
                              (try rw [show ((0 : Int)).toNat = 0 from rfl] at hx131_1)
                              (try rw [show 0 * 6 = 0 from rfl] at hx131_1)
                              (try rw [Addr.add_zero'] at hx131_1)
                              (try rw [show ((0 : Int)).toNat = 0 from rfl] at hx131_2)
                              (try rw [show 0 * 6 = 0 from rfl] at hx131_2)
                              (try rw [Addr.add_zero'] at hx131_2)
                              (try rw [show ((0 : Int)).toNat = 0 from rfl] at hx131_3)
                              (try rw [show 0 * 6 = 0 from rfl] at hx131_3)
                              (try rw [Addr.add_zero'] at hx131_3)
                              (try rw [show ((0 : Int)).toNat = 0 from rfl] at hx131_4)
                              (try rw [show 0 * 6 = 0 from rfl] at hx131_4)
                              (try rw [Addr.add_zero'] at hx131_4)
                              (try rw [show ((0 : Int)).toNat = 0 from rfl] at hx131_5)
                              (try rw [show 0 * 6 = 0 from rfl] at hx131_5)
                              (try rw [Addr.add_zero'] at hx131_5)
                              have HR131_4 := Aside0.mk hi131_4
                              have HC131_4 := Aside0.mk hl131_4
                              clear hi131_4 hl131_4
                              have HR131_5 := Aside0.mk hi131_5
                              have HC131_5 := Aside0.mk hl131_5
                              clear hi131_5 hl131_5
                              replace p131 := eq_true p131
                              replace q131 := eq_true q131
                              have ea_ := Option.some.inj (hx130_4.symm.trans hx131_4)
                              injection ea_ with ea_ en_ ec_
                              subst ea_
                              subst ec_
                              clear en_
                              have ea_ := Option.some.inj (hx130_5.symm.trans hx131_5)
                              injection ea_ with ea_ en_ ec_
                              subst ea_
                              subst ec_
                              clear en_
                              have p132 : 0 ≤ (1 : Int) := (by omega)
                              have q132 : 1 < (t127.length : Int) := of_decide_eq_true (by first | (with_reducible assumption) | assumption)
                              obtain ⟨ad132, A132_4, c132_4, A132_5, c132_5, e132, hx132_0, hx132_1, hx132_2, hx132_3, hx132_4, hx132_5, hl132_4, hi132_4, hl132_5, hi132_5⟩ := at_T30 (Kd.N_reads' HO129.out).2.2 1 p132 q132
                              obtain rfl : ad130 = ad132 := (by injection e132)
                              obtain ⟨ce132, hce132, hMe132, hcc132⟩ := Kd.N_get HO129.out z30 1 p132 (by first | exact q132 | exact of_decide_eq_true (by first | (with_reducible assumption) | assumption) | (have e_ := (Kd.N_reads' HO129.out).1; omega))
                              obtain ⟨ua132_4, uc132_4, ua132_5, uc132_5, rfl, ul132_4, ge132_4, ul132_5, ge132_5⟩ := k30_openF hMe132
                              have hv132_4 := hcc132 4 _ rfl
                              rw [add_field _ _ 4 (by omega)] at hv132_4
                              replace hv132_4 := Option.some.inj (hv132_4.symm.trans hx132_4)
                              injection hv132_4 with hva_ hvn_ hvc_
                              rw [hva_] at ge132_4
                              rw [hvc_] at ul132_4
                              have HL132_4 := Aside0.mk (show Kd.V k35 35 _ w.heap.size _ _ ((rd_T30 t127 1).f4) from Kd.V_mk ul132_4 ge132_4)
                              clear hva_ hvn_ hvc_ ge132_4 ul132_4
                              have hv132_5 := hcc132 5 _ rfl
                              rw [add_field _ _ 5 (by omega)] at hv132_5
                              replace hv132_5 := Option.some.inj (hv132_5.symm.trans hx132_5)
                              injection hv132_5 with hva_ hvn_ hvc_
                              rw [hva_] at ge132_5
                              rw [hvc_] at ul132_5
                              have HL132_5 := Aside0.mk (show Kd.V k32 32 _ w.heap.size _ _ ((rd_T30 t127 1).f5) from Kd.V_mk ul132_5 ge132_5)
                              clear hva_ hvn_ hvc_ ge132_5 ul132_5
                              clear hcc132 hce132
                              (try simp only [show (1 : Int).toNat = 1 from rfl, Nat.reduceMul, Nat.reduceEqDiff, Go.Addr.add, ↓reduceIte] at hx132_0)
                              (try simp only [show (1 : Int).toNat = 1 from rfl, Nat.reduceMul, Nat.reduceEqDiff, Go.Addr.add, ↓reduceIte] at hx132_1)
                              (try simp only [show (1 : Int).toNat = 1 from rfl, Nat.reduceMul, Nat.reduceEqDiff, Go.Addr.add, ↓reduceIte] at hx132_2)
                              (try simp only [show (1 : Int).toNat = 1 from rfl, Nat.reduceMul, Nat.reduceEqDiff, Go.Addr.add, ↓reduceIte] at hx132_3)
                              (try simp only [show (1 : Int).toNat = 1 from rfl, Nat.reduceMul, Nat.reduceEqDiff, Go.Addr.add, ↓reduceIte] at hx132_4)
                              (try simp only [show (1 : Int).toNat = 1 from rfl, Nat.reduceMul, Nat.reduceEqDiff, Go.Addr.add, ↓reduceIte] at hx132_5)
                              have qi132 : (1 < t127.length) = True := eq_true (by omega)
                              (try rw [show ((1 : Int)).toNat = 1 from rfl] at hx132_0)
                              (try rw [show 1 * 6 = 6 from rfl] at hx132_0)
                              (try rw [show ((1 : Int)).toNat = 1 from rfl] at hx132_1)
                              (try rw [show 1 * 6 = 6 from rfl] at hx132_1)
                              (try rw [show ((1 : Int)).toNat = 1 from rfl] at hx132_2)
                              (try rw [show 1 * 6 = 6 from rfl] at hx132_2)
                              (try rw [show ((1 : Int)).toNat = 1 from rfl] at hx132_3)
                              (try rw [show 1 * 6 = 6 from rfl] at hx132_3)
                              (try rw [show ((1 : Int)).toNat = 1 from rfl] at hx132_4)
                              (try rw [show 1 * 6 = 6 from rfl] at hx132_4)
                              (try rw [show ((1 : Int)).toNat = 1 from rfl] at hx132_5)
                              (try rw [show 1 * 6 = 6 from rfl] at hx132_5)
                              have HR132_4 := Aside0.mk hi132_4
                              have HC132_4 := Aside0.mk hl132_4
                              clear hi132_4 hl132_4
                              have HR132_5 := Aside0.mk hi132_5
                              have HC132_5 := Aside0.mk hl132_5
                              clear hi132_5 hl132_5
                              replace p132 := eq_true p132
                              replace q132 := eq_true q132
                              go_wp2
                              go_meet
                              case rel => exact ⟨_, (true), (by first | rfl | (simp; done) | (simp [*]; done)), H', ⟨by have := HJ2.out; have := HK2.out; first | omega | exact Nat.le_refl _⟩, ⟨by (with_reducible repeat (first | apply Kd.N_alloc | apply Kd.N_drewN | apply Kd.N_drew)); exact Kd.N_mono HO123.out (fun _ hk => ⟨hk.1.2, ⟨hk.2, hk.1.1⟩⟩)⟩, ⟨by (with_reducible repeat (first | apply Kd.R_alloc | apply Kd.R_drewN | apply Kd.R_drew)); exact HO126.out⟩, ⟨by (with_reducible repeat (first | apply Kd.N_alloc | apply Kd.N_drewN | apply Kd.N_drew)); exact HO129.out⟩, ⟨by (with_reducible repeat (first | apply Kd.R_alloc | apply Kd.R_drewN | apply Kd.R_drew)); exact HO_115005.out⟩, ⟨by (with_reducible repeat (first | refine blk_drewN ?_ _ | refine blk_drew ?_ | refine blk_alloc ?_ _)); exact BK114.out⟩, ⟨by repeat (first | (with_reducible first | exact HB.out | apply below_alloc | apply pw_below_drewN | apply below_drew1 | refine below_set ?_ GE114.out) | exact HB.out)⟩⟩
                          · rw [if_neg c37] at H
                            exact absurd H (by simp)
                        · rw [if_neg c36] at H
                          have c36b0 : (((rd_T30 t127 0).f1) == 2) = false := beq_eq_false_iff_ne.mpr c36
                          have c36b1 : (((rd_T30 t127 0).f1) != 2) = true := bne_iff_ne.mpr c36
                          have H' := Aside0.mk H
                          clear H
                          obtain ⟨Ao43, co43, eo43⟩ := Kd.R_slice HO126.out
                          subst eo43
                          obtain ⟨Ao44, co44, eo44⟩ := Kd.N_slice HO129.out
                          subst eo44
                          have p130 : 0 ≤ (0 : Int) := (by omega)
                          have q130 : 0 < (t127.length : Int) := of_decide_eq_true (by first | (with_reducible assumption) | assumption)
                          obtain ⟨ad130, A130_4, c130_4, A130_5, c130_5, e130, hx130_0, hx130_1, hx130_2, hx130_3, hx130_4, hx130_5, hl130_4, hi130_4, hl130_5, hi130_5⟩ := at_T30 (Kd.N_reads' HO129.out).2.2 0 p130 q130
                          cases e130
                          obtain ⟨ce130, hce130, hMe130, hcc130⟩ := Kd.N_get HO129.out z30 0 p130 (by first | exact q130 | exact of_decide_eq_true (by first | (with_reducible assumption) | assumption) | (have e_ := (Kd.N_reads' HO129.out).1; omega))
                          obtain ⟨ua130_4, uc130_4, ua130_5, uc130_5, rfl, ul130_4, ge130_4, ul130_5, ge130_5⟩ := k30_openF hMe130
                          have hv130_4 := hcc130 4 _ rfl
                          rw [add_field _ _ 4 (by omega)] at hv130_4
                          replace hv130_4 := Option.some.inj (hv130_4.symm.trans hx130_4)
                          injection hv130_4 with hva_ hvn_ hvc_
                          rw [hva_] at ge130_4
                          rw [hvc_] at ul130_4
                          have HL130_4 := Aside0.mk (show Kd.V k35 35 _ w.heap.size _ _ ((rd_T30 t127 0).f4) from Kd.V_mk ul130_4 ge130_4)
                          clear hva_ hvn_ hvc_ ge130_4 ul130_4
                          have hv130_5 := hcc130 5 _ rfl
                          rw [add_field _ _ 5 (by omega)] at hv130_5
                          replace hv130_5 := Option.some.inj (hv130_5.symm.trans hx130_5)
                          injection hv130_5 with hva_ hvn_ hvc_
                          rw [hva_] at ge130_5
                          rw [hvc_] at ul130_5
                          have HL130_5 := Aside0.mk (show Kd.V k32 32 _ w.heap.size _ _ ((rd_T30 t127 0).f5) from Kd.V_mk ul130_5 ge130_5)
                          clear hva_ hvn_ hvc_ ge130_5 ul130_5
                          clear hcc130 hce130
                          have qi130 : (0 < t127.length) = True := eq_true (by omega)
                          (try rw [show ((0 : Int)).toNat = 0 from rfl] at hx130_0)
                          (try rw [show 0 * 6 = 0 from rfl] at hx130_0)
                          (try rw [Addr.add_zero'] at hx130_0)
                          (try rw [show ((0 : Int)).toNat = 0 from rfl] at hx130_1)
                          (try rw [show 0 * 6 = 0 from rfl] at hx130_1)
                          (try rw [Addr.add_zero'] at hx130_1)
                          (try rw [show ((0 : Int)).toNat = 0 from rfl] at hx130_2)
                          (try rw [show 0 * 6 = 0 from rfl] at hx130_2)
                          (try rw [Addr.add_zero'] at hx130_2)
                          (try rw [show ((0 : Int)).toNat = 0 from rfl] at hx130_3)
                          (try rw [show 0 * 6 = 0 from rfl] at hx130_3)
                          (try rw [Addr.add_zero'] at hx130_3)
                          (try rw [show ((0 : Int)).toNat = 0 from rfl] at hx130_4)
                          (try rw [show 0 * 6 = 0 from rfl] at hx130_4)
                          (try rw [Addr.add_zero'] at hx130_4)
                          (try rw [show ((0 : Int)).toNat = 0 from rfl] at hx130_5)
                          (try rw [show 0 * 6 = 0 from rfl] at hx130_5)
                          (try rw [Addr.add_zero'] at hx130_5)
                          have HR130_4 := Aside0.mk hi130_4
                          have HC130_4 := Aside0.mk hl130_4
                          clear hi130_4 hl130_4
                          have HR130_5 := Aside0.mk hi130_5
                          have HC130_5 := Aside0.mk hl130_5
                          clear hi130_5 hl130_5
                          replace p130 := eq_true p130
                          replace q130 := eq_true q130
                          have p131 : 0 ≤ (0 : Int) := (by omega)
                          have q131 : 0 < (t127.length : Int) := of_decide_eq_true (by first | (with_reducible assumption) | assumption)
                          obtain ⟨ad131, A131_4, c131_4, A131_5, c131_5, e131, hx131_0, hx131_1, hx131_2, hx131_3, hx131_4, hx131_5, hl131_4, hi131_4, hl131_5, hi131_5⟩ := at_T30 (Kd.N_reads' HO129.out).2.2 0 p131 q131
                          obtain rfl : ad130 = ad131 := (by injection e131)
                          obtain ⟨ce131, hce131, hMe131, hcc131⟩ := Kd.N_get HO129.out z30 0 p131 (by first | exact q131 | exact of_decide_eq_true (by first | (with_reducible assumption) | assumption) | (have e_ := (Kd.N_reads' HO129.out).1; omega))
                          obtain ⟨ua131_4, uc131_4, ua131_5, uc131_5, rfl, ul131_4, ge131_4, ul131_5, ge131_5⟩ := k30_openF hMe131
                          have hv131_4 := hcc131 4 _ rfl
                          rw [add_field _ _ 4 (by omega)] at hv131_4
                          replace hv131_4 := Option.some.inj (hv131_4.symm.trans hx131_4)
                          injection hv131_4 with hva_ hvn_ hvc_
                          rw [hva_] at ge131_4
                          rw [hvc_] at ul131_4
                          have HL131_4 := Aside0.mk (show Kd.V k35 35 _ w.heap.size _ _ ((rd_T30 t127 0).f4) from Kd.V_mk ul131_4 ge131_4)
                          clear hva_ hvn_ hvc_ ge131_4 ul131_4
                          have hv131_5 := hcc131 5 _ rfl
                          rw [add_field _ _ 5 (by omega)] at hv131_5
                          replace hv131_5 := Option.some.inj (hv131_5.symm.trans hx131_5)
                          injection hv131_5 with hva_ hvn_ hvc_
                          rw [hva_] at ge131_5
                          rw [hvc_] at ul131_5
                          have HL131_5 := Aside0.mk (show Kd.V k32 32 _ w.heap.size _ _ ((rd_T30 t127 0).f5) from Kd.V_mk ul131_5 ge131_5)
                          clear hva_ hvn_ hvc_ ge131_5 ul131_5
                          clear hcc131 hce131
                          have qi131 : (0 < t127.length) = True := eq_true (by omega)
                          (try rw [show ((0 : Int)).toNat = 0 from rfl] at hx131_0)
                          (try rw [show 0 * 6 = 0 from rfl] at hx131_0)
                          (try rw [Addr.add_zero'] at hx131_0)
                          (try rw [show ((0 : Int)).toNat = 0 from rfl] at hx131_1)
                          (try rw [show 0 * 6 = 0 from rfl] at hx131_1)
                          (try rw [Addr.add_zero'] at hx131_1)
                          (try rw [show ((0 : Int)).toNat = 0 from rfl] at hx131_2)
                          (try rw [show 0 * 6 = 0 from rfl] at hx131_2)
                          (try rw [Addr.add_zero'] at hx131_2)
                          (try rw [show ((0 : Int)).toNat = 0 from rfl] at hx131_3)
                          (try rw [show 0 * 6 = 0 from rfl] at hx131_3)
                          (try rw [Addr.add_zero'] at hx131_3)
                          (try rw [show ((0 : Int)).toNat = 0 from rfl] at hx131_4)
                          (try rw [show 0 * 6 = 0 from rfl] at hx131_4)
                          (try rw [Addr.add_zero'] at hx131_4)
                          (try rw [show ((0 : Int)).toNat = 0 from rfl] at hx131_5)
                          (try rw [show 0 * 6 = 0 from rfl] at hx131_5)
                          (try rw [Addr.add_zero'] at hx131_5)
                          have HR131_4 := Aside0.mk hi131_4
                          have HC131_4 := Aside0.mk hl131_4
                          clear hi131_4 hl131_4
                          have HR131_5 := Aside0.mk hi131_5
                          have HC131_5 := Aside0.mk hl131_5
                          clear hi131_5 hl131_5
                          replace p131 := eq_true p131
                          replace q131 := eq_true q131
                          have ea_ := Option.some.inj (hx130_4.symm.trans hx131_4)
                          injection ea_ with ea_ en_ ec_
                          subst ea_
                          subst ec_
                          clear en_
                          have ea_ := Option.some.inj (hx130_5.symm.trans hx131_5)
                          injection ea_ with ea_ en_ ec_
                          subst ea_
                          subst ec_
                          clear en_
                          go_wp2
                          go_meet
                          case rel => exact ⟨_, (true), (by first | rfl | (simp; done) | (simp [*]; done)), H', ⟨by have := HJ2.out; have := HK2.out; first | omega | exact Nat.le_refl _⟩, ⟨by (with_reducible repeat (first | apply Kd.N_alloc | apply Kd.N_drewN | apply Kd.N_drew)); exact Kd.N_mono HO123.out (fun _ hk => ⟨hk.1.2, ⟨hk.2, hk.1.1⟩⟩)⟩, ⟨by (with_reducible repeat (first | apply Kd.R_alloc | apply Kd.R_drewN | apply Kd.R_drew)); exact HO126.out⟩, ⟨by (with_reducible repeat (first | apply Kd.N_alloc | apply Kd.N_drewN | apply Kd.N_drew)); exact HO129.out⟩, ⟨by (with_reducible repeat (first | apply Kd.R_alloc | apply Kd.R_drewN | apply Kd.R_drew)); exact HO_115005.out⟩, ⟨by (with_reducible repeat (first | refine blk_drewN ?_ _ | refine blk_drew ?_ | refine blk_alloc ?_ _)); exact BK114.out⟩, ⟨by repeat (first | (with_reducible first | exact HB.out | apply below_alloc | apply pw_below_drewN | apply below_drew1 | refine below_set ?_ GE114.out) | exact HB.out)⟩⟩
                      · rw [if_neg c35] at H
                        have c35b0 : (((rd_T30 t127 0).f0) == 1) = false := beq_eq_false_iff_ne.mpr c35
                        have c35b1 : (((rd_T30 t127 0).f0) != 1) = true := bne_iff_ne.mpr c35
                        have H' := Aside0.mk H
                        clear H
                        obtain ⟨Ao45, co45, eo45⟩ := Kd.R_slice HO126.out
                        subst eo45
                        obtain ⟨Ao46, co46, eo46⟩ := Kd.N_slice HO129.out
                        subst eo46
                        have p130 : 0 ≤ (0 : Int) := (by omega)
                        have q130 : 0 < (t127.length : Int) := of_decide_eq_true (by first | (with_reducible assumption) | assumption)
                        obtain ⟨ad130, A130_4, c130_4, A130_5, c130_5, e130, hx130_0, hx130_1, hx130_2, hx130_3, hx130_4, hx130_5, hl130_4, hi130_4, hl130_5, hi130_5⟩ := at_T30 (Kd.N_reads' HO129.out).2.2 0 p130 q130
                        cases e130
                        obtain ⟨ce130, hce130, hMe130, hcc130⟩ := Kd.N_get HO129.out z30 0 p130 (by first | exact q130 | exact of_decide_eq_true (by first | (with_reducible assumption) | assumption) | (have e_ := (Kd.N_reads' HO129.out).1; omega))
                        obtain ⟨ua130_4, uc130_4, ua130_5, uc130_5, rfl, ul130_4, ge130_4, ul130_5, ge130_5⟩ := k30_openF hMe130
                        have hv130_4 := hcc130 4 _ rfl
                        rw [add_field _ _ 4 (by omega)] at hv130_4
                        replace hv130_4 := Option.some.inj (hv130_4.symm.trans hx130_4)
                        injection hv130_4 with hva_ hvn_ hvc_
                        rw [hva_] at ge130_4
                        rw [hvc_] at ul130_4
                        have HL130_4 := Aside0.mk (show Kd.V k35 35 _ w.heap.size _ _ ((rd_T30 t127 0).f4) from Kd.V_mk ul130_4 ge130_4)
                        clear hva_ hvn_ hvc_ ge130_4 ul130_4
                        have hv130_5 := hcc130 5 _ rfl
                        rw [add_field _ _ 5 (by omega)] at hv130_5
                        replace hv130_5 := Option.some.inj (hv130_5.symm.trans hx130_5)
                        injection hv130_5 with hva_ hvn_ hvc_
                        rw [hva_] at ge130_5
                        rw [hvc_] at ul130_5
                        have HL130_5 := Aside0.mk (show Kd.V k32 32 _ w.heap.size _ _ ((rd_T30 t127 0).f5) from Kd.V_mk ul130_5 ge130_5)
                        clear hva_ hvn_ hvc_ ge130_5 ul130_5
                        clear hcc130 hce130
                        have qi130 : (0 < t127.length) = True := eq_true (by omega)
                        (try rw [show ((0 : Int)).toNat = 0 from rfl] at hx130_0)
                        (try rw [show 0 * 6 = 0 from rfl] at hx130_0)
                        (try rw [Addr.add_zero'] at hx130_0)
                        (try rw [show ((0 : Int)).toNat = 0 from rfl] at hx130_1)
                        (try rw [show 0 * 6 = 0 from rfl] at hx130_1)
                        (try rw [Addr.add_zero'] at hx130_1)
                        (try rw [show ((0 : Int)).toNat = 0 from rfl] at hx130_2)
                        (try rw [show 0 * 6 = 0 from rfl] at hx130_2)
                        (try rw [Addr.add_zero'] at hx130_2)
                        (try rw [show ((0 : Int)).toNat = 0 from rfl] at hx130_3)
                        (try rw [show 0 * 6 = 0 from rfl] at hx130_3)
                        (try rw [Addr.add_zero'] at hx130_3)
                        (try rw [show ((0 : Int)).toNat = 0 from rfl] at hx130_4)
                        (try rw [show 0 * 6 = 0 from rfl] at hx130_4)
                        (try rw [Addr.add_zero'] at hx130_4)
                        (try rw [show ((0 : Int)).toNat = 0 from rfl] at hx130_5)
                        (try rw [show 0 * 6 = 0 from rfl] at hx130_5)
                        (try rw [Addr.add_zero'] at hx130_5)
                        have HR130_4 := Aside0.mk hi130_4
                        have HC130_4 := Aside0.mk hl130_4
                        clear hi130_4 hl130_4
                        have HR130_5 := Aside0.mk hi130_5
                        have HC130_5 := Aside0.mk hl130_5
                        clear hi130_5 hl130_5
                        replace p130 := eq_true p130
                        replace q130 := eq_true q130
                        go_wp2
                        go_meet
                        case rel => exact ⟨_, (true), (by first | rfl | (simp; done) | (simp [*]; done)), H', ⟨by have := HJ2.out; have := HK2.out; first | omega | exact Nat.le_refl _⟩, ⟨by (with_reducible repeat (first | apply Kd.N_alloc | apply Kd.N_drewN | apply Kd.N_drew)); exact Kd.N_mono HO123.out (fun _ hk => ⟨hk.1.2, ⟨hk.2, hk.1.1⟩⟩)⟩, ⟨by (with_reducible repeat (first | apply Kd.R_alloc | apply Kd.R_drewN | apply Kd.R_drew)); exact HO126.out⟩, ⟨by (with_reducible repeat (first | apply Kd.N_alloc | apply Kd.N_drewN | apply Kd.N_drew)); exact HO129.out⟩, ⟨by (with_reducible repeat (first | apply Kd.R_alloc | apply Kd.R_drewN | apply Kd.R_drew)); exact HO_115005.out⟩, ⟨by (with_reducible repeat (first | refine blk_drewN ?_ _ | refine blk_drew ?_ | refine blk_alloc ?_ _)); exact BK114.out⟩, ⟨by repeat (first | (with_reducible first | exact HB.out | apply below_alloc | apply pw_below_drewN | apply below_drew1 | refine below_set ?_ GE114.out) | exact HB.out)⟩⟩
                    · rw [if_neg c34] at H
                      exact absurd H (by simp)
                  · rw [if_neg c33] at H
                    have c33b0 : ((t127.length : Int) == 2) = false := beq_eq_false_iff_ne.mpr c33
                    have c33b1 : ((t127.length : Int) != 2) = true := bne_iff_ne.mpr c33
                    have H' := Aside0.mk H
                    clear H
                    obtain ⟨Ao47, co47, eo47⟩ := Kd.R_slice HO126.out
                    subst eo47
                    obtain ⟨Ao48, co48, eo48⟩ := Kd.N_slice HO129.out
                    subst eo48
                    go_wp2
                    go_meet
                    case rel => exact ⟨_, (true), (by first | rfl | (simp; done) | (simp [*]; done)), H', ⟨by have := HJ2.out; have := HK2.out; first | omega | exact Nat.le_refl _⟩, ⟨by (with_reducible repeat (first | apply Kd.N_alloc | apply Kd.N_drewN | apply Kd.N_drew)); exact Kd.N_mono HO123.out (fun _ hk => ⟨hk.1.2, ⟨hk.2, hk.1.1⟩⟩)⟩, ⟨by (with_reducible repeat (first | apply Kd.R_alloc | apply Kd.R_drewN | apply Kd.R_drew)); exact HO126.out⟩, ⟨by (with_reducible repeat (first | apply Kd.N_alloc | apply Kd.N_drewN | apply Kd.N_drew)); exact HO129.out⟩, ⟨by (with_reducible repeat (first | apply Kd.R_alloc | apply Kd.R_drewN | apply Kd.R_drew)); exact HO_115005.out⟩, ⟨by (with_reducible repeat (first | refine blk_drewN ?_ _ | refine blk_drew ?_ | refine blk_alloc ?_ _)); exact BK114.out⟩, ⟨by repeat (first | (with_reducible first | exact HB.out | apply below_alloc | apply pw_below_drewN | apply below_drew1 | refine below_set ?_ GE114.out) | exact HB.out)⟩⟩
                · rw [if_neg c32] at H
                  have c32b0 : ((t124.length : Int) == a0) = false := beq_eq_false_iff_ne.mpr c32
                  have c32b1 : ((t124.length : Int) != a0) = true := bne_iff_ne.mpr c32
                  (first | rw [c32b0] | (simp only [i64_w, i32_w]; rw [c32b0]) | skip)
                  have H' := Aside0.mk H
                  clear H
                  obtain ⟨Ao49, co49, eo49⟩ := Kd.R_slice HO126.out
                  subst eo49
                  go_wp2
                  go_meet
                  case rel => exact ⟨_, (true), (by first | rfl | (simp; done) | (simp [*]; done)), H', ⟨by have := HJ2.out; have := HK2.out; first | omega | exact Nat.le_refl _⟩, ⟨by (with_reducible repeat (first | apply Kd.N_alloc | apply Kd.N_drewN | apply Kd.N_drew)); exact Kd.N_mono HO123.out (fun _ hk => ⟨hk.1.2, ⟨hk.2, hk.1.1⟩⟩)⟩, ⟨by (with_reducible repeat (first | apply Kd.R_alloc | apply Kd.R_drewN | apply Kd.R_drew)); exact HO126.out⟩, ⟨by (with_reducible repeat (first | apply Kd.N_alloc | apply Kd.N_drewN | apply Kd.N_drew)); exact HO129.out⟩, ⟨by (with_reducible repeat (first | apply Kd.R_alloc | apply Kd.R_drewN | apply Kd.R_drew)); exact HO_115005.out⟩, ⟨by (with_reducible repeat (first | refine blk_drewN ?_ _ | refine blk_drew ?_ | refine blk_alloc ?_ _)); exact BK114.out⟩, ⟨by repeat (first | (with_reducible first | exact HB.out | apply below_alloc | apply pw_below_drewN | apply below_drew1 | refine below_set ?_ GE114.out) | exact HB.out)⟩⟩
              case rest =>
                clear HC24
                try clear c1
                try clear p1
                try clear q1
                try clear hx1
                try clear qi1
                try clear p2
                try clear c3
                try clear c13
                try clear p13
                try clear q13
                try clear hx13
                try clear qi13
                try clear c32
                try clear c32b0
                try clear c32b1
                try clear c33
                try clear c33b0
                try clear c33b1
                try clear c34
                try clear c35
                try clear c35b0
                try clear c35b1
                try clear c36
                try clear c36b0
                try clear c36b1
                try clear c37
                try clear c38
                try clear c38b0
                try clear c38b1
                try clear hx130_0
                try clear hx130_1
                try clear hx130_2
                try clear hx130_3
                try clear hx130_4
                try clear hx130_5
                try clear hx131_0
                try clear hx131_1
                try clear hx131_2
                try clear hx131_3
                try clear hx131_4
                try clear hx131_5
                try clear hx132_0
                try clear hx132_1
                try clear hx132_2
                try clear hx132_3
                try clear hx132_4
                try clear hx132_5
                try clear hx133_0
                try clear hx133_1
                try clear hx133_2
                try clear hx133_3
                try clear hx133_4
                try clear hx133_5
                try clear p130
                try clear p131
                try clear p132
                try clear p133
                try clear q130
                try clear q131
                try clear q132
                try clear q133
                obtain ⟨kq, x85_23, rfl, HA, HJ23, HO_6, HO_7, HO_8, HO_115005, BK114, HB⟩ := hcut
                cases kq with
                | zero => exact absurd HA.out (by simp [lockgatelaw20_WalkLinks.j2])
                | succ kj23 =>
                  have H := HA.out
                  clear HA
                  simp only [lockgatelaw20_WalkLinks.j2] at H
                  by_cases c50 : x85_23 = true
                  · subst c50
                    have H1 : (some false) = some r := by rw [if_pos rfl] at H; exact H
                    clear H
                    have H := H1
                    clear H1
                    obtain rfl := Option.some.inj H
                    go_wp2
                    go_ret
                    exact ⟨by first | rfl | (simp [errW_none, errW_some] <;> rfl) | (simp [*, errW_none, errW_some] <;> rfl), by repeat (first | (with_reducible first | exact HB.out | apply below_alloc | apply pw_below_drewN | apply below_drew1 | refine below_set ?_ GE114.out) | exact HB.out)⟩
                  · replace c50 := Bool.eq_false_iff.mpr c50
                    subst c50
                    have H1 : (lockgatelaw20_WalkLinks.l1 kj23 a0 y121 t124 t127 0) = some r := by rw [if_neg (show ¬ (false = true) by decide)] at H; exact H
                    clear H
                    have H := H1
                    clear H1
                    have H' := Aside0.mk H
                    clear H
                    go_wp2
                    go_loopg [9] kj23 (fun kq v9 w' => ∃ (x9_4 : Int), v9 = .int .i64 x9_4 ∧ Aside0 (lockgatelaw20_WalkLinks.l1 kq a0 y121 t124 t127 x9_4 = some r) ∧ Aside0 (kq ≤ kj23) ∧ Aside0 (Kd.N k30 30 w' w.heap.size (fun k_ => some k_ ≠ (v125 : Value).ownBlock ∧ some k_ ≠ (v128 : Value).ownBlock ∧ k_ ≠ gb114) (.slice Ao29 y121.length co29) y121) ∧ Aside0 (Kd.R Kd.string 9 w' w.heap.size (fun _ => True) v125 t124) ∧ Aside0 (Kd.N k30 30 w' w.heap.size (fun k_ => some k_ ≠ ((.slice Ao29 y121.length co29) : Value).ownBlock ∧ some k_ ≠ (v125 : Value).ownBlock ∧ k_ ≠ gb114) v128 t127) ∧ Aside0 (Kd.R k32 32 w' w.heap.size (fun _ => True) (.slice Ao26 x115005_2.length co26) x115005_2) ∧ Aside0 (w'.heap[gb114]? = some (.cells #[.int .i64 1, .int .i64 2, .int .i64 0, .int .i64 0, (.slice none 0 0), (.slice Ao26 x115005_2.length co26)] 30 (0, 0))) ∧ Aside0 (Below w.heap.size w w'))
                    case atStart => exact ⟨(0), (by first | rfl | (simp; done) | (simp [*]; done)), H', ⟨Nat.le_refl _⟩, ⟨by (with_reducible repeat (first | apply Kd.N_alloc | apply Kd.N_drewN | apply Kd.N_drew)); exact HO_6.out⟩, ⟨by (with_reducible repeat (first | apply Kd.R_alloc | apply Kd.R_drewN | apply Kd.R_drew)); exact HO_7.out⟩, ⟨by (with_reducible repeat (first | apply Kd.N_alloc | apply Kd.N_drewN | apply Kd.N_drew)); exact HO_8.out⟩, ⟨by (with_reducible repeat (first | apply Kd.R_alloc | apply Kd.R_drewN | apply Kd.R_drew)); exact HO_115005.out⟩, ⟨by (with_reducible repeat (first | refine blk_drewN ?_ _ | refine blk_drew ?_ | refine blk_alloc ?_ _)); exact BK114.out⟩, ⟨by repeat (first | (with_reducible first | exact HB.out | apply below_alloc | apply pw_below_drewN | apply below_drew1 | refine below_set ?_ GE114.out) | exact HB.out)⟩⟩
                    case round =>
                      clear H'
                      try clear c1
                      try clear p1
                      try clear q1
                      try clear hx1
                      try clear qi1
                      try clear p2
                      try clear c3
                      try clear c5
                      try clear c13
                      try clear p13
                      try clear q13
                      try clear hx13
                      try clear qi13
                      try clear c32
                      try clear c32b0
                      try clear c32b1
                      try clear c33
                      try clear c33b0
                      try clear c33b1
                      try clear c34
                      try clear c35
                      try clear c35b0
                      try clear c35b1
                      try clear c36
                      try clear c36b0
                      try clear c36b1
                      try clear c37
                      try clear c38
                      try clear c38b0
                      try clear c38b1
                      try clear c50
                      try clear hx130_0
                      try clear hx130_1
                      try clear hx130_2
                      try clear hx130_3
                      try clear hx130_4
                      try clear hx130_5
                      try clear hx131_0
                      try clear hx131_1
                      try clear hx131_2
                      try clear hx131_3
                      try clear hx131_4
                      try clear hx131_5
                      try clear hx132_0
                      try clear hx132_1
                      try clear hx132_2
                      try clear hx132_3
                      try clear hx132_4
                      try clear hx132_5
                      try clear hx133_0
                      try clear hx133_1
                      try clear hx133_2
                      try clear hx133_3
                      try clear hx133_4
                      try clear hx133_5
                      try clear p1
                      try clear p13
                      try clear p130
                      try clear p131
                      try clear p132
                      try clear p133
                      try clear p2
                      try clear q1
                      try clear q13
                      try clear q130
                      try clear q131
                      try clear q132
                      try clear q133
                      obtain ⟨x9_4, rfl, HA, HK4, HO_6, HO_7, HO_8, HO_115005, BK114, HB⟩ := hrel
                      cases gk with
                      | zero => exact absurd HA.out (by simp [lockgatelaw20_WalkLinks.l1])
                      | succ k4 =>
                        have H := HA.out
                        clear HA
                        simp only [lockgatelaw20_WalkLinks.l1] at H
                        by_cases c51 : x9_4 < a0
                        · rw [if_pos c51] at H
                          have c51b0 : decide (x9_4 < a0) = true := decide_eq_true c51
                          clear c51
                          by_cases c52 : 0 ≤ x9_4
                          · rw [if_pos c52] at H
                            have c52b0 : decide (0 ≤ x9_4) = true := decide_eq_true c52
                            clear c52
                            by_cases c53 : x9_4 < (t124.length : Int)
                            · rw [if_pos c53] at H
                              have c53b0 : decide (x9_4 < (t124.length : Int)) = true := decide_eq_true c53
                              clear c53
                              replace H := Option.bind_eq_some_iff.mp H
                              obtain ⟨⟨t139, t140⟩, A540, H⟩ := H
                              replace H : ((lockgatelaw20_num.f t140).bind fun t141 => (if t141 = 0 then (if t139 = 0 then (if 0 < (t127.length : Int) then (if 0 ≤ (wrap64 (2 * x9_4)) then (if (wrap64 (2 * x9_4)) < (((rd_T30 t127 0).f5).length : Int) then (if ((rd_T32 ((rd_T30 t127 0).f5) (wrap64 (2 * x9_4))).f0) = 2 then (if 0 ≤ (wrap64 ((wrap64 (2 * x9_4)) + 1)) then (if (wrap64 ((wrap64 (2 * x9_4)) + 1)) < (((rd_T30 t127 0).f5).length : Int) then (if ((rd_T32 ((rd_T30 t127 0).f5) (wrap64 ((wrap64 (2 * x9_4)) + 1))).f0) = 0 then (lockgatelaw20_WalkLinks.l1 k4 a0 y121 t124 t127 (wrap64 (x9_4 + 1))) else (some false)) else (none)) else (none)) else (some false)) else (none)) else (none)) else (none)) else (some false)) else (some false))) = some r := H
                              have A54 := Aside0.mk A540
                              clear A540
                              replace H := Option.bind_eq_some_iff.mp H
                              obtain ⟨t141, A550, H⟩ := H
                              replace H : (if t141 = 0 then (if t139 = 0 then (if 0 < (t127.length : Int) then (if 0 ≤ (wrap64 (2 * x9_4)) then (if (wrap64 (2 * x9_4)) < (((rd_T30 t127 0).f5).length : Int) then (if ((rd_T32 ((rd_T30 t127 0).f5) (wrap64 (2 * x9_4))).f0) = 2 then (if 0 ≤ (wrap64 ((wrap64 (2 * x9_4)) + 1)) then (if (wrap64 ((wrap64 (2 * x9_4)) + 1)) < (((rd_T30 t127 0).f5).length : Int) then (if ((rd_T32 ((rd_T30 t127 0).f5) (wrap64 ((wrap64 (2 * x9_4)) + 1))).f0) = 0 then (lockgatelaw20_WalkLinks.l1 k4 a0 y121 t124 t127 (wrap64 (x9_4 + 1))) else (some false)) else (none)) else (none)) else (some false)) else (none)) else (none)) else (none)) else (some false)) else (some false)) = some r := H
                              have A55 := Aside0.mk A550
                              clear A550
                              by_cases c56 : t141 = 0
                              · rw [if_pos c56] at H
                                have c56b0 : (t141 == 0) = true := beq_iff_eq.mpr c56
                                have c56b1 : (t141 != 0) = false := bne_eq_false_iff_eq.mpr c56
                                clear c56
                                by_cases c57 : t139 = 0
                                · rw [if_pos c57] at H
                                  have c57b0 : (t139 == 0) = true := beq_iff_eq.mpr c57
                                  have c57b1 : (t139 != 0) = false := bne_eq_false_iff_eq.mpr c57
                                  clear c57
                                  by_cases c58 : 0 < (t127.length : Int)
                                  · rw [if_pos c58] at H
                                    have c58b0 : decide (0 < (t127.length : Int)) = true := decide_eq_true c58
                                    have c58b1 : decide (0 < t127.length) = true := decide_eq_true (by omega)
                                    clear c58
                                    obtain ⟨ji59, hji59⟩ : ∃ j_ : Int, (wrap64 (2 * x9_4)) = j_ := ⟨_, rfl⟩
                                    replace H : (if 0 ≤ (ji59) then (if (ji59) < (((rd_T30 t127 0).f5).length : Int) then (if ((rd_T32 ((rd_T30 t127 0).f5) (ji59)).f0) = 2 then (if 0 ≤ (wrap64 ((ji59) + 1)) then (if (wrap64 ((ji59) + 1)) < (((rd_T30 t127 0).f5).length : Int) then (if ((rd_T32 ((rd_T30 t127 0).f5) (wrap64 ((ji59) + 1))).f0) = 0 then (lockgatelaw20_WalkLinks.l1 k4 a0 y121 t124 t127 (wrap64 (x9_4 + 1))) else (some false)) else (none)) else (none)) else (some false)) else (none)) else (none)) = some r := by first | (rw [hji59] at H; exact H) | (simp only [hji59] at H ⊢; exact H)
                                    (try rw [hji59] at A54)
                                    (try rw [hji59] at A55)
                                    have hji59w : (IntKind.i64.wrap (2 * x9_4)) = ji59 := (i64_w _).trans hji59
                                    by_cases c60 : 0 ≤ (ji59)
                                    · rw [if_pos c60] at H
                                      have c60b0 : decide (0 ≤ (ji59)) = true := decide_eq_true c60
                                      clear c60
                                      by_cases c61 : (ji59) < (((rd_T30 t127 0).f5).length : Int)
                                      · rw [if_pos c61] at H
                                        have c61b0 : decide ((ji59) < (((rd_T30 t127 0).f5).length : Int)) = true := decide_eq_true c61
                                        clear c61
                                        by_cases c62 : ((rd_T32 ((rd_T30 t127 0).f5) (ji59)).f0) = 2
                                        · rw [if_pos c62] at H
                                          have c62b0 : (((rd_T32 ((rd_T30 t127 0).f5) (ji59)).f0) == 2) = true := beq_iff_eq.mpr c62
                                          have c62b1 : (((rd_T32 ((rd_T30 t127 0).f5) (ji59)).f0) != 2) = false := bne_eq_false_iff_eq.mpr c62
                                          clear c62
                                          obtain ⟨ji63, hji63⟩ : ∃ j_ : Int, (wrap64 ((ji59) + 1)) = j_ := ⟨_, rfl⟩
                                          replace H : (if 0 ≤ (ji63) then (if (ji63) < (((rd_T30 t127 0).f5).length : Int) then (if ((rd_T32 ((rd_T30 t127 0).f5) (ji63)).f0) = 0 then (lockgatelaw20_WalkLinks.l1 k4 a0 y121 t124 t127 (wrap64 (x9_4 + 1))) else (some false)) else (none)) else (none)) = some r := by first | (rw [hji63] at H; exact H) | (simp only [hji63] at H ⊢; exact H)
                                          (try rw [hji63] at A54)
                                          (try rw [hji63] at A55)
                                          have hji63w : (IntKind.i64.wrap ((ji59) + 1)) = ji63 := (i64_w _).trans hji63
                                          by_cases c64 : 0 ≤ (ji63)
                                          · rw [if_pos c64] at H
                                            have c64b0 : decide (0 ≤ (ji63)) = true := decide_eq_true c64
                                            clear c64
                                            by_cases c65 : (ji63) < (((rd_T30 t127 0).f5).length : Int)
                                            · rw [if_pos c65] at H
                                              have c65b0 : decide ((ji63) < (((rd_T30 t127 0).f5).length : Int)) = true := decide_eq_true c65
                                              clear c65
                                              by_cases c66 : ((rd_T32 ((rd_T30 t127 0).f5) (ji63)).f0) = 0
                                              · rw [if_pos c66] at H
                                                have c66b0 : (((rd_T32 ((rd_T30 t127 0).f5) (ji63)).f0) == 0) = true := beq_iff_eq.mpr c66
                                                have c66b1 : (((rd_T32 ((rd_T30 t127 0).f5) (ji63)).f0) != 0) = false := bne_eq_false_iff_eq.mpr c66
                                                clear c66
                                                have H' := Aside0.mk H
                                                clear H
                                                obtain ⟨Ao67, co67, eo67⟩ := Kd.R_slice HO_7.out
                                                subst eo67
                                                have p138 : 0 ≤ (x9_4 : Int) := of_decide_eq_true (by first | (with_reducible assumption) | assumption)
                                                have q138 : x9_4 < (t124.length : Int) := of_decide_eq_true (by first | (with_reducible assumption) | assumption)
                                                obtain ⟨ad138, e138, hx138_0⟩ := Kd.at_string (Kd.R_reads' HO_7.out).2.2 x9_4 p138 q138
                                                cases e138
                                                replace p138 := eq_true p138
                                                replace q138 := eq_true q138
                                                go_wp2_with (first | ((with_reducible refine gate_callee (f := 16) rfl ?_); refine goesL_ (some 97) rfl rfl Try.func16 (by kernel_rfl) rfl #[.slice Ao29 y121.length co29, .string (rdOf ByteArray.empty t124 x9_4)] rfl (by (try simp only [List.map_toArray, List.map_cons, List.map_nil]); first | done | rfl | (simp only [List.length_drop, List.length_take]; rfl)) ?_; (with_reducible refine (walk_Find.calls _ _ y121 (rdOf ByteArray.empty t124 x9_4) t139 t140 _ ?side1 ?side2 A54.out).mono ?_); (case side1 => repeat (first | exact (Kd.N_reads' HO_6.out).2.2 | (with_reducible refine Kd.C_alloc ?_ _) | (with_reducible refine Kd.C_drewN ?_ _) | (with_reducible refine Kd.C_drew ?_))); (case side2 => exact (Kd.N_reads' HO_6.out).2.1); rintro e w68 ⟨rfl, hb⟩; refine ⟨_, rfl, ?_⟩; have n0_ := Aside0.mk (Kd.N_below (by (with_reducible repeat (first | apply Kd.N_alloc | apply Kd.N_drewN | apply Kd.N_drew)); exact HO_6.out) hb); have n1_ := Aside0.mk (Kd.R_below (by (with_reducible repeat (first | apply Kd.R_alloc | apply Kd.R_drewN | apply Kd.R_drew)); exact HO_7.out) hb); have n2_ := Aside0.mk (Kd.N_below (by (with_reducible repeat (first | apply Kd.N_alloc | apply Kd.N_drewN | apply Kd.N_drew)); exact HO_8.out) hb); have n3_ := Aside0.mk (Kd.R_below (by (with_reducible repeat (first | apply Kd.R_alloc | apply Kd.R_drewN | apply Kd.R_drew)); exact HO_115005.out) hb); have n4_ := Aside0.mk (blk_below (g := gb114) (o := .cells #[.int .i64 1, .int .i64 2, .int .i64 0, .int .i64 0, .slice none 0 0, .slice Ao26 x115005_2.length co26] 30 (0, 0)) (by (with_reducible repeat (first | refine blk_drewN ?_ _ | refine blk_drew ?_ | refine blk_alloc ?_ _)); exact BK114.out) hb); have n5_ := Aside0.mk (below_step (by repeat (first | (with_reducible first | exact HB.out | apply below_alloc | apply pw_below_drewN | apply below_drew1 | refine below_set ?_ GE114.out) | exact HB.out)) hb); clear HO_6; clear HO_7; clear HO_8; clear HO_115005; clear BK114; clear HB; have HO_6 := n0_; have HO_7 := n1_; have HO_8 := n2_; have HO_115005 := n3_; have BK114 := n4_; have HB := n5_; clear n0_ n1_ n2_ n3_ n4_ n5_; (try clear hb); (try clear hb2); (try clear hk); (try clear hi)) | ((with_reducible refine gate_callee (f := 18) rfl ?_); refine goesL_ (some 101) rfl rfl Try.func18 (by kernel_rfl) rfl #[.int .i64 t140] rfl (by (try simp only [List.map_toArray, List.map_cons, List.map_nil]); first | done | rfl | (simp only [List.length_drop, List.length_take]; rfl)) ?_; (with_reducible refine (lockgatelaw20_num.calls t140 t141 _ A55.out).mono ?_); rintro e w' ⟨rfl, ⟨nd, rfl⟩⟩; refine ⟨_, rfl, ?_⟩; obtain ⟨Ao69, co69, eo69⟩ := Kd.N_slice HO_8.out; subst eo69; have p142 : 0 ≤ (0 : Int) := (by omega); have q142 : 0 < (t127.length : Int) := of_decide_eq_true (by first | (with_reducible assumption) | assumption); obtain ⟨ad142, A142_4, c142_4, A142_5, c142_5, e142, hx142_0, hx142_1, hx142_2, hx142_3, hx142_4, hx142_5, hl142_4, hi142_4, hl142_5, hi142_5⟩ := at_T30 (Kd.N_reads' HO_8.out).2.2 0 p142 q142; cases e142; obtain ⟨ce142, hce142, hMe142, hcc142⟩ := Kd.N_get HO_8.out z30 0 p142 (by first | exact q142 | exact of_decide_eq_true (by first | (with_reducible assumption) | assumption) | (have e_ := (Kd.N_reads' HO_8.out).1; omega)); obtain ⟨ua142_4, uc142_4, ua142_5, uc142_5, rfl, ul142_4, ge142_4, ul142_5, ge142_5⟩ := k30_openF hMe142; have hv142_4 := hcc142 4 _ rfl; rw [add_field _ _ 4 (by omega)] at hv142_4; replace hv142_4 := Option.some.inj (hv142_4.symm.trans hx142_4); injection hv142_4 with hva_ hvn_ hvc_; rw [hva_] at ge142_4; rw [hvc_] at ul142_4; have HL142_4 := Aside0.mk (show Kd.V k35 35 _ w.heap.size _ _ ((rd_T30 t127 0).f4) from Kd.V_mk ul142_4 ge142_4); clear hva_ hvn_ hvc_ ge142_4 ul142_4; have hv142_5 := hcc142 5 _ rfl; rw [add_field _ _ 5 (by omega)] at hv142_5; replace hv142_5 := Option.some.inj (hv142_5.symm.trans hx142_5); injection hv142_5 with hva_ hvn_ hvc_; rw [hva_] at ge142_5; rw [hvc_] at ul142_5; have HL142_5 := Aside0.mk (show Kd.V k32 32 _ w.heap.size _ _ ((rd_T30 t127 0).f5) from Kd.V_mk ul142_5 ge142_5); clear hva_ hvn_ hvc_ ge142_5 ul142_5; clear hcc142 hce142; have qi142 : (0 < t127.length) = True := eq_true (by omega); (try rw [show ((0 : Int)).toNat = 0 from rfl] at hx142_0); (try rw [show 0 * 6 = 0 from rfl] at hx142_0); (try rw [Addr.add_zero'] at hx142_0); (try rw [show ((0 : Int)).toNat = 0 from rfl] at hx142_1); (try rw [show 0 * 6 = 0 from rfl] at hx142_1); (try rw [Addr.add_zero'] at hx142_1); (try rw [show ((0 : Int)).toNat = 0 from rfl] at hx142_2); (try rw [show 0 * 6 = 0 from rfl] at hx142_2); (try rw [Addr.add_zero'] at hx142_2); (try rw [show ((0 : Int)).toNat = 0 from rfl] at hx142_3); (try rw [show 0 * 6 = 0 from rfl] at hx142_3); (try rw [Addr.add_zero'] at hx142_3); (try rw [show ((0 : Int)).toNat = 0 from rfl] at hx142_4); (try rw [show 0 * 6 = 0 from rfl] at hx142_4); (try rw [Addr.add_zero'] at hx142_4); (try rw [show ((0 : Int)).toNat = 0 from rfl] at hx142_5); (try rw [show 0 * 6 = 0 from rfl] at hx142_5); (try rw [Addr.add_zero'] at hx142_5); have HR142_4 := Aside0.mk hi142_4; have HC142_4 := Aside0.mk hl142_4; clear hi142_4 hl142_4; have HR142_5 := Aside0.mk hi142_5; have HC142_5 := Aside0.mk hl142_5; clear hi142_5 hl142_5; replace p142 := eq_true p142; replace q142 := eq_true q142; have p143 : 0 ≤ ((ji59) : Int) := of_decide_eq_true (by first | (with_reducible assumption) | assumption); have q143 : (ji59) < (((rd_T30 t127 0).f5).length : Int) := of_decide_eq_true (by first | (with_reducible assumption) | assumption); obtain ⟨ad143, e143, hx143_0, hx143_1⟩ := at_T32 (by repeat (first | (with_reducible exact HR142_5.out) | (with_reducible refine Kd.C_alloc ?_ _) | (with_reducible refine Kd.C_drewN ?_ _) | (with_reducible refine Kd.C_drew ?_) | exact HR142_5.out)) (ji59) p143 q143; cases e143; replace p143 := eq_true p143; replace q143 := eq_true q143; have p144 : 0 ≤ (0 : Int) := (by omega); have q144 : 0 < (t127.length : Int) := of_decide_eq_true (by first | (with_reducible assumption) | assumption); obtain ⟨ad144, A144_4, c144_4, A144_5, c144_5, e144, hx144_0, hx144_1, hx144_2, hx144_3, hx144_4, hx144_5, hl144_4, hi144_4, hl144_5, hi144_5⟩ := at_T30 (Kd.N_reads' HO_8.out).2.2 0 p144 q144; obtain rfl : ad142 = ad144 := (by injection e144); obtain ⟨ce144, hce144, hMe144, hcc144⟩ := Kd.N_get HO_8.out z30 0 p144 (by first | exact q144 | exact of_decide_eq_true (by first | (with_reducible assumption) | assumption) | (have e_ := (Kd.N_reads' HO_8.out).1; omega)); obtain ⟨ua144_4, uc144_4, ua144_5, uc144_5, rfl, ul144_4, ge144_4, ul144_5, ge144_5⟩ := k30_openF hMe144; have hv144_4 := hcc144 4 _ rfl; rw [add_field _ _ 4 (by omega)] at hv144_4; replace hv144_4 := Option.some.inj (hv144_4.symm.trans hx144_4); injection hv144_4 with hva_ hvn_ hvc_; rw [hva_] at ge144_4; rw [hvc_] at ul144_4; have HL144_4 := Aside0.mk (show Kd.V k35 35 _ w.heap.size _ _ ((rd_T30 t127 0).f4) from Kd.V_mk ul144_4 ge144_4); clear hva_ hvn_ hvc_ ge144_4 ul144_4; have hv144_5 := hcc144 5 _ rfl; rw [add_field _ _ 5 (by omega)] at hv144_5; replace hv144_5 := Option.some.inj (hv144_5.symm.trans hx144_5); injection hv144_5 with hva_ hvn_ hvc_; rw [hva_] at ge144_5; rw [hvc_] at ul144_5; have HL144_5 := Aside0.mk (show Kd.V k32 32 _ w.heap.size _ _ ((rd_T30 t127 0).f5) from Kd.V_mk ul144_5 ge144_5); clear hva_ hvn_ hvc_ ge144_5 ul144_5; clear hcc144 hce144; have qi144 : (0 < t127.length) = True := eq_true (by omega); (try rw [show ((0 : Int)).toNat = 0 from rfl] at hx144_0); (try rw [show 0 * 6 = 0 from rfl] at hx144_0); (try rw [Addr.add_zero'] at hx144_0); (try rw [show ((0 : Int)).toNat = 0 from rfl] at hx144_1); (try rw [show 0 * 6 = 0 from rfl] at hx144_1); (try rw [Addr.add_zero'] at hx144_1); (try rw [show ((0 : Int)).toNat = 0 from rfl] at hx144_2); (try rw [show 0 * 6 = 0 from rfl] at hx144_2); (try rw [Addr.add_zero'] at hx144_2); (try rw [show ((0 : Int)).toNat = 0 from rfl] at hx144_3); (try rw [show 0 * 6 = 0 from rfl] at hx144_3); (try rw [Addr.add_zero'] at hx144_3); (try rw [show ((0 : Int)).toNat = 0 from rfl] at hx144_4); (try rw [show 0 * 6 = 0 from rfl] at hx144_4); (try rw [Addr.add_zero'] at hx144_4); (try rw [show ((0 : Int)).toNat = 0 from rfl] at hx144_5); (try rw [show 0 * 6 = 0 from rfl] at hx144_5); (try rw [Addr.add_zero'] at hx144_5); have HR144_4 := Aside0.mk hi144_4; have HC144_4 := Aside0.mk hl144_4; clear hi144_4 hl144_4; have HR144_5 := Aside0.mk hi144_5; have HC144_5 := Aside0.mk hl144_5; clear hi144_5 hl144_5; replace p144 := eq_true p144; replace q144 := eq_true q144; have ea_ := Option.some.inj (hx142_4.symm.trans hx144_4); injection ea_ with ea_ en_ ec_; subst ea_; subst ec_; clear en_; have ea_ := Option.some.inj (hx142_5.symm.trans hx144_5); injection ea_ with ea_ en_ ec_; subst ea_; subst ec_; clear en_; have p145 : 0 ≤ ((ji63) : Int) := of_decide_eq_true (by first | (with_reducible assumption) | assumption); have q145 : (ji63) < (((rd_T30 t127 0).f5).length : Int) := of_decide_eq_true (by first | (with_reducible assumption) | assumption); obtain ⟨ad145, e145, hx145_0, hx145_1⟩ := at_T32 (by repeat (first | (with_reducible exact HR144_5.out) | (with_reducible refine Kd.C_alloc ?_ _) | (with_reducible refine Kd.C_drewN ?_ _) | (with_reducible refine Kd.C_drew ?_) | exact HR144_5.out)) (ji63) p145 q145; cases e145; replace p145 := eq_true p145; replace q145 := eq_true q145))
                                                go_roundg k4
                                                case measure => have := HJ2.out; have := HK2.out; have := HJ23.out; have := HK4.out; omega
                                                case rel => exact ⟨(wrap64 (x9_4 + 1)), (by first | rfl | (simp; done) | (simp [*]; done)), H', ⟨by have := HJ2.out; have := HK2.out; have := HJ23.out; have := HK4.out; omega⟩, ⟨by (with_reducible repeat (first | apply Kd.N_alloc | apply Kd.N_drewN | apply Kd.N_drew)); exact HO_6.out⟩, ⟨by (with_reducible repeat (first | apply Kd.R_alloc | apply Kd.R_drewN | apply Kd.R_drew)); exact HO_7.out⟩, ⟨by (with_reducible repeat (first | apply Kd.N_alloc | apply Kd.N_drewN | apply Kd.N_drew)); exact HO_8.out⟩, ⟨by (with_reducible repeat (first | apply Kd.R_alloc | apply Kd.R_drewN | apply Kd.R_drew)); exact HO_115005.out⟩, ⟨by (with_reducible repeat (first | refine blk_drewN ?_ _ | refine blk_drew ?_ | refine blk_alloc ?_ _)); exact BK114.out⟩, ⟨by repeat (first | (with_reducible first | exact HB.out | apply below_alloc | apply pw_below_drewN | apply below_drew1 | refine below_set ?_ GE114.out) | exact HB.out)⟩⟩
                                              · rw [if_neg c66] at H
                                                have c66b0 : (((rd_T32 ((rd_T30 t127 0).f5) (ji63)).f0) == 0) = false := beq_eq_false_iff_ne.mpr c66
                                                have c66b1 : (((rd_T32 ((rd_T30 t127 0).f5) (ji63)).f0) != 0) = true := bne_iff_ne.mpr c66
                                                obtain rfl := Option.some.inj H
                                                obtain ⟨Ao70, co70, eo70⟩ := Kd.R_slice HO_7.out
                                                subst eo70
                                                have p138 : 0 ≤ (x9_4 : Int) := of_decide_eq_true (by first | (with_reducible assumption) | assumption)
                                                have q138 : x9_4 < (t124.length : Int) := of_decide_eq_true (by first | (with_reducible assumption) | assumption)
                                                obtain ⟨ad138, e138, hx138_0⟩ := Kd.at_string (Kd.R_reads' HO_7.out).2.2 x9_4 p138 q138
                                                cases e138
                                                replace p138 := eq_true p138
                                                replace q138 := eq_true q138
                                                go_wp2_with (first | ((with_reducible refine gate_callee (f := 16) rfl ?_); refine goesL_ (some 97) rfl rfl Try.func16 (by kernel_rfl) rfl #[.slice Ao29 y121.length co29, .string (rdOf ByteArray.empty t124 x9_4)] rfl (by (try simp only [List.map_toArray, List.map_cons, List.map_nil]); first | done | rfl | (simp only [List.length_drop, List.length_take]; rfl)) ?_; (with_reducible refine (walk_Find.calls _ _ y121 (rdOf ByteArray.empty t124 x9_4) t139 t140 _ ?side1 ?side2 A54.out).mono ?_); (case side1 => repeat (first | exact (Kd.N_reads' HO_6.out).2.2 | (with_reducible refine Kd.C_alloc ?_ _) | (with_reducible refine Kd.C_drewN ?_ _) | (with_reducible refine Kd.C_drew ?_))); (case side2 => exact (Kd.N_reads' HO_6.out).2.1); rintro e w71 ⟨rfl, hb⟩; refine ⟨_, rfl, ?_⟩; have n0_ := Aside0.mk (Kd.N_below (by (with_reducible repeat (first | apply Kd.N_alloc | apply Kd.N_drewN | apply Kd.N_drew)); exact HO_6.out) hb); have n1_ := Aside0.mk (Kd.R_below (by (with_reducible repeat (first | apply Kd.R_alloc | apply Kd.R_drewN | apply Kd.R_drew)); exact HO_7.out) hb); have n2_ := Aside0.mk (Kd.N_below (by (with_reducible repeat (first | apply Kd.N_alloc | apply Kd.N_drewN | apply Kd.N_drew)); exact HO_8.out) hb); have n3_ := Aside0.mk (Kd.R_below (by (with_reducible repeat (first | apply Kd.R_alloc | apply Kd.R_drewN | apply Kd.R_drew)); exact HO_115005.out) hb); have n4_ := Aside0.mk (blk_below (g := gb114) (o := .cells #[.int .i64 1, .int .i64 2, .int .i64 0, .int .i64 0, .slice none 0 0, .slice Ao26 x115005_2.length co26] 30 (0, 0)) (by (with_reducible repeat (first | refine blk_drewN ?_ _ | refine blk_drew ?_ | refine blk_alloc ?_ _)); exact BK114.out) hb); have n5_ := Aside0.mk (below_step (by repeat (first | (with_reducible first | exact HB.out | apply below_alloc | apply pw_below_drewN | apply below_drew1 | refine below_set ?_ GE114.out) | exact HB.out)) hb); clear HO_6; clear HO_7; clear HO_8; clear HO_115005; clear BK114; clear HB; have HO_6 := n0_; have HO_7 := n1_; have HO_8 := n2_; have HO_115005 := n3_; have BK114 := n4_; have HB := n5_; clear n0_ n1_ n2_ n3_ n4_ n5_; (try clear hb); (try clear hb2); (try clear hk); (try clear hi)) | ((with_reducible refine gate_callee (f := 18) rfl ?_); refine goesL_ (some 101) rfl rfl Try.func18 (by kernel_rfl) rfl #[.int .i64 t140] rfl (by (try simp only [List.map_toArray, List.map_cons, List.map_nil]); first | done | rfl | (simp only [List.length_drop, List.length_take]; rfl)) ?_; (with_reducible refine (lockgatelaw20_num.calls t140 t141 _ A55.out).mono ?_); rintro e w' ⟨rfl, ⟨nd, rfl⟩⟩; refine ⟨_, rfl, ?_⟩; obtain ⟨Ao72, co72, eo72⟩ := Kd.N_slice HO_8.out; subst eo72; have p142 : 0 ≤ (0 : Int) := (by omega); have q142 : 0 < (t127.length : Int) := of_decide_eq_true (by first | (with_reducible assumption) | assumption); obtain ⟨ad142, A142_4, c142_4, A142_5, c142_5, e142, hx142_0, hx142_1, hx142_2, hx142_3, hx142_4, hx142_5, hl142_4, hi142_4, hl142_5, hi142_5⟩ := at_T30 (Kd.N_reads' HO_8.out).2.2 0 p142 q142; cases e142; obtain ⟨ce142, hce142, hMe142, hcc142⟩ := Kd.N_get HO_8.out z30 0 p142 (by first | exact q142 | exact of_decide_eq_true (by first | (with_reducible assumption) | assumption) | (have e_ := (Kd.N_reads' HO_8.out).1; omega)); obtain ⟨ua142_4, uc142_4, ua142_5, uc142_5, rfl, ul142_4, ge142_4, ul142_5, ge142_5⟩ := k30_openF hMe142; have hv142_4 := hcc142 4 _ rfl; rw [add_field _ _ 4 (by omega)] at hv142_4; replace hv142_4 := Option.some.inj (hv142_4.symm.trans hx142_4); injection hv142_4 with hva_ hvn_ hvc_; rw [hva_] at ge142_4; rw [hvc_] at ul142_4; have HL142_4 := Aside0.mk (show Kd.V k35 35 _ w.heap.size _ _ ((rd_T30 t127 0).f4) from Kd.V_mk ul142_4 ge142_4); clear hva_ hvn_ hvc_ ge142_4 ul142_4; have hv142_5 := hcc142 5 _ rfl; rw [add_field _ _ 5 (by omega)] at hv142_5; replace hv142_5 := Option.some.inj (hv142_5.symm.trans hx142_5); injection hv142_5 with hva_ hvn_ hvc_; rw [hva_] at ge142_5; rw [hvc_] at ul142_5; have HL142_5 := Aside0.mk (show Kd.V k32 32 _ w.heap.size _ _ ((rd_T30 t127 0).f5) from Kd.V_mk ul142_5 ge142_5); clear hva_ hvn_ hvc_ ge142_5 ul142_5; clear hcc142 hce142; have qi142 : (0 < t127.length) = True := eq_true (by omega); (try rw [show ((0 : Int)).toNat = 0 from rfl] at hx142_0); (try rw [show 0 * 6 = 0 from rfl] at hx142_0); (try rw [Addr.add_zero'] at hx142_0); (try rw [show ((0 : Int)).toNat = 0 from rfl] at hx142_1); (try rw [show 0 * 6 = 0 from rfl] at hx142_1); (try rw [Addr.add_zero'] at hx142_1); (try rw [show ((0 : Int)).toNat = 0 from rfl] at hx142_2); (try rw [show 0 * 6 = 0 from rfl] at hx142_2); (try rw [Addr.add_zero'] at hx142_2); (try rw [show ((0 : Int)).toNat = 0 from rfl] at hx142_3); (try rw [show 0 * 6 = 0 from rfl] at hx142_3); (try rw [Addr.add_zero'] at hx142_3); (try rw [show ((0 : Int)).toNat = 0 from rfl] at hx142_4); (try rw [show 0 * 6 = 0 from rfl] at hx142_4); (try rw [Addr.add_zero'] at hx142_4); (try rw [show ((0 : Int)).toNat = 0 from rfl] at hx142_5); (try rw [show 0 * 6 = 0 from rfl] at hx142_5); (try rw [Addr.add_zero'] at hx142_5); have HR142_4 := Aside0.mk hi142_4; have HC142_4 := Aside0.mk hl142_4; clear hi142_4 hl142_4; have HR142_5 := Aside0.mk hi142_5; have HC142_5 := Aside0.mk hl142_5; clear hi142_5 hl142_5; replace p142 := eq_true p142; replace q142 := eq_true q142; have p143 : 0 ≤ ((ji59) : Int) := of_decide_eq_true (by first | (with_reducible assumption) | assumption); have q143 : (ji59) < (((rd_T30 t127 0).f5).length : Int) := of_decide_eq_true (by first | (with_reducible assumption) | assumption); obtain ⟨ad143, e143, hx143_0, hx143_1⟩ := at_T32 (by repeat (first | (with_reducible exact HR142_5.out) | (with_reducible refine Kd.C_alloc ?_ _) | (with_reducible refine Kd.C_drewN ?_ _) | (with_reducible refine Kd.C_drew ?_) | exact HR142_5.out)) (ji59) p143 q143; cases e143; replace p143 := eq_true p143; replace q143 := eq_true q143; have p144 : 0 ≤ (0 : Int) := (by omega); have q144 : 0 < (t127.length : Int) := of_decide_eq_true (by first | (with_reducible assumption) | assumption); obtain ⟨ad144, A144_4, c144_4, A144_5, c144_5, e144, hx144_0, hx144_1, hx144_2, hx144_3, hx144_4, hx144_5, hl144_4, hi144_4, hl144_5, hi144_5⟩ := at_T30 (Kd.N_reads' HO_8.out).2.2 0 p144 q144; obtain rfl : ad142 = ad144 := (by injection e144); obtain ⟨ce144, hce144, hMe144, hcc144⟩ := Kd.N_get HO_8.out z30 0 p144 (by first | exact q144 | exact of_decide_eq_true (by first | (with_reducible assumption) | assumption) | (have e_ := (Kd.N_reads' HO_8.out).1; omega)); obtain ⟨ua144_4, uc144_4, ua144_5, uc144_5, rfl, ul144_4, ge144_4, ul144_5, ge144_5⟩ := k30_openF hMe144; have hv144_4 := hcc144 4 _ rfl; rw [add_field _ _ 4 (by omega)] at hv144_4; replace hv144_4 := Option.some.inj (hv144_4.symm.trans hx144_4); injection hv144_4 with hva_ hvn_ hvc_; rw [hva_] at ge144_4; rw [hvc_] at ul144_4; have HL144_4 := Aside0.mk (show Kd.V k35 35 _ w.heap.size _ _ ((rd_T30 t127 0).f4) from Kd.V_mk ul144_4 ge144_4); clear hva_ hvn_ hvc_ ge144_4 ul144_4; have hv144_5 := hcc144 5 _ rfl; rw [add_field _ _ 5 (by omega)] at hv144_5; replace hv144_5 := Option.some.inj (hv144_5.symm.trans hx144_5); injection hv144_5 with hva_ hvn_ hvc_; rw [hva_] at ge144_5; rw [hvc_] at ul144_5; have HL144_5 := Aside0.mk (show Kd.V k32 32 _ w.heap.size _ _ ((rd_T30 t127 0).f5) from Kd.V_mk ul144_5 ge144_5); clear hva_ hvn_ hvc_ ge144_5 ul144_5; clear hcc144 hce144; have qi144 : (0 < t127.length) = True := eq_true (by omega); (try rw [show ((0 : Int)).toNat = 0 from rfl] at hx144_0); (try rw [show 0 * 6 = 0 from rfl] at hx144_0); (try rw [Addr.add_zero'] at hx144_0); (try rw [show ((0 : Int)).toNat = 0 from rfl] at hx144_1); (try rw [show 0 * 6 = 0 from rfl] at hx144_1); (try rw [Addr.add_zero'] at hx144_1); (try rw [show ((0 : Int)).toNat = 0 from rfl] at hx144_2); (try rw [show 0 * 6 = 0 from rfl] at hx144_2); (try rw [Addr.add_zero'] at hx144_2); (try rw [show ((0 : Int)).toNat = 0 from rfl] at hx144_3); (try rw [show 0 * 6 = 0 from rfl] at hx144_3); (try rw [Addr.add_zero'] at hx144_3); (try rw [show ((0 : Int)).toNat = 0 from rfl] at hx144_4); (try rw [show 0 * 6 = 0 from rfl] at hx144_4); (try rw [Addr.add_zero'] at hx144_4); (try rw [show ((0 : Int)).toNat = 0 from rfl] at hx144_5); (try rw [show 0 * 6 = 0 from rfl] at hx144_5); (try rw [Addr.add_zero'] at hx144_5); have HR144_4 := Aside0.mk hi144_4; have HC144_4 := Aside0.mk hl144_4; clear hi144_4 hl144_4; have HR144_5 := Aside0.mk hi144_5; have HC144_5 := Aside0.mk hl144_5; clear hi144_5 hl144_5; replace p144 := eq_true p144; replace q144 := eq_true q144; have ea_ := Option.some.inj (hx142_4.symm.trans hx144_4); injection ea_ with ea_ en_ ec_; subst ea_; subst ec_; clear en_; have ea_ := Option.some.inj (hx142_5.symm.trans hx144_5); injection ea_ with ea_ en_ ec_; subst ea_; subst ec_; clear en_; have p145 : 0 ≤ ((ji63) : Int) := of_decide_eq_true (by first | (with_reducible assumption) | assumption); have q145 : (ji63) < (((rd_T30 t127 0).f5).length : Int) := of_decide_eq_true (by first | (with_reducible assumption) | assumption); obtain ⟨ad145, e145, hx145_0, hx145_1⟩ := at_T32 (by repeat (first | (with_reducible exact HR144_5.out) | (with_reducible refine Kd.C_alloc ?_ _) | (with_reducible refine Kd.C_drewN ?_ _) | (with_reducible refine Kd.C_drew ?_) | exact HR144_5.out)) (ji63) p145 q145; cases e145; replace p145 := eq_true p145; replace q145 := eq_true q145))
                                                go_ret
                                                exact ⟨by first | rfl | (simp [errW_none, errW_some] <;> rfl) | (simp only [← hji59, ← hji63]; first | rfl | (simp [errW_none, errW_some] <;> rfl)) | (simp [*, errW_none, errW_some] <;> rfl), by repeat (first | (with_reducible first | exact HB.out | apply below_alloc | apply pw_below_drewN | apply below_drew1 | refine below_set ?_ GE114.out) | exact HB.out)⟩
                                            · rw [if_neg c65] at H
                                              exact absurd H (by simp)
                                          · rw [if_neg c64] at H
                                            exact absurd H (by simp)
                                        · rw [if_neg c62] at H
                                          have c62b0 : (((rd_T32 ((rd_T30 t127 0).f5) (ji59)).f0) == 2) = false := beq_eq_false_iff_ne.mpr c62
                                          have c62b1 : (((rd_T32 ((rd_T30 t127 0).f5) (ji59)).f0) != 2) = true := bne_iff_ne.mpr c62
                                          obtain rfl := Option.some.inj H
                                          obtain ⟨Ao73, co73, eo73⟩ := Kd.R_slice HO_7.out
                                          subst eo73
                                          have p138 : 0 ≤ (x9_4 : Int) := of_decide_eq_true (by first | (with_reducible assumption) | assumption)
                                          have q138 : x9_4 < (t124.length : Int) := of_decide_eq_true (by first | (with_reducible assumption) | assumption)
                                          obtain ⟨ad138, e138, hx138_0⟩ := Kd.at_string (Kd.R_reads' HO_7.out).2.2 x9_4 p138 q138
                                          cases e138
                                          replace p138 := eq_true p138
                                          replace q138 := eq_true q138
                                          go_wp2_with (first | ((with_reducible refine gate_callee (f := 16) rfl ?_); refine goesL_ (some 97) rfl rfl Try.func16 (by kernel_rfl) rfl #[.slice Ao29 y121.length co29, .string (rdOf ByteArray.empty t124 x9_4)] rfl (by (try simp only [List.map_toArray, List.map_cons, List.map_nil]); first | done | rfl | (simp only [List.length_drop, List.length_take]; rfl)) ?_; (with_reducible refine (walk_Find.calls _ _ y121 (rdOf ByteArray.empty t124 x9_4) t139 t140 _ ?side1 ?side2 A54.out).mono ?_); (case side1 => repeat (first | exact (Kd.N_reads' HO_6.out).2.2 | (with_reducible refine Kd.C_alloc ?_ _) | (with_reducible refine Kd.C_drewN ?_ _) | (with_reducible refine Kd.C_drew ?_))); (case side2 => exact (Kd.N_reads' HO_6.out).2.1); rintro e w74 ⟨rfl, hb⟩; refine ⟨_, rfl, ?_⟩; have n0_ := Aside0.mk (Kd.N_below (by (with_reducible repeat (first | apply Kd.N_alloc | apply Kd.N_drewN | apply Kd.N_drew)); exact HO_6.out) hb); have n1_ := Aside0.mk (Kd.R_below (by (with_reducible repeat (first | apply Kd.R_alloc | apply Kd.R_drewN | apply Kd.R_drew)); exact HO_7.out) hb); have n2_ := Aside0.mk (Kd.N_below (by (with_reducible repeat (first | apply Kd.N_alloc | apply Kd.N_drewN | apply Kd.N_drew)); exact HO_8.out) hb); have n3_ := Aside0.mk (Kd.R_below (by (with_reducible repeat (first | apply Kd.R_alloc | apply Kd.R_drewN | apply Kd.R_drew)); exact HO_115005.out) hb); have n4_ := Aside0.mk (blk_below (g := gb114) (o := .cells #[.int .i64 1, .int .i64 2, .int .i64 0, .int .i64 0, .slice none 0 0, .slice Ao26 x115005_2.length co26] 30 (0, 0)) (by (with_reducible repeat (first | refine blk_drewN ?_ _ | refine blk_drew ?_ | refine blk_alloc ?_ _)); exact BK114.out) hb); have n5_ := Aside0.mk (below_step (by repeat (first | (with_reducible first | exact HB.out | apply below_alloc | apply pw_below_drewN | apply below_drew1 | refine below_set ?_ GE114.out) | exact HB.out)) hb); clear HO_6; clear HO_7; clear HO_8; clear HO_115005; clear BK114; clear HB; have HO_6 := n0_; have HO_7 := n1_; have HO_8 := n2_; have HO_115005 := n3_; have BK114 := n4_; have HB := n5_; clear n0_ n1_ n2_ n3_ n4_ n5_; (try clear hb); (try clear hb2); (try clear hk); (try clear hi)) | ((with_reducible refine gate_callee (f := 18) rfl ?_); refine goesL_ (some 101) rfl rfl Try.func18 (by kernel_rfl) rfl #[.int .i64 t140] rfl (by (try simp only [List.map_toArray, List.map_cons, List.map_nil]); first | done | rfl | (simp only [List.length_drop, List.length_take]; rfl)) ?_; (with_reducible refine (lockgatelaw20_num.calls t140 t141 _ A55.out).mono ?_); rintro e w' ⟨rfl, ⟨nd, rfl⟩⟩; refine ⟨_, rfl, ?_⟩; obtain ⟨Ao75, co75, eo75⟩ := Kd.N_slice HO_8.out; subst eo75; have p142 : 0 ≤ (0 : Int) := (by omega); have q142 : 0 < (t127.length : Int) := of_decide_eq_true (by first | (with_reducible assumption) | assumption); obtain ⟨ad142, A142_4, c142_4, A142_5, c142_5, e142, hx142_0, hx142_1, hx142_2, hx142_3, hx142_4, hx142_5, hl142_4, hi142_4, hl142_5, hi142_5⟩ := at_T30 (Kd.N_reads' HO_8.out).2.2 0 p142 q142; cases e142; obtain ⟨ce142, hce142, hMe142, hcc142⟩ := Kd.N_get HO_8.out z30 0 p142 (by first | exact q142 | exact of_decide_eq_true (by first | (with_reducible assumption) | assumption) | (have e_ := (Kd.N_reads' HO_8.out).1; omega)); obtain ⟨ua142_4, uc142_4, ua142_5, uc142_5, rfl, ul142_4, ge142_4, ul142_5, ge142_5⟩ := k30_openF hMe142; have hv142_4 := hcc142 4 _ rfl; rw [add_field _ _ 4 (by omega)] at hv142_4; replace hv142_4 := Option.some.inj (hv142_4.symm.trans hx142_4); injection hv142_4 with hva_ hvn_ hvc_; rw [hva_] at ge142_4; rw [hvc_] at ul142_4; have HL142_4 := Aside0.mk (show Kd.V k35 35 _ w.heap.size _ _ ((rd_T30 t127 0).f4) from Kd.V_mk ul142_4 ge142_4); clear hva_ hvn_ hvc_ ge142_4 ul142_4; have hv142_5 := hcc142 5 _ rfl; rw [add_field _ _ 5 (by omega)] at hv142_5; replace hv142_5 := Option.some.inj (hv142_5.symm.trans hx142_5); injection hv142_5 with hva_ hvn_ hvc_; rw [hva_] at ge142_5; rw [hvc_] at ul142_5; have HL142_5 := Aside0.mk (show Kd.V k32 32 _ w.heap.size _ _ ((rd_T30 t127 0).f5) from Kd.V_mk ul142_5 ge142_5); clear hva_ hvn_ hvc_ ge142_5 ul142_5; clear hcc142 hce142; have qi142 : (0 < t127.length) = True := eq_true (by omega); (try rw [show ((0 : Int)).toNat = 0 from rfl] at hx142_0); (try rw [show 0 * 6 = 0 from rfl] at hx142_0); (try rw [Addr.add_zero'] at hx142_0); (try rw [show ((0 : Int)).toNat = 0 from rfl] at hx142_1); (try rw [show 0 * 6 = 0 from rfl] at hx142_1); (try rw [Addr.add_zero'] at hx142_1); (try rw [show ((0 : Int)).toNat = 0 from rfl] at hx142_2); (try rw [show 0 * 6 = 0 from rfl] at hx142_2); (try rw [Addr.add_zero'] at hx142_2); (try rw [show ((0 : Int)).toNat = 0 from rfl] at hx142_3); (try rw [show 0 * 6 = 0 from rfl] at hx142_3); (try rw [Addr.add_zero'] at hx142_3); (try rw [show ((0 : Int)).toNat = 0 from rfl] at hx142_4); (try rw [show 0 * 6 = 0 from rfl] at hx142_4); (try rw [Addr.add_zero'] at hx142_4); (try rw [show ((0 : Int)).toNat = 0 from rfl] at hx142_5); (try rw [show 0 * 6 = 0 from rfl] at hx142_5); (try rw [Addr.add_zero'] at hx142_5); have HR142_4 := Aside0.mk hi142_4; have HC142_4 := Aside0.mk hl142_4; clear hi142_4 hl142_4; have HR142_5 := Aside0.mk hi142_5; have HC142_5 := Aside0.mk hl142_5; clear hi142_5 hl142_5; replace p142 := eq_true p142; replace q142 := eq_true q142; have p143 : 0 ≤ ((ji59) : Int) := of_decide_eq_true (by first | (with_reducible assumption) | assumption); have q143 : (ji59) < (((rd_T30 t127 0).f5).length : Int) := of_decide_eq_true (by first | (with_reducible assumption) | assumption); obtain ⟨ad143, e143, hx143_0, hx143_1⟩ := at_T32 (by repeat (first | (with_reducible exact HR142_5.out) | (with_reducible refine Kd.C_alloc ?_ _) | (with_reducible refine Kd.C_drewN ?_ _) | (with_reducible refine Kd.C_drew ?_) | exact HR142_5.out)) (ji59) p143 q143; cases e143; replace p143 := eq_true p143; replace q143 := eq_true q143))
                                          go_ret
                                          exact ⟨by first | rfl | (simp [errW_none, errW_some] <;> rfl) | (simp only [← hji59]; first | rfl | (simp [errW_none, errW_some] <;> rfl)) | (simp [*, errW_none, errW_some] <;> rfl), by repeat (first | (with_reducible first | exact HB.out | apply below_alloc | apply pw_below_drewN | apply below_drew1 | refine below_set ?_ GE114.out) | exact HB.out)⟩
                                      · rw [if_neg c61] at H
                                        exact absurd H (by simp)
                                    · rw [if_neg c60] at H
                                      exact absurd H (by simp)
                                  · rw [if_neg c58] at H
                                    exact absurd H (by simp)
                                · rw [if_neg c57] at H
                                  have c57b0 : (t139 == 0) = false := beq_eq_false_iff_ne.mpr c57
                                  have c57b1 : (t139 != 0) = true := bne_iff_ne.mpr c57
                                  obtain rfl := Option.some.inj H
                                  obtain ⟨Ao76, co76, eo76⟩ := Kd.R_slice HO_7.out
                                  subst eo76
                                  have p138 : 0 ≤ (x9_4 : Int) := of_decide_eq_true (by first | (with_reducible assumption) | assumption)
                                  have q138 : x9_4 < (t124.length : Int) := of_decide_eq_true (by first | (with_reducible assumption) | assumption)
                                  obtain ⟨ad138, e138, hx138_0⟩ := Kd.at_string (Kd.R_reads' HO_7.out).2.2 x9_4 p138 q138
                                  cases e138
                                  replace p138 := eq_true p138
                                  replace q138 := eq_true q138
                                  go_wp2_with (first | ((with_reducible refine gate_callee (f := 16) rfl ?_); refine goesL_ (some 97) rfl rfl Try.func16 (by kernel_rfl) rfl #[.slice Ao29 y121.length co29, .string (rdOf ByteArray.empty t124 x9_4)] rfl (by (try simp only [List.map_toArray, List.map_cons, List.map_nil]); first | done | rfl | (simp only [List.length_drop, List.length_take]; rfl)) ?_; (with_reducible refine (walk_Find.calls _ _ y121 (rdOf ByteArray.empty t124 x9_4) t139 t140 _ ?side1 ?side2 A54.out).mono ?_); (case side1 => repeat (first | exact (Kd.N_reads' HO_6.out).2.2 | (with_reducible refine Kd.C_alloc ?_ _) | (with_reducible refine Kd.C_drewN ?_ _) | (with_reducible refine Kd.C_drew ?_))); (case side2 => exact (Kd.N_reads' HO_6.out).2.1); rintro e w77 ⟨rfl, hb⟩; refine ⟨_, rfl, ?_⟩; have n0_ := Aside0.mk (Kd.N_below (by (with_reducible repeat (first | apply Kd.N_alloc | apply Kd.N_drewN | apply Kd.N_drew)); exact HO_6.out) hb); have n1_ := Aside0.mk (Kd.R_below (by (with_reducible repeat (first | apply Kd.R_alloc | apply Kd.R_drewN | apply Kd.R_drew)); exact HO_7.out) hb); have n2_ := Aside0.mk (Kd.N_below (by (with_reducible repeat (first | apply Kd.N_alloc | apply Kd.N_drewN | apply Kd.N_drew)); exact HO_8.out) hb); have n3_ := Aside0.mk (Kd.R_below (by (with_reducible repeat (first | apply Kd.R_alloc | apply Kd.R_drewN | apply Kd.R_drew)); exact HO_115005.out) hb); have n4_ := Aside0.mk (blk_below (g := gb114) (o := .cells #[.int .i64 1, .int .i64 2, .int .i64 0, .int .i64 0, .slice none 0 0, .slice Ao26 x115005_2.length co26] 30 (0, 0)) (by (with_reducible repeat (first | refine blk_drewN ?_ _ | refine blk_drew ?_ | refine blk_alloc ?_ _)); exact BK114.out) hb); have n5_ := Aside0.mk (below_step (by repeat (first | (with_reducible first | exact HB.out | apply below_alloc | apply pw_below_drewN | apply below_drew1 | refine below_set ?_ GE114.out) | exact HB.out)) hb); clear HO_6; clear HO_7; clear HO_8; clear HO_115005; clear BK114; clear HB; have HO_6 := n0_; have HO_7 := n1_; have HO_8 := n2_; have HO_115005 := n3_; have BK114 := n4_; have HB := n5_; clear n0_ n1_ n2_ n3_ n4_ n5_; (try clear hb); (try clear hb2); (try clear hk); (try clear hi)) | ((with_reducible refine gate_callee (f := 18) rfl ?_); refine goesL_ (some 101) rfl rfl Try.func18 (by kernel_rfl) rfl #[.int .i64 t140] rfl (by (try simp only [List.map_toArray, List.map_cons, List.map_nil]); first | done | rfl | (simp only [List.length_drop, List.length_take]; rfl)) ?_; (with_reducible refine (lockgatelaw20_num.calls t140 t141 _ A55.out).mono ?_); rintro e w' ⟨rfl, ⟨nd, rfl⟩⟩; refine ⟨_, rfl, ?_⟩))
                                  go_ret
                                  exact ⟨by first | rfl | (simp [errW_none, errW_some] <;> rfl) | (simp [*, errW_none, errW_some] <;> rfl), by repeat (first | (with_reducible first | exact HB.out | apply below_alloc | apply pw_below_drewN | apply below_drew1 | refine below_set ?_ GE114.out) | exact HB.out)⟩
                              · rw [if_neg c56] at H
                                have c56b0 : (t141 == 0) = false := beq_eq_false_iff_ne.mpr c56
                                have c56b1 : (t141 != 0) = true := bne_iff_ne.mpr c56
                                obtain rfl := Option.some.inj H
                                obtain ⟨Ao78, co78, eo78⟩ := Kd.R_slice HO_7.out
                                subst eo78
                                have p138 : 0 ≤ (x9_4 : Int) := of_decide_eq_true (by first | (with_reducible assumption) | assumption)
                                have q138 : x9_4 < (t124.length : Int) := of_decide_eq_true (by first | (with_reducible assumption) | assumption)
                                obtain ⟨ad138, e138, hx138_0⟩ := Kd.at_string (Kd.R_reads' HO_7.out).2.2 x9_4 p138 q138
                                cases e138
                                replace p138 := eq_true p138
                                replace q138 := eq_true q138
                                go_wp2_with (first | ((with_reducible refine gate_callee (f := 16) rfl ?_); refine goesL_ (some 97) rfl rfl Try.func16 (by kernel_rfl) rfl #[.slice Ao29 y121.length co29, .string (rdOf ByteArray.empty t124 x9_4)] rfl (by (try simp only [List.map_toArray, List.map_cons, List.map_nil]); first | done | rfl | (simp only [List.length_drop, List.length_take]; rfl)) ?_; (with_reducible refine (walk_Find.calls _ _ y121 (rdOf ByteArray.empty t124 x9_4) t139 t140 _ ?side1 ?side2 A54.out).mono ?_); (case side1 => repeat (first | exact (Kd.N_reads' HO_6.out).2.2 | (with_reducible refine Kd.C_alloc ?_ _) | (with_reducible refine Kd.C_drewN ?_ _) | (with_reducible refine Kd.C_drew ?_))); (case side2 => exact (Kd.N_reads' HO_6.out).2.1); rintro e w79 ⟨rfl, hb⟩; refine ⟨_, rfl, ?_⟩; have n0_ := Aside0.mk (Kd.N_below (by (with_reducible repeat (first | apply Kd.N_alloc | apply Kd.N_drewN | apply Kd.N_drew)); exact HO_6.out) hb); have n1_ := Aside0.mk (Kd.R_below (by (with_reducible repeat (first | apply Kd.R_alloc | apply Kd.R_drewN | apply Kd.R_drew)); exact HO_7.out) hb); have n2_ := Aside0.mk (Kd.N_below (by (with_reducible repeat (first | apply Kd.N_alloc | apply Kd.N_drewN | apply Kd.N_drew)); exact HO_8.out) hb); have n3_ := Aside0.mk (Kd.R_below (by (with_reducible repeat (first | apply Kd.R_alloc | apply Kd.R_drewN | apply Kd.R_drew)); exact HO_115005.out) hb); have n4_ := Aside0.mk (blk_below (g := gb114) (o := .cells #[.int .i64 1, .int .i64 2, .int .i64 0, .int .i64 0, .slice none 0 0, .slice Ao26 x115005_2.length co26] 30 (0, 0)) (by (with_reducible repeat (first | refine blk_drewN ?_ _ | refine blk_drew ?_ | refine blk_alloc ?_ _)); exact BK114.out) hb); have n5_ := Aside0.mk (below_step (by repeat (first | (with_reducible first | exact HB.out | apply below_alloc | apply pw_below_drewN | apply below_drew1 | refine below_set ?_ GE114.out) | exact HB.out)) hb); clear HO_6; clear HO_7; clear HO_8; clear HO_115005; clear BK114; clear HB; have HO_6 := n0_; have HO_7 := n1_; have HO_8 := n2_; have HO_115005 := n3_; have BK114 := n4_; have HB := n5_; clear n0_ n1_ n2_ n3_ n4_ n5_; (try clear hb); (try clear hb2); (try clear hk); (try clear hi)) | ((with_reducible refine gate_callee (f := 18) rfl ?_); refine goesL_ (some 101) rfl rfl Try.func18 (by kernel_rfl) rfl #[.int .i64 t140] rfl (by (try simp only [List.map_toArray, List.map_cons, List.map_nil]); first | done | rfl | (simp only [List.length_drop, List.length_take]; rfl)) ?_; (with_reducible refine (lockgatelaw20_num.calls t140 t141 _ A55.out).mono ?_); rintro e w' ⟨rfl, ⟨nd, rfl⟩⟩; refine ⟨_, rfl, ?_⟩))
                                go_ret
                                exact ⟨by first | rfl | (simp [errW_none, errW_some] <;> rfl) | (simp [*, errW_none, errW_some] <;> rfl), by repeat (first | (with_reducible first | exact HB.out | apply below_alloc | apply pw_below_drewN | apply below_drew1 | refine below_set ?_ GE114.out) | exact HB.out)⟩
                            · rw [if_neg c53] at H
                              exact absurd H (by simp)
                          · rw [if_neg c52] at H
                            exact absurd H (by simp)
                        · rw [if_neg c51] at H
                          have c51b0 : decide (x9_4 < a0) = false := decide_eq_false c51
                          clear c51
                          replace H := Option.bind_eq_some_iff.mp H
                          obtain ⟨t134, A800, H⟩ := H
                          replace H : ((lockgateref20_Same.f t134 t127).bind fun t137 => (some t137)) = some r := H
                          have A80 := Aside0.mk A800
                          clear A800
                          replace H := Option.bind_eq_some_iff.mp H
                          obtain ⟨t137, A810, H⟩ := H
                          replace H : (some t137) = some r := H
                          have A81 := Aside0.mk A810
                          clear A810
                          obtain rfl := Option.some.inj H
                          obtain ⟨Ao82, co82, eo82⟩ := Kd.N_slice HO_8.out
                          subst eo82
                          go_wp2_with (first | ((with_reducible refine gate_callee (f := 13) rfl ?_); refine goesL_ (some 133) rfl rfl Try.func13 (by kernel_rfl) rfl #[.slice Ao82 t127.length co82] rfl (by (try simp only [List.map_toArray, List.map_cons, List.map_nil]); first | done | rfl | (simp only [List.length_drop, List.length_take]; rfl)) ?_; (with_reducible refine (walk_Renumber.calls _ _ t127 t134 _ ?side1 ?side2 A80.out).mono ?_); (case side1 => repeat (first | exact (Kd.N_reads' HO_8.out).2.2 | (with_reducible refine Kd.C_alloc ?_ _) | (with_reducible refine Kd.C_drewN ?_ _) | (with_reducible refine Kd.C_drew ?_))); (case side2 => exact (Kd.N_reads' HO_8.out).2.1); rintro e w83 ⟨v135, rfl, ho0, hb⟩; refine ⟨_, rfl, ?_⟩; have n0_ := Aside0.mk (Kd.N_elder' (by (with_reducible repeat (first | apply Kd.N_alloc | apply Kd.N_drewN | apply Kd.N_drew)); exact HO_6.out) (Kd.N_base ho0) hb); have n1_ := Aside0.mk (Kd.R_below (by (with_reducible repeat (first | apply Kd.R_alloc | apply Kd.R_drewN | apply Kd.R_drew)); exact HO_7.out) hb); have n2_ := Aside0.mk (Kd.N_elder' (by (with_reducible repeat (first | apply Kd.N_alloc | apply Kd.N_drewN | apply Kd.N_drew)); exact HO_8.out) (Kd.N_base ho0) hb); have n3_ := Aside0.mk (Kd.R_below (by (with_reducible repeat (first | apply Kd.R_alloc | apply Kd.R_drewN | apply Kd.R_drew)); exact HO_115005.out) hb); have n4_ := Aside0.mk (Kd.N_lower (Kd.N_mono (ok' := fun k_ => some k_ ≠ (.slice Ao29 y121.length co29 : Value).ownBlock ∧ some k_ ≠ (v125 : Value).ownBlock ∧ some k_ ≠ (.slice Ao82 t127.length co82 : Value).ownBlock ∧ some k_ ≠ (.slice Ao26 x115005_2.length co26 : Value).ownBlock ∧ k_ ≠ gb114) ho0 (fun k_ hk_ => ⟨(Kd.fresh' (Kd.N_lt (by (with_reducible repeat (first | apply Kd.N_alloc | apply Kd.N_drewN | apply Kd.N_drew)); exact HO_6.out)) k_ hk_), (Kd.fresh' (Kd.R_lt (by (with_reducible repeat (first | apply Kd.R_alloc | apply Kd.R_drewN | apply Kd.R_drew)); exact HO_7.out)) k_ hk_), (Kd.fresh' (Kd.N_lt (by (with_reducible repeat (first | apply Kd.N_alloc | apply Kd.N_drewN | apply Kd.N_drew)); exact HO_8.out)) k_ hk_), (Kd.fresh' (Kd.R_lt (by (with_reducible repeat (first | apply Kd.R_alloc | apply Kd.R_drewN | apply Kd.R_drew)); exact HO_115005.out)) k_ hk_), (Kd.freshB (g := gb114) (o := .cells #[.int .i64 1, .int .i64 2, .int .i64 0, .int .i64 0, .slice none 0 0, .slice Ao26 x115005_2.length co26] 30 (0, 0)) (by (with_reducible repeat (first | refine blk_drewN ?_ _ | refine blk_drew ?_ | refine blk_alloc ?_ _)); exact BK114.out) k_ hk_)⟩)) (below_size (by repeat (first | (with_reducible first | exact HB.out | apply below_alloc | apply pw_below_drewN | apply below_drew1 | refine below_set ?_ GE114.out) | exact HB.out)))); have n5_ := Aside0.mk (blk_below (g := gb114) (o := .cells #[.int .i64 1, .int .i64 2, .int .i64 0, .int .i64 0, .slice none 0 0, .slice Ao26 x115005_2.length co26] 30 (0, 0)) (by (with_reducible repeat (first | refine blk_drewN ?_ _ | refine blk_drew ?_ | refine blk_alloc ?_ _)); exact BK114.out) hb); have n6_ := Aside0.mk (below_step (by repeat (first | (with_reducible first | exact HB.out | apply below_alloc | apply pw_below_drewN | apply below_drew1 | refine below_set ?_ GE114.out) | exact HB.out)) hb); clear HO_6; clear HO_7; clear HO_8; clear HO_115005; clear BK114; clear HB; have HO_6 := n0_; have HO_7 := n1_; have HO_8 := n2_; have HO_115005 := n3_; have HO136 := n4_; have BK114 := n5_; have HB := n6_; clear n0_ n1_ n2_ n3_ n4_ n5_ n6_; (try clear hb); (try clear hb2); (try clear hk); (try clear hi); (try clear ho0); obtain ⟨Ao84, co84, eo84⟩ := Kd.N_slice HO136.out; subst eo84) | ((with_reducible refine gate_callee (f := 12) rfl ?_); refine goesL_ (some 135) rfl rfl Try.func12 (by kernel_rfl) rfl #[.slice Ao84 t134.length co84, .slice Ao82 t127.length co82] rfl (by (try simp only [List.map_toArray, List.map_cons, List.map_nil]); first | done | rfl | (simp only [List.length_drop, List.length_take]; rfl)) ?_; (with_reducible refine (lockgateref20_Same.calls _ _ t134 _ _ t127 t137 _ ?side1 ?side2 ?side3 ?side4 A81.out).mono ?_); (case side1 => repeat (first | exact (Kd.N_reads' HO136.out).2.2 | (with_reducible refine Kd.C_alloc ?_ _) | (with_reducible refine Kd.C_drewN ?_ _) | (with_reducible refine Kd.C_drew ?_))); (case side2 => exact (Kd.N_reads' HO136.out).2.1); (case side3 => repeat (first | exact (Kd.N_reads' HO_8.out).2.2 | (with_reducible refine Kd.C_alloc ?_ _) | (with_reducible refine Kd.C_drewN ?_ _) | (with_reducible refine Kd.C_drew ?_))); (case side4 => exact (Kd.N_reads' HO_8.out).2.1); rintro e w85 ⟨rfl, hb⟩; refine ⟨_, rfl, ?_⟩; have n0_ := Aside0.mk (Kd.N_below (by (with_reducible repeat (first | apply Kd.N_alloc | apply Kd.N_drewN | apply Kd.N_drew)); exact HO_6.out) hb); have n1_ := Aside0.mk (Kd.R_below (by (with_reducible repeat (first | apply Kd.R_alloc | apply Kd.R_drewN | apply Kd.R_drew)); exact HO_7.out) hb); have n2_ := Aside0.mk (Kd.N_below (by (with_reducible repeat (first | apply Kd.N_alloc | apply Kd.N_drewN | apply Kd.N_drew)); exact HO_8.out) hb); have n3_ := Aside0.mk (Kd.R_below (by (with_reducible repeat (first | apply Kd.R_alloc | apply Kd.R_drewN | apply Kd.R_drew)); exact HO_115005.out) hb); have n4_ := Aside0.mk (Kd.N_below (by (with_reducible repeat (first | apply Kd.N_alloc | apply Kd.N_drewN | apply Kd.N_drew)); exact HO136.out) hb); have n5_ := Aside0.mk (blk_below (g := gb114) (o := .cells #[.int .i64 1, .int .i64 2, .int .i64 0, .int .i64 0, .slice none 0 0, .slice Ao26 x115005_2.length co26] 30 (0, 0)) (by (with_reducible repeat (first | refine blk_drewN ?_ _ | refine blk_drew ?_ | refine blk_alloc ?_ _)); exact BK114.out) hb); have n6_ := Aside0.mk (below_step (by repeat (first | (with_reducible first | exact HB.out | apply below_alloc | apply pw_below_drewN | apply below_drew1 | refine below_set ?_ GE114.out) | exact HB.out)) hb); clear HO_6; clear HO_7; clear HO_8; clear HO_115005; clear HO136; clear BK114; clear HB; have HO_6 := n0_; have HO_7 := n1_; have HO_8 := n2_; have HO_115005 := n3_; have HO136 := n4_; have BK114 := n5_; have HB := n6_; clear n0_ n1_ n2_ n3_ n4_ n5_ n6_; (try clear hb); (try clear hb2); (try clear hk); (try clear hi)))
                          go_ret
                          exact ⟨by first | rfl | (simp [errW_none, errW_some] <;> rfl) | (simp [*, errW_none, errW_some] <;> rfl), by repeat (first | (with_reducible first | exact HB.out | apply below_alloc | apply pw_below_drewN | apply below_drew1 | refine below_set ?_ GE114.out) | exact HB.out)⟩

/-- THE ONE PURE STATEMENT of lockgatelaw20_WalkLinks: yours. -/
def lockgatelaw20_WalkLinks.Pure : Prop := ∀ (a0 : Int), (Lit.int .i64 a0).wf = true → ∃ k, lockgatelaw20_WalkLinks.f k a0 = some true
theorem lockgatelaw20_WalkLinks.walk (P : lockgatelaw20_WalkLinks.Pure) (a0 : Int) (w : World) (w0 : (Lit.int .i64 a0).wf = true) :
    Calls Try.prog 8 #[.int .i64 a0] w fun e w' => e = .returned (.bool true) ∧ Below w.heap.size w w' := by
  obtain ⟨k, h⟩ := P a0 w0
  refine (lockgatelaw20_WalkLinks.calls k a0 true w h).mono ?_
  rintro e w' ⟨rfl, hd⟩
  exact ⟨rfl, hd⟩

end Go.Proofs.Ytnmlmbbacicojaa.PWalkSame
