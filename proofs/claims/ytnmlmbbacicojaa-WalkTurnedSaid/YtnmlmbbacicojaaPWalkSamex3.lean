-- PRINTED BY print.sh 35421559b90ae4d0a3588c463048766b98c2df88dd9212a6774a882060cdf62d: not written by this session
import Derived.Test.YtnmlmbbacicojaaPWalkSamex0
namespace Go.Proofs.Ytnmlmbbacicojaa.PWalkSame
open Go.RowKit Go.Proofs.YtnmlmbbacicojaaW.PrintWords Go.Proofs.YtnmlmbbacicojaaW.PrintLast Go.Proofs.YtnmlmbbacicojaaW.PrintMore
attribute [local go_sem] max2_int min2_int max_two min_two max_three min_three max_four min_four   -- for this text's walks alone
set_option linter.unusedVariables false
set_option linter.unusedSimpArgs false

/-! ### lockgatelaw20_Big: function 10 -/
mutual
def lockgatelaw20_Big.l0 : Nat → List (S30) → Int → Int → Option (Bool)
  | 0, _, _, _ => none
  | k + 1, x0, x3, x4 => if x4 < (x0.length : Int) then (lockgatelaw20_Big.j1 k x0 x3 x4 (decide (x3 ≤ 500))) else (lockgatelaw20_Big.j1 k x0 x3 x4 false)
def lockgatelaw20_Big.j1 : Nat → List (S30) → Int → Int → Bool → Option (Bool)
  | 0, _, _, _, _ => none
  | k + 1, x0, x3, x4, x16 => if x16 = true then (if 0 ≤ x4 then (if x4 < (x0.length : Int) then (lockgatelaw20_Big.l1 k x0 (wrap64 ((wrap64 (x3 + (((rd_T30 x0 x4).f5).length : Int))) + (((rd_T30 x0 x4).f4).length : Int))) x4 0) else (none)) else (none)) else (some (decide (x3 > 500)))
def lockgatelaw20_Big.l1 : Nat → List (S30) → Int → Int → Int → Option (Bool)
  | 0, _, _, _, _ => none
  | k + 1, x0, x3, x4, x5 => if 0 ≤ x4 then (if x4 < (x0.length : Int) then (if x5 < (((rd_T30 x0 x4).f5).length : Int) then (lockgatelaw20_Big.j3 k x0 x3 x4 x5 (decide (x5 < 500))) else (lockgatelaw20_Big.j3 k x0 x3 x4 x5 false)) else (none)) else (none)
def lockgatelaw20_Big.j3 : Nat → List (S30) → Int → Int → Int → Bool → Option (Bool)
  | 0, _, _, _, _, _ => none
  | k + 1, x0, x3, x4, x5, x45 => if x45 = true then (if 0 ≤ x4 then (if x4 < (x0.length : Int) then (if 0 ≤ x5 then (if x5 < (((rd_T30 x0 x4).f5).length : Int) then (if (((rd_T32 ((rd_T30 x0 x4).f5) x5).f1).size : Int) > 1000 then (some true) else (lockgatelaw20_Big.l1 k x0 x3 x4 (wrap64 (x5 + 1)))) else (none)) else (none)) else (none)) else (none)) else (lockgatelaw20_Big.l2 k x0 x3 x4 0)
def lockgatelaw20_Big.l2 : Nat → List (S30) → Int → Int → Int → Option (Bool)
  | 0, _, _, _, _ => none
  | k + 1, x0, x3, x4, x6 => if 0 ≤ x4 then (if x4 < (x0.length : Int) then (if x6 < (((rd_T30 x0 x4).f4).length : Int) then (lockgatelaw20_Big.j5 k x0 x3 x4 x6 (decide (x6 < 500))) else (lockgatelaw20_Big.j5 k x0 x3 x4 x6 false)) else (none)) else (none)
def lockgatelaw20_Big.j5 : Nat → List (S30) → Int → Int → Int → Bool → Option (Bool)
  | 0, _, _, _, _, _ => none
  | k + 1, x0, x3, x4, x6, x70 => if x70 = true then (if 0 ≤ x4 then (if x4 < (x0.length : Int) then (if 0 ≤ x6 then (if x6 < (((rd_T30 x0 x4).f4).length : Int) then (if (((rd_T35 ((rd_T30 x0 x4).f4) x6).f1).length : Int) > 2000 then (some true) else (lockgatelaw20_Big.l2 k x0 x3 x4 (wrap64 (x6 + 1)))) else (none)) else (none)) else (none)) else (none)) else (lockgatelaw20_Big.l0 k x0 x3 (wrap64 (x4 + 1)))
end
def lockgatelaw20_Big.f (k : Nat) (l0 : List (S30)) : Option (Bool) := lockgatelaw20_Big.l0 k l0 (l0.length : Int) 0
theorem lockgatelaw20_Big.mono_l : ∀ k, (∀ y0 y1 y2, LeO (lockgatelaw20_Big.l0 k y0 y1 y2) (lockgatelaw20_Big.l0 (k + 1) y0 y1 y2)) ∧ (∀ y0 y1 y2 y3, LeO (lockgatelaw20_Big.j1 k y0 y1 y2 y3) (lockgatelaw20_Big.j1 (k + 1) y0 y1 y2 y3)) ∧ (∀ y0 y1 y2 y3, LeO (lockgatelaw20_Big.l1 k y0 y1 y2 y3) (lockgatelaw20_Big.l1 (k + 1) y0 y1 y2 y3)) ∧ (∀ y0 y1 y2 y3 y4, LeO (lockgatelaw20_Big.j3 k y0 y1 y2 y3 y4) (lockgatelaw20_Big.j3 (k + 1) y0 y1 y2 y3 y4)) ∧ (∀ y0 y1 y2 y3, LeO (lockgatelaw20_Big.l2 k y0 y1 y2 y3) (lockgatelaw20_Big.l2 (k + 1) y0 y1 y2 y3)) ∧ (∀ y0 y1 y2 y3 y4, LeO (lockgatelaw20_Big.j5 k y0 y1 y2 y3 y4) (lockgatelaw20_Big.j5 (k + 1) y0 y1 y2 y3 y4))
  | 0 => ⟨fun _ _ _ r h => by simp [lockgatelaw20_Big.l0] at h, fun _ _ _ _ r h => by simp [lockgatelaw20_Big.j1] at h, fun _ _ _ _ r h => by simp [lockgatelaw20_Big.l1] at h, fun _ _ _ _ _ r h => by simp [lockgatelaw20_Big.j3] at h, fun _ _ _ _ r h => by simp [lockgatelaw20_Big.l2] at h, fun _ _ _ _ _ r h => by simp [lockgatelaw20_Big.j5] at h⟩
  | k + 1 => by
    obtain ⟨ih0, ih1, ih2, ih3, ih4, ih5⟩ := lockgatelaw20_Big.mono_l k
    refine ⟨?_, ?_, ?_, ?_, ?_, ?_⟩
    · intro y0 y1 y2
      unfold lockgatelaw20_Big.l0
      repeat' first
      | (with_reducible exact ih0 _ _ _)
      | (with_reducible exact ih1 _ _ _ _)
      | (with_reducible exact ih2 _ _ _ _)
      | (with_reducible exact ih3 _ _ _ _ _)
      | (with_reducible exact ih4 _ _ _ _)
      | (with_reducible exact ih5 _ _ _ _ _)
      | (with_reducible exact LeO.refl _)
      | (with_reducible exact LeO.none _)
      | (with_reducible refine LeO.ite ?_ ?_)
      | (with_reducible refine LeO.bind ?_ (fun _ => ?_))
      | exact ih0 _ _ _
      | exact ih1 _ _ _ _
      | exact ih2 _ _ _ _
      | exact ih3 _ _ _ _ _
      | exact ih4 _ _ _ _
      | exact ih5 _ _ _ _ _
      | exact LeO.none _
      | refine LeO.ite ?_ ?_
      | refine LeO.bind ?_ (fun _ => ?_)
    · intro y0 y1 y2 y3
      unfold lockgatelaw20_Big.j1
      repeat' first
      | (with_reducible exact ih0 _ _ _)
      | (with_reducible exact ih1 _ _ _ _)
      | (with_reducible exact ih2 _ _ _ _)
      | (with_reducible exact ih3 _ _ _ _ _)
      | (with_reducible exact ih4 _ _ _ _)
      | (with_reducible exact ih5 _ _ _ _ _)
      | (with_reducible exact LeO.refl _)
      | (with_reducible exact LeO.none _)
      | (with_reducible refine LeO.ite ?_ ?_)
      | (with_reducible refine LeO.bind ?_ (fun _ => ?_))
      | exact ih0 _ _ _
      | exact ih1 _ _ _ _
      | exact ih2 _ _ _ _
      | exact ih3 _ _ _ _ _
      | exact ih4 _ _ _ _
      | exact ih5 _ _ _ _ _
      | exact LeO.none _
      | refine LeO.ite ?_ ?_
      | refine LeO.bind ?_ (fun _ => ?_)
    · intro y0 y1 y2 y3
      unfold lockgatelaw20_Big.l1
      repeat' first
      | (with_reducible exact ih0 _ _ _)
      | (with_reducible exact ih1 _ _ _ _)
      | (with_reducible exact ih2 _ _ _ _)
      | (with_reducible exact ih3 _ _ _ _ _)
      | (with_reducible exact ih4 _ _ _ _)
      | (with_reducible exact ih5 _ _ _ _ _)
      | (with_reducible exact LeO.refl _)
      | (with_reducible exact LeO.none _)
      | (with_reducible refine LeO.ite ?_ ?_)
      | (with_reducible refine LeO.bind ?_ (fun _ => ?_))
      | exact ih0 _ _ _
      | exact ih1 _ _ _ _
      | exact ih2 _ _ _ _
      | exact ih3 _ _ _ _ _
      | exact ih4 _ _ _ _
      | exact ih5 _ _ _ _ _
      | exact LeO.none _
      | refine LeO.ite ?_ ?_
      | refine LeO.bind ?_ (fun _ => ?_)
    · intro y0 y1 y2 y3 y4
      unfold lockgatelaw20_Big.j3
      repeat' first
      | (with_reducible exact ih0 _ _ _)
      | (with_reducible exact ih1 _ _ _ _)
      | (with_reducible exact ih2 _ _ _ _)
      | (with_reducible exact ih3 _ _ _ _ _)
      | (with_reducible exact ih4 _ _ _ _)
      | (with_reducible exact ih5 _ _ _ _ _)
      | (with_reducible exact LeO.refl _)
      | (with_reducible exact LeO.none _)
      | (with_reducible refine LeO.ite ?_ ?_)
      | (with_reducible refine LeO.bind ?_ (fun _ => ?_))
      | exact ih0 _ _ _
      | exact ih1 _ _ _ _
      | exact ih2 _ _ _ _
      | exact ih3 _ _ _ _ _
      | exact ih4 _ _ _ _
      | exact ih5 _ _ _ _ _
      | exact LeO.none _
      | refine LeO.ite ?_ ?_
      | refine LeO.bind ?_ (fun _ => ?_)
    · intro y0 y1 y2 y3
      unfold lockgatelaw20_Big.l2
      repeat' first
      | (with_reducible exact ih0 _ _ _)
      | (with_reducible exact ih1 _ _ _ _)
      | (with_reducible exact ih2 _ _ _ _)
      | (with_reducible exact ih3 _ _ _ _ _)
      | (with_reducible exact ih4 _ _ _ _)
      | (with_reducible exact ih5 _ _ _ _ _)
      | (with_reducible exact LeO.refl _)
      | (with_reducible exact LeO.none _)
      | (with_reducible refine LeO.ite ?_ ?_)
      | (with_reducible refine LeO.bind ?_ (fun _ => ?_))
      | exact ih0 _ _ _
      | exact ih1 _ _ _ _
      | exact ih2 _ _ _ _
      | exact ih3 _ _ _ _ _
      | exact ih4 _ _ _ _
      | exact ih5 _ _ _ _ _
      | exact LeO.none _
      | refine LeO.ite ?_ ?_
      | refine LeO.bind ?_ (fun _ => ?_)
    · intro y0 y1 y2 y3 y4
      unfold lockgatelaw20_Big.j5
      repeat' first
      | (with_reducible exact ih0 _ _ _)
      | (with_reducible exact ih1 _ _ _ _)
      | (with_reducible exact ih2 _ _ _ _)
      | (with_reducible exact ih3 _ _ _ _ _)
      | (with_reducible exact ih4 _ _ _ _)
      | (with_reducible exact ih5 _ _ _ _ _)
      | (with_reducible exact LeO.refl _)
      | (with_reducible exact LeO.none _)
      | (with_reducible refine LeO.ite ?_ ?_)
      | (with_reducible refine LeO.bind ?_ (fun _ => ?_))
      | exact ih0 _ _ _
      | exact ih1 _ _ _ _
      | exact ih2 _ _ _ _
      | exact ih3 _ _ _ _ _
      | exact ih4 _ _ _ _
      | exact ih5 _ _ _ _ _
      | exact LeO.none _
      | refine LeO.ite ?_ ?_
      | refine LeO.bind ?_ (fun _ => ?_)
theorem lockgatelaw20_Big.mono : ∀ a0 k, LeO (lockgatelaw20_Big.f k a0) (lockgatelaw20_Big.f (k + 1) a0) := by
  intro a0 k
  obtain ⟨ih0, ih1, ih2, ih3, ih4, ih5⟩ := lockgatelaw20_Big.mono_l k
  unfold lockgatelaw20_Big.f
  repeat' first
      | (with_reducible exact ih0 _ _ _)
      | (with_reducible exact ih1 _ _ _ _)
      | (with_reducible exact ih2 _ _ _ _)
      | (with_reducible exact ih3 _ _ _ _ _)
      | (with_reducible exact ih4 _ _ _ _)
      | (with_reducible exact ih5 _ _ _ _ _)
      | (with_reducible exact LeO.refl _)
      | (with_reducible exact LeO.none _)
      | (with_reducible refine LeO.ite ?_ ?_)
      | (with_reducible refine LeO.bind ?_ (fun _ => ?_))
      | exact ih0 _ _ _
      | exact ih1 _ _ _ _
      | exact ih2 _ _ _ _
      | exact ih3 _ _ _ _ _
      | exact ih4 _ _ _ _
      | exact ih5 _ _ _ _ _
      | exact LeO.none _
      | refine LeO.ite ?_ ?_
      | refine LeO.bind ?_ (fun _ => ?_)
set_option maxHeartbeats 8000000 in
set_option maxRecDepth 100000 in
theorem lockgatelaw20_Big.calls (k : Nat) (A0 : Option Addr) (c0 : Nat) (l0 : List (S30)) (r : Bool) (w : World) (hr0 : Kd.C k30 w A0 l0.length l0) (hc0 : l0.length ≤ c0) (h : lockgatelaw20_Big.f k l0 = some r) :
    Calls Try.prog 10 #[.slice A0 l0.length c0] w fun e w' => e = .returned (.bool r) ∧ Drawn0 w w' := by
  have HR0 := Aside0.mk hr0
  have HC0 := Aside0.mk hc0
  clear hr0 hc0
  have H : (lockgatelaw20_Big.l0 k l0 (l0.length : Int) 0) = some r := h
  clear h
  have H' := Aside0.mk H
  clear H
  go_enter Try.func10, Try.ntmps10
  go_wp2
  repeat (go_quiet (fail); try go_wp2)
  go_loopg [3, 4] k (fun kq v3 v4 w' => ∃ (x3_1 : Int) (x4_1 : Int), v3 = .int .i64 x3_1 ∧ v4 = .int .i64 x4_1 ∧ Aside0 (lockgatelaw20_Big.l0 kq l0 x3_1 x4_1 = some r) ∧ Aside0 (kq ≤ k) ∧ Drawn0 w w')
  case atStart => exact ⟨((l0.length : Int)), (0), (by first | rfl | (simp; done) | (simp [*]; done)), (by first | rfl | (simp; done) | (simp [*]; done)), H', ⟨Nat.le_refl _⟩, by repeat (first | exact Drawn0.refl _ | apply Drawn0.step)⟩
  case round =>
    clear H'
    try clear c1
    obtain ⟨x3_1, x4_1, rfl, rfl, HA, HK1, ⟨m1, rfl⟩⟩ := hrel
    cases gk with
    | zero => exact absurd HA.out (by simp [lockgatelaw20_Big.l0])
    | succ k1 =>
      have H := HA.out
      clear HA
      simp only [lockgatelaw20_Big.l0] at H
      have HC2 := Aside0.mk H
      clear H
      go_upto_region 3 with (fail)
      repeat (go_quiet (fail); go_upto_region 3 with (fail))
      go_cut [16] (fun v16 wc => ∃ (kq : Nat) (x16_1 : Bool), v16 = .bool x16_1 ∧ Aside0 (lockgatelaw20_Big.j1 kq l0 x3_1 x4_1 x16_1 = some r) ∧ Aside0 (kq ≤ k1) ∧ Drawn0 w wc)
      case first =>
        have H := HC2.out
        clear HC2
        by_cases c3 : x4_1 < (l0.length : Int)
        · rw [if_pos c3] at H
          have c3b0 : decide (x4_1 < (l0.length : Int)) = true := decide_eq_true c3
          clear c3
          (first | rw [c3b0] | (simp only [i64_w, i32_w]; rw [c3b0]) | skip)
          have H' := Aside0.mk H
          clear H
          go_wp2
          repeat (go_quiet (fail); try go_wp2)
          go_meet
          case rel => exact ⟨_, (decide (x3_1 ≤ 500)), (by first | rfl | (simp; done) | (simp [*]; done)), H', ⟨by have := HK1.out; first | omega | exact Nat.le_refl _⟩, by repeat (first | exact Drawn0.refl _ | apply Drawn0.step)⟩
        · rw [if_neg c3] at H
          have c3b0 : decide (x4_1 < (l0.length : Int)) = false := decide_eq_false c3
          clear c3
          (first | rw [c3b0] | (simp only [i64_w, i32_w]; rw [c3b0]) | skip)
          have H' := Aside0.mk H
          clear H
          go_wp2
          repeat (go_quiet (fail); try go_wp2)
          go_meet
          case rel => exact ⟨_, (false), (by first | rfl | (simp; done) | (simp [*]; done)), H', ⟨by have := HK1.out; first | omega | exact Nat.le_refl _⟩, by repeat (first | exact Drawn0.refl _ | apply Drawn0.step)⟩
      case rest =>
        clear HC2
        try clear c1
        try clear p2
        try clear c3
        try clear c3b0
        obtain ⟨kq, x16_1, rfl, HA, HJ1, ⟨mc1, rfl⟩⟩ := hcut
        cases kq with
        | zero => exact absurd HA.out (by simp [lockgatelaw20_Big.j1])
        | succ kj1 =>
          have H := HA.out
          clear HA
          simp only [lockgatelaw20_Big.j1] at H
          by_cases c4 : x16_1 = true
          · subst c4
            have H1 : (if 0 ≤ x4_1 then (if x4_1 < (l0.length : Int) then (lockgatelaw20_Big.l1 kj1 l0 (wrap64 ((wrap64 (x3_1 + (((rd_T30 l0 x4_1).f5).length : Int))) + (((rd_T30 l0 x4_1).f4).length : Int))) x4_1 0) else (none)) else (none)) = some r := by rw [if_pos rfl] at H; exact H
            clear H
            have H := H1
            clear H1
            by_cases c5 : 0 ≤ x4_1
            · rw [if_pos c5] at H
              have c5b0 : decide (0 ≤ x4_1) = true := decide_eq_true c5
              clear c5
              by_cases c6 : x4_1 < (l0.length : Int)
              · rw [if_pos c6] at H
                have c6b0 : decide (x4_1 < (l0.length : Int)) = true := decide_eq_true c6
                clear c6
                have H' := Aside0.mk H
                clear H
                have p113 : 0 ≤ (x4_1 : Int) := of_decide_eq_true (by first | (with_reducible assumption) | assumption)
                have q113 : x4_1 < (l0.length : Int) := of_decide_eq_true (by first | (with_reducible assumption) | assumption)
                obtain ⟨ad113, A113_4, c113_4, A113_5, c113_5, e113, hx113_0, hx113_1, hx113_2, hx113_3, hx113_4, hx113_5, hl113_4, hi113_4, hl113_5, hi113_5⟩ := at_T30 HR0.out x4_1 p113 q113
                cases e113
                have HR113_4 := Aside0.mk hi113_4
                have HC113_4 := Aside0.mk hl113_4
                clear hi113_4 hl113_4
                have HR113_5 := Aside0.mk hi113_5
                have HC113_5 := Aside0.mk hl113_5
                clear hi113_5 hl113_5
                replace p113 := eq_true p113
                replace q113 := eq_true q113
                have p114 : 0 ≤ (x4_1 : Int) := of_decide_eq_true (by first | (with_reducible assumption) | assumption)
                have q114 : x4_1 < (l0.length : Int) := of_decide_eq_true (by first | (with_reducible assumption) | assumption)
                obtain ⟨ad114, A114_4, c114_4, A114_5, c114_5, e114, hx114_0, hx114_1, hx114_2, hx114_3, hx114_4, hx114_5, hl114_4, hi114_4, hl114_5, hi114_5⟩ := at_T30 HR0.out x4_1 p114 q114
                obtain rfl : ad113 = ad114 := (by injection e114)
                have HR114_4 := Aside0.mk hi114_4
                have HC114_4 := Aside0.mk hl114_4
                clear hi114_4 hl114_4
                have HR114_5 := Aside0.mk hi114_5
                have HC114_5 := Aside0.mk hl114_5
                clear hi114_5 hl114_5
                replace p114 := eq_true p114
                replace q114 := eq_true q114
                have ea_ := Option.some.inj (hx113_4.symm.trans hx114_4)
                injection ea_ with ea_ en_ ec_
                subst ea_
                subst ec_
                clear en_
                have ea_ := Option.some.inj (hx113_5.symm.trans hx114_5)
                injection ea_ with ea_ en_ ec_
                subst ea_
                subst ec_
                clear en_
                go_wp2
                repeat (go_quiet (fail); try go_wp2)
                go_loopg [5] kj1 (fun kq v5 w' => ∃ (x5_3 : Int), v5 = .int .i64 x5_3 ∧ Aside0 (lockgatelaw20_Big.l1 kq l0 (wrap64 ((wrap64 (x3_1 + (((rd_T30 l0 x4_1).f5).length : Int))) + (((rd_T30 l0 x4_1).f4).length : Int))) x4_1 x5_3 = some r) ∧ Aside0 (kq ≤ kj1) ∧ Drawn0 w w')
                case atStart => exact ⟨(0), (by first | rfl | (simp; done) | (simp [*]; done)), H', ⟨Nat.le_refl _⟩, by repeat (first | exact Drawn0.refl _ | apply Drawn0.step)⟩
                case round =>
                  clear H'
                  try clear c1
                  try clear p1
                  try clear q1
                  try clear hx1
                  try clear p2
                  try clear c3
                  try clear c3b0
                  try clear c4
                  try clear c5
                  try clear c5b0
                  try clear c6
                  try clear c6b0
                  try clear p6
                  try clear hx113_0
                  try clear hx113_1
                  try clear hx113_2
                  try clear hx113_3
                  try clear hx113_4
                  try clear hx113_5
                  try clear hx114_0
                  try clear hx114_1
                  try clear hx114_2
                  try clear hx114_3
                  try clear hx114_4
                  try clear hx114_5
                  try clear p113
                  try clear p114
                  try clear p2
                  try clear q113
                  try clear q114
                  obtain ⟨x5_3, rfl, HA, HK3, ⟨m3, rfl⟩⟩ := hrel
                  cases gk with
                  | zero => exact absurd HA.out (by simp [lockgatelaw20_Big.l1])
                  | succ k3 =>
                    have H := HA.out
                    clear HA
                    simp only [lockgatelaw20_Big.l1] at H
                    have HC7 := Aside0.mk H
                    clear H
                    go_upto_region 7 with (fail)
                    repeat (go_quiet (fail); go_upto_region 7 with (fail))
                    go_cut [45] (fun v45 wc => ∃ (kq : Nat) (x45_6 : Bool), v45 = .bool x45_6 ∧ Aside0 (lockgatelaw20_Big.j3 kq l0 (wrap64 ((wrap64 (x3_1 + (((rd_T30 l0 x4_1).f5).length : Int))) + (((rd_T30 l0 x4_1).f4).length : Int))) x4_1 x5_3 x45_6 = some r) ∧ Aside0 (kq ≤ k3) ∧ Drawn0 w wc)
                    case first =>
                      have H := HC7.out
                      clear HC7
                      by_cases c8 : 0 ≤ x4_1
                      · rw [if_pos c8] at H
                        have c8b0 : decide (0 ≤ x4_1) = true := decide_eq_true c8
                        clear c8
                        (first | rw [c8b0] | (simp only [i64_w, i32_w]; rw [c8b0]) | skip)
                        by_cases c9 : x4_1 < (l0.length : Int)
                        · rw [if_pos c9] at H
                          have c9b0 : decide (x4_1 < (l0.length : Int)) = true := decide_eq_true c9
                          clear c9
                          by_cases c10 : x5_3 < (((rd_T30 l0 x4_1).f5).length : Int)
                          · rw [if_pos c10] at H
                            have c10b0 : decide (x5_3 < (((rd_T30 l0 x4_1).f5).length : Int)) = true := decide_eq_true c10
                            clear c10
                            have H' := Aside0.mk H
                            clear H
                            have p115 : 0 ≤ (x4_1 : Int) := of_decide_eq_true (by first | (with_reducible assumption) | assumption)
                            have q115 : x4_1 < (l0.length : Int) := of_decide_eq_true (by first | (with_reducible assumption) | assumption)
                            obtain ⟨ad115, A115_4, c115_4, A115_5, c115_5, e115, hx115_0, hx115_1, hx115_2, hx115_3, hx115_4, hx115_5, hl115_4, hi115_4, hl115_5, hi115_5⟩ := at_T30 HR0.out x4_1 p115 q115
                            obtain rfl : ad113 = ad115 := (by injection e115)
                            have HR115_4 := Aside0.mk hi115_4
                            have HC115_4 := Aside0.mk hl115_4
                            clear hi115_4 hl115_4
                            have HR115_5 := Aside0.mk hi115_5
                            have HC115_5 := Aside0.mk hl115_5
                            clear hi115_5 hl115_5
                            replace p115 := eq_true p115
                            replace q115 := eq_true q115
                            go_wp2
                            repeat (go_quiet (fail); try go_wp2)
                            go_meet
                            case rel => exact ⟨_, (decide (x5_3 < 500)), (by first | rfl | (simp; done) | (simp [*]; done)), H', ⟨by have := HK1.out; have := HJ1.out; have := HK3.out; first | omega | exact Nat.le_refl _⟩, by repeat (first | exact Drawn0.refl _ | apply Drawn0.step)⟩
                          · rw [if_neg c10] at H
                            have c10b0 : decide (x5_3 < (((rd_T30 l0 x4_1).f5).length : Int)) = false := decide_eq_false c10
                            clear c10
                            have H' := Aside0.mk H
                            clear H
                            have p115 : 0 ≤ (x4_1 : Int) := of_decide_eq_true (by first | (with_reducible assumption) | assumption)
                            have q115 : x4_1 < (l0.length : Int) := of_decide_eq_true (by first | (with_reducible assumption) | assumption)
                            obtain ⟨ad115, A115_4, c115_4, A115_5, c115_5, e115, hx115_0, hx115_1, hx115_2, hx115_3, hx115_4, hx115_5, hl115_4, hi115_4, hl115_5, hi115_5⟩ := at_T30 HR0.out x4_1 p115 q115
                            obtain rfl : ad113 = ad115 := (by injection e115)
                            have HR115_4 := Aside0.mk hi115_4
                            have HC115_4 := Aside0.mk hl115_4
                            clear hi115_4 hl115_4
                            have HR115_5 := Aside0.mk hi115_5
                            have HC115_5 := Aside0.mk hl115_5
                            clear hi115_5 hl115_5
                            replace p115 := eq_true p115
                            replace q115 := eq_true q115
                            go_wp2
                            repeat (go_quiet (fail); try go_wp2)
                            go_meet
                            case rel => exact ⟨_, (false), (by first | rfl | (simp; done) | (simp [*]; done)), H', ⟨by have := HK1.out; have := HJ1.out; have := HK3.out; first | omega | exact Nat.le_refl _⟩, by repeat (first | exact Drawn0.refl _ | apply Drawn0.step)⟩
                        · rw [if_neg c9] at H
                          exact absurd H (by simp)
                      · rw [if_neg c8] at H
                        exact absurd H (by simp)
                    case rest =>
                      clear HC7
                      try clear c1
                      try clear p1
                      try clear q1
                      try clear hx1
                      try clear p2
                      try clear c3
                      try clear c3b0
                      try clear c4
                      try clear c5
                      try clear c5b0
                      try clear c6
                      try clear c6b0
                      try clear p6
                      try clear c8
                      try clear c8b0
                      try clear c9
                      try clear c9b0
                      try clear c10
                      try clear c10b0
                      try clear hx113_0
                      try clear hx113_1
                      try clear hx113_2
                      try clear hx113_3
                      try clear hx113_4
                      try clear hx113_5
                      try clear hx114_0
                      try clear hx114_1
                      try clear hx114_2
                      try clear hx114_3
                      try clear hx114_4
                      try clear hx114_5
                      try clear hx115_0
                      try clear hx115_1
                      try clear hx115_2
                      try clear hx115_3
                      try clear hx115_4
                      try clear hx115_5
                      try clear p1
                      try clear p113
                      try clear p114
                      try clear p115
                      try clear p2
                      try clear p6
                      try clear q1
                      try clear q113
                      try clear q114
                      try clear q115
                      obtain ⟨kq, x45_6, rfl, HA, HJ6, ⟨mc6, rfl⟩⟩ := hcut
                      cases kq with
                      | zero => exact absurd HA.out (by simp [lockgatelaw20_Big.j3])
                      | succ kj6 =>
                        have H := HA.out
                        clear HA
                        simp only [lockgatelaw20_Big.j3] at H
                        by_cases c11 : x45_6 = true
                        · subst c11
                          have H1 : (if 0 ≤ x4_1 then (if x4_1 < (l0.length : Int) then (if 0 ≤ x5_3 then (if x5_3 < (((rd_T30 l0 x4_1).f5).length : Int) then (if (((rd_T32 ((rd_T30 l0 x4_1).f5) x5_3).f1).size : Int) > 1000 then (some true) else (lockgatelaw20_Big.l1 kj6 l0 (wrap64 ((wrap64 (x3_1 + (((rd_T30 l0 x4_1).f5).length : Int))) + (((rd_T30 l0 x4_1).f4).length : Int))) x4_1 (wrap64 (x5_3 + 1)))) else (none)) else (none)) else (none)) else (none)) = some r := by rw [if_pos rfl] at H; exact H
                          clear H
                          have H := H1
                          clear H1
                          by_cases c12 : 0 ≤ x4_1
                          · rw [if_pos c12] at H
                            have c12b0 : decide (0 ≤ x4_1) = true := decide_eq_true c12
                            clear c12
                            by_cases c13 : x4_1 < (l0.length : Int)
                            · rw [if_pos c13] at H
                              have c13b0 : decide (x4_1 < (l0.length : Int)) = true := decide_eq_true c13
                              clear c13
                              by_cases c14 : 0 ≤ x5_3
                              · rw [if_pos c14] at H
                                have c14b0 : decide (0 ≤ x5_3) = true := decide_eq_true c14
                                clear c14
                                by_cases c15 : x5_3 < (((rd_T30 l0 x4_1).f5).length : Int)
                                · rw [if_pos c15] at H
                                  have c15b0 : decide (x5_3 < (((rd_T30 l0 x4_1).f5).length : Int)) = true := decide_eq_true c15
                                  clear c15
                                  by_cases c16 : (((rd_T32 ((rd_T30 l0 x4_1).f5) x5_3).f1).size : Int) > 1000
                                  · rw [if_pos c16] at H
                                    have c16b0 : decide (1000 < (((rd_T32 ((rd_T30 l0 x4_1).f5) x5_3).f1).size : Int)) = true := decide_eq_true c16
                                    have c16b1 : decide (1000 < ((rd_T32 ((rd_T30 l0 x4_1).f5) x5_3).f1).size) = true := decide_eq_true (by omega)
                                    clear c16
                                    obtain rfl := Option.some.inj H
                                    have p116 : 0 ≤ (x4_1 : Int) := of_decide_eq_true (by first | (with_reducible assumption) | assumption)
                                    have q116 : x4_1 < (l0.length : Int) := of_decide_eq_true (by first | (with_reducible assumption) | assumption)
                                    obtain ⟨ad116, A116_4, c116_4, A116_5, c116_5, e116, hx116_0, hx116_1, hx116_2, hx116_3, hx116_4, hx116_5, hl116_4, hi116_4, hl116_5, hi116_5⟩ := at_T30 HR0.out x4_1 p116 q116
                                    obtain rfl : ad113 = ad116 := (by injection e116)
                                    have HR116_4 := Aside0.mk hi116_4
                                    have HC116_4 := Aside0.mk hl116_4
                                    clear hi116_4 hl116_4
                                    have HR116_5 := Aside0.mk hi116_5
                                    have HC116_5 := Aside0.mk hl116_5
                                    clear hi116_5 hl116_5
                                    replace p116 := eq_true p116
                                    replace q116 := eq_true q116
                                    have p117 : 0 ≤ (x5_3 : Int) := of_decide_eq_true (by first | (with_reducible assumption) | assumption)
                                    have q117 : x5_3 < (((rd_T30 l0 x4_1).f5).length : Int) := of_decide_eq_true (by first | (with_reducible assumption) | assumption)
                                    obtain ⟨ad117, e117, hx117_0, hx117_1⟩ := at_T32 HR116_5.out x5_3 p117 q117
                                    cases e117
                                    replace p117 := eq_true p117
                                    replace q117 := eq_true q117
                                    go_wp2
                                    repeat (go_quiet (fail); try go_wp2)
                                    go_ret
                                    exact ⟨by first | rfl | (simp; done) | (simp [*]; done), by repeat (first | exact Drawn0.refl _ | apply Drawn0.step)⟩
                                  · rw [if_neg c16] at H
                                    have c16b0 : decide (1000 < (((rd_T32 ((rd_T30 l0 x4_1).f5) x5_3).f1).size : Int)) = false := decide_eq_false c16
                                    have c16b1 : decide (1000 < ((rd_T32 ((rd_T30 l0 x4_1).f5) x5_3).f1).size) = false := decide_eq_false (by omega)
                                    clear c16
                                    have H' := Aside0.mk H
                                    clear H
                                    have p116 : 0 ≤ (x4_1 : Int) := of_decide_eq_true (by first | (with_reducible assumption) | assumption)
                                    have q116 : x4_1 < (l0.length : Int) := of_decide_eq_true (by first | (with_reducible assumption) | assumption)
                                    obtain ⟨ad116, A116_4, c116_4, A116_5, c116_5, e116, hx116_0, hx116_1, hx116_2, hx116_3, hx116_4, hx116_5, hl116_4, hi116_4, hl116_5, hi116_5⟩ := at_T30 HR0.out x4_1 p116 q116
                                    obtain rfl : ad113 = ad116 := (by injection e116)
                                    have HR116_4 := Aside0.mk hi116_4
                                    have HC116_4 := Aside0.mk hl116_4
                                    clear hi116_4 hl116_4
                                    have HR116_5 := Aside0.mk hi116_5
                                    have HC116_5 := Aside0.mk hl116_5
                                    clear hi116_5 hl116_5
                                    replace p116 := eq_true p116
                                    replace q116 := eq_true q116
                                    have p117 : 0 ≤ (x5_3 : Int) := of_decide_eq_true (by first | (with_reducible assumption) | assumption)
                                    have q117 : x5_3 < (((rd_T30 l0 x4_1).f5).length : Int) := of_decide_eq_true (by first | (with_reducible assumption) | assumption)
                                    obtain ⟨ad117, e117, hx117_0, hx117_1⟩ := at_T32 HR116_5.out x5_3 p117 q117
                                    cases e117
                                    replace p117 := eq_true p117
                                    replace q117 := eq_true q117
                                    go_wp2
                                    repeat (go_quiet (fail); try go_wp2)
                                    go_roundg kj6
                                    case measure => have := HK1.out; have := HJ1.out; have := HK3.out; have := HJ6.out; omega
                                    case rel => exact ⟨(wrap64 (x5_3 + 1)), (by first | rfl | (simp; done) | (simp [*]; done)), H', ⟨by have := HK1.out; have := HJ1.out; have := HK3.out; have := HJ6.out; omega⟩, by repeat (first | exact Drawn0.refl _ | apply Drawn0.step)⟩
                                · rw [if_neg c15] at H
                                  exact absurd H (by simp)
                              · rw [if_neg c14] at H
                                exact absurd H (by simp)
                            · rw [if_neg c13] at H
                              exact absurd H (by simp)
                          · rw [if_neg c12] at H
                            exact absurd H (by simp)
                        · replace c11 := Bool.eq_false_iff.mpr c11
                          subst c11
                          have H1 : (lockgatelaw20_Big.l2 kj6 l0 (wrap64 ((wrap64 (x3_1 + (((rd_T30 l0 x4_1).f5).length : Int))) + (((rd_T30 l0 x4_1).f4).length : Int))) x4_1 0) = some r := by rw [if_neg (show ¬ (false = true) by decide)] at H; exact H
                          clear H
                          have H := H1
                          clear H1
                          have H' := Aside0.mk H
                          clear H
                          go_wp2
                          repeat (go_quiet (fail); try go_wp2)
                          go_loopg [6] kj6 (fun kq v6 w' => ∃ (x6_5 : Int), v6 = .int .i64 x6_5 ∧ Aside0 (lockgatelaw20_Big.l2 kq l0 (wrap64 ((wrap64 (x3_1 + (((rd_T30 l0 x4_1).f5).length : Int))) + (((rd_T30 l0 x4_1).f4).length : Int))) x4_1 x6_5 = some r) ∧ Aside0 (kq ≤ kj6) ∧ Drawn0 w w')
                          case atStart => exact ⟨(0), (by first | rfl | (simp; done) | (simp [*]; done)), H', ⟨Nat.le_refl _⟩, by repeat (first | exact Drawn0.refl _ | apply Drawn0.step)⟩
                          case round =>
                            clear H'
                            try clear c1
                            try clear p1
                            try clear q1
                            try clear hx1
                            try clear p2
                            try clear c3
                            try clear c3b0
                            try clear c4
                            try clear c5
                            try clear c5b0
                            try clear c6
                            try clear c6b0
                            try clear p6
                            try clear c8
                            try clear c8b0
                            try clear c9
                            try clear c9b0
                            try clear c10
                            try clear c10b0
                            try clear c11
                            try clear p11
                            try clear q11
                            try clear hx11
                            try clear c12
                            try clear c12b0
                            try clear c13
                            try clear c13b0
                            try clear c14
                            try clear c14b0
                            try clear c15
                            try clear c15b0
                            try clear c16
                            try clear c16b0
                            try clear c16b1
                            try clear hx113_0
                            try clear hx113_1
                            try clear hx113_2
                            try clear hx113_3
                            try clear hx113_4
                            try clear hx113_5
                            try clear hx114_0
                            try clear hx114_1
                            try clear hx114_2
                            try clear hx114_3
                            try clear hx114_4
                            try clear hx114_5
                            try clear hx115_0
                            try clear hx115_1
                            try clear hx115_2
                            try clear hx115_3
                            try clear hx115_4
                            try clear hx115_5
                            try clear hx116_0
                            try clear hx116_1
                            try clear hx116_2
                            try clear hx116_3
                            try clear hx116_4
                            try clear hx116_5
                            try clear hx117_0
                            try clear hx117_1
                            try clear p1
                            try clear p113
                            try clear p114
                            try clear p115
                            try clear p116
                            try clear p117
                            try clear p2
                            try clear p6
                            try clear q1
                            try clear q113
                            try clear q114
                            try clear q115
                            try clear q116
                            try clear q117
                            obtain ⟨x6_5, rfl, HA, HK5, ⟨m5, rfl⟩⟩ := hrel
                            cases gk with
                            | zero => exact absurd HA.out (by simp [lockgatelaw20_Big.l2])
                            | succ k5 =>
                              have H := HA.out
                              clear HA
                              simp only [lockgatelaw20_Big.l2] at H
                              have HC17 := Aside0.mk H
                              clear H
                              go_upto_region 12 with (fail)
                              repeat (go_quiet (fail); go_upto_region 12 with (fail))
                              go_cut [70] (fun v70 wc => ∃ (kq : Nat) (x70_16 : Bool), v70 = .bool x70_16 ∧ Aside0 (lockgatelaw20_Big.j5 kq l0 (wrap64 ((wrap64 (x3_1 + (((rd_T30 l0 x4_1).f5).length : Int))) + (((rd_T30 l0 x4_1).f4).length : Int))) x4_1 x6_5 x70_16 = some r) ∧ Aside0 (kq ≤ k5) ∧ Drawn0 w wc)
                              case first =>
                                have H := HC17.out
                                clear HC17
                                by_cases c18 : 0 ≤ x4_1
                                · rw [if_pos c18] at H
                                  have c18b0 : decide (0 ≤ x4_1) = true := decide_eq_true c18
                                  clear c18
                                  (first | rw [c18b0] | (simp only [i64_w, i32_w]; rw [c18b0]) | skip)
                                  by_cases c19 : x4_1 < (l0.length : Int)
                                  · rw [if_pos c19] at H
                                    have c19b0 : decide (x4_1 < (l0.length : Int)) = true := decide_eq_true c19
                                    clear c19
                                    by_cases c20 : x6_5 < (((rd_T30 l0 x4_1).f4).length : Int)
                                    · rw [if_pos c20] at H
                                      have c20b0 : decide (x6_5 < (((rd_T30 l0 x4_1).f4).length : Int)) = true := decide_eq_true c20
                                      clear c20
                                      have H' := Aside0.mk H
                                      clear H
                                      have p118 : 0 ≤ (x4_1 : Int) := of_decide_eq_true (by first | (with_reducible assumption) | assumption)
                                      have q118 : x4_1 < (l0.length : Int) := of_decide_eq_true (by first | (with_reducible assumption) | assumption)
                                      obtain ⟨ad118, A118_4, c118_4, A118_5, c118_5, e118, hx118_0, hx118_1, hx118_2, hx118_3, hx118_4, hx118_5, hl118_4, hi118_4, hl118_5, hi118_5⟩ := at_T30 HR0.out x4_1 p118 q118
                                      obtain rfl : ad113 = ad118 := (by injection e118)
                                      have HR118_4 := Aside0.mk hi118_4
                                      have HC118_4 := Aside0.mk hl118_4
                                      clear hi118_4 hl118_4
                                      have HR118_5 := Aside0.mk hi118_5
                                      have HC118_5 := Aside0.mk hl118_5
                                      clear hi118_5 hl118_5
                                      replace p118 := eq_true p118
                                      replace q118 := eq_true q118
                                      go_wp2
                                      repeat (go_quiet (fail); try go_wp2)
                                      go_meet
                                      case rel => exact ⟨_, (decide (x6_5 < 500)), (by first | rfl | (simp; done) | (simp [*]; done)), H', ⟨by have := HK1.out; have := HJ1.out; have := HK3.out; have := HJ6.out; have := HK5.out; first | omega | exact Nat.le_refl _⟩, by repeat (first | exact Drawn0.refl _ | apply Drawn0.step)⟩
                                    · rw [if_neg c20] at H
                                      have c20b0 : decide (x6_5 < (((rd_T30 l0 x4_1).f4).length : Int)) = false := decide_eq_false c20
                                      clear c20
                                      have H' := Aside0.mk H
                                      clear H
                                      have p118 : 0 ≤ (x4_1 : Int) := of_decide_eq_true (by first | (with_reducible assumption) | assumption)
                                      have q118 : x4_1 < (l0.length : Int) := of_decide_eq_true (by first | (with_reducible assumption) | assumption)
                                      obtain ⟨ad118, A118_4, c118_4, A118_5, c118_5, e118, hx118_0, hx118_1, hx118_2, hx118_3, hx118_4, hx118_5, hl118_4, hi118_4, hl118_5, hi118_5⟩ := at_T30 HR0.out x4_1 p118 q118
                                      obtain rfl : ad113 = ad118 := (by injection e118)
                                      have HR118_4 := Aside0.mk hi118_4
                                      have HC118_4 := Aside0.mk hl118_4
                                      clear hi118_4 hl118_4
                                      have HR118_5 := Aside0.mk hi118_5
                                      have HC118_5 := Aside0.mk hl118_5
                                      clear hi118_5 hl118_5
                                      replace p118 := eq_true p118
                                      replace q118 := eq_true q118
                                      go_wp2
                                      repeat (go_quiet (fail); try go_wp2)
                                      go_meet
                                      case rel => exact ⟨_, (false), (by first | rfl | (simp; done) | (simp [*]; done)), H', ⟨by have := HK1.out; have := HJ1.out; have := HK3.out; have := HJ6.out; have := HK5.out; first | omega | exact Nat.le_refl _⟩, by repeat (first | exact Drawn0.refl _ | apply Drawn0.step)⟩
                                  · rw [if_neg c19] at H
                                    exact absurd H (by simp)
                                · rw [if_neg c18] at H
                                  exact absurd H (by simp)
                              case rest =>
                                clear HC17
                                try clear c1
                                try clear p1
                                try clear q1
                                try clear hx1
                                try clear c2
                                try clear p2
                                try clear c3
                                try clear c3b0
                                try clear c4
                                try clear c5
                                try clear c5b0
                                try clear c6
                                try clear c6b0
                                try clear p6
                                try clear c8
                                try clear c8b0
                                try clear c9
                                try clear c9b0
                                try clear c10
                                try clear c10b0
                                try clear c11
                                try clear p11
                                try clear q11
                                try clear hx11
                                try clear c12
                                try clear c12b0
                                try clear c13
                                try clear c13b0
                                try clear c14
                                try clear c14b0
                                try clear c15
                                try clear c15b0
                                try clear c16
                                try clear c16b0
                                try clear c16b1
                                try clear c18
                                try clear c18b0
                                try clear c19
                                try clear c19b0
                                try clear c20
                                try clear c20b0
                                try clear hx113_0
                                try clear hx113_1
                                try clear hx113_2
                                try clear hx113_3
                                try clear hx113_4
                                try clear hx113_5
                                try clear hx114_0
                                try clear hx114_1
                                try clear hx114_2
                                try clear hx114_3
                                try clear hx114_4
                                try clear hx114_5
                                try clear hx115_0
                                try clear hx115_1
                                try clear hx115_2
                                try clear hx115_3
                                try clear hx115_4
                                try clear hx115_5
                                try clear hx116_0
                                try clear hx116_1
                                try clear hx116_2
                                try clear hx116_3
                                try clear hx116_4
                                try clear hx116_5
                                try clear hx117_0
                                try clear hx117_1
                                try clear hx118_0
                                try clear hx118_1
                                try clear hx118_2
                                try clear hx118_3
                                try clear hx118_4
                                try clear hx118_5
                                try clear p1
                                try clear p11
                                try clear p113
                                try clear p114
                                try clear p115
                                try clear p116
                                try clear p117
                                try clear p118
                                try clear p2
                                try clear p6
                                try clear q1
                                try clear q11
                                try clear q113
                                try clear q114
                                try clear q115
                                try clear q116
                                try clear q117
                                try clear q118
                                obtain ⟨kq, x70_16, rfl, HA, HJ16, ⟨mc16, rfl⟩⟩ := hcut
                                cases kq with
                                | zero => exact absurd HA.out (by simp [lockgatelaw20_Big.j5])
                                | succ kj16 =>
                                  have H := HA.out
                                  clear HA
                                  simp only [lockgatelaw20_Big.j5] at H
                                  by_cases c21 : x70_16 = true
                                  · subst c21
                                    have H1 : (if 0 ≤ x4_1 then (if x4_1 < (l0.length : Int) then (if 0 ≤ x6_5 then (if x6_5 < (((rd_T30 l0 x4_1).f4).length : Int) then (if (((rd_T35 ((rd_T30 l0 x4_1).f4) x6_5).f1).length : Int) > 2000 then (some true) else (lockgatelaw20_Big.l2 kj16 l0 (wrap64 ((wrap64 (x3_1 + (((rd_T30 l0 x4_1).f5).length : Int))) + (((rd_T30 l0 x4_1).f4).length : Int))) x4_1 (wrap64 (x6_5 + 1)))) else (none)) else (none)) else (none)) else (none)) = some r := by rw [if_pos rfl] at H; exact H
                                    clear H
                                    have H := H1
                                    clear H1
                                    by_cases c22 : 0 ≤ x4_1
                                    · rw [if_pos c22] at H
                                      have c22b0 : decide (0 ≤ x4_1) = true := decide_eq_true c22
                                      clear c22
                                      by_cases c23 : x4_1 < (l0.length : Int)
                                      · rw [if_pos c23] at H
                                        have c23b0 : decide (x4_1 < (l0.length : Int)) = true := decide_eq_true c23
                                        clear c23
                                        by_cases c24 : 0 ≤ x6_5
                                        · rw [if_pos c24] at H
                                          have c24b0 : decide (0 ≤ x6_5) = true := decide_eq_true c24
                                          clear c24
                                          by_cases c25 : x6_5 < (((rd_T30 l0 x4_1).f4).length : Int)
                                          · rw [if_pos c25] at H
                                            have c25b0 : decide (x6_5 < (((rd_T30 l0 x4_1).f4).length : Int)) = true := decide_eq_true c25
                                            clear c25
                                            by_cases c26 : (((rd_T35 ((rd_T30 l0 x4_1).f4) x6_5).f1).length : Int) > 2000
                                            · rw [if_pos c26] at H
                                              have c26b0 : decide (2000 < (((rd_T35 ((rd_T30 l0 x4_1).f4) x6_5).f1).length : Int)) = true := decide_eq_true c26
                                              have c26b1 : decide (2000 < ((rd_T35 ((rd_T30 l0 x4_1).f4) x6_5).f1).length) = true := decide_eq_true (by omega)
                                              clear c26
                                              obtain rfl := Option.some.inj H
                                              have p119 : 0 ≤ (x4_1 : Int) := of_decide_eq_true (by first | (with_reducible assumption) | assumption)
                                              have q119 : x4_1 < (l0.length : Int) := of_decide_eq_true (by first | (with_reducible assumption) | assumption)
                                              obtain ⟨ad119, A119_4, c119_4, A119_5, c119_5, e119, hx119_0, hx119_1, hx119_2, hx119_3, hx119_4, hx119_5, hl119_4, hi119_4, hl119_5, hi119_5⟩ := at_T30 HR0.out x4_1 p119 q119
                                              obtain rfl : ad113 = ad119 := (by injection e119)
                                              have HR119_4 := Aside0.mk hi119_4
                                              have HC119_4 := Aside0.mk hl119_4
                                              clear hi119_4 hl119_4
                                              have HR119_5 := Aside0.mk hi119_5
                                              have HC119_5 := Aside0.mk hl119_5
                                              clear hi119_5 hl119_5
                                              replace p119 := eq_true p119
                                              replace q119 := eq_true q119
                                              have p120 : 0 ≤ (x6_5 : Int) := of_decide_eq_true (by first | (with_reducible assumption) | assumption)
                                              have q120 : x6_5 < (((rd_T30 l0 x4_1).f4).length : Int) := of_decide_eq_true (by first | (with_reducible assumption) | assumption)
                                              obtain ⟨ad120, A120_1, c120_1, e120, hx120_0, hx120_1, hl120_1, hi120_1⟩ := at_T35 HR119_4.out x6_5 p120 q120
                                              cases e120
                                              have HR120_1 := Aside0.mk hi120_1
                                              have HC120_1 := Aside0.mk hl120_1
                                              clear hi120_1 hl120_1
                                              replace p120 := eq_true p120
                                              replace q120 := eq_true q120
                                              go_wp2
                                              repeat (go_quiet (fail); try go_wp2)
                                              go_ret
                                              exact ⟨by first | rfl | (simp; done) | (simp [*]; done), by repeat (first | exact Drawn0.refl _ | apply Drawn0.step)⟩
                                            · rw [if_neg c26] at H
                                              have c26b0 : decide (2000 < (((rd_T35 ((rd_T30 l0 x4_1).f4) x6_5).f1).length : Int)) = false := decide_eq_false c26
                                              have c26b1 : decide (2000 < ((rd_T35 ((rd_T30 l0 x4_1).f4) x6_5).f1).length) = false := decide_eq_false (by omega)
                                              clear c26
                                              have H' := Aside0.mk H
                                              clear H
                                              have p119 : 0 ≤ (x4_1 : Int) := of_decide_eq_true (by first | (with_reducible assumption) | assumption)
                                              have q119 : x4_1 < (l0.length : Int) := of_decide_eq_true (by first | (with_reducible assumption) | assumption)
                                              obtain ⟨ad119, A119_4, c119_4, A119_5, c119_5, e119, hx119_0, hx119_1, hx119_2, hx119_3, hx119_4, hx119_5, hl119_4, hi119_4, hl119_5, hi119_5⟩ := at_T30 HR0.out x4_1 p119 q119
                                              obtain rfl : ad113 = ad119 := (by injection e119)
                                              have HR119_4 := Aside0.mk hi119_4
                                              have HC119_4 := Aside0.mk hl119_4
                                              clear hi119_4 hl119_4
                                              have HR119_5 := Aside0.mk hi119_5
                                              have HC119_5 := Aside0.mk hl119_5
                                              clear hi119_5 hl119_5
                                              replace p119 := eq_true p119
                                              replace q119 := eq_true q119
                                              have p120 : 0 ≤ (x6_5 : Int) := of_decide_eq_true (by first | (with_reducible assumption) | assumption)
                                              have q120 : x6_5 < (((rd_T30 l0 x4_1).f4).length : Int) := of_decide_eq_true (by first | (with_reducible assumption) | assumption)
                                              obtain ⟨ad120, A120_1, c120_1, e120, hx120_0, hx120_1, hl120_1, hi120_1⟩ := at_T35 HR119_4.out x6_5 p120 q120
                                              cases e120
                                              have HR120_1 := Aside0.mk hi120_1
                                              have HC120_1 := Aside0.mk hl120_1
                                              clear hi120_1 hl120_1
                                              replace p120 := eq_true p120
                                              replace q120 := eq_true q120
                                              go_wp2
                                              repeat (go_quiet (fail); try go_wp2)
                                              go_roundg kj16
                                              case measure => have := HK1.out; have := HJ1.out; have := HK3.out; have := HJ6.out; have := HK5.out; have := HJ16.out; omega
                                              case rel => exact ⟨(wrap64 (x6_5 + 1)), (by first | rfl | (simp; done) | (simp [*]; done)), H', ⟨by have := HK1.out; have := HJ1.out; have := HK3.out; have := HJ6.out; have := HK5.out; have := HJ16.out; omega⟩, by repeat (first | exact Drawn0.refl _ | apply Drawn0.step)⟩
                                          · rw [if_neg c25] at H
                                            exact absurd H (by simp)
                                        · rw [if_neg c24] at H
                                          exact absurd H (by simp)
                                      · rw [if_neg c23] at H
                                        exact absurd H (by simp)
                                    · rw [if_neg c22] at H
                                      exact absurd H (by simp)
                                  · replace c21 := Bool.eq_false_iff.mpr c21
                                    subst c21
                                    have H1 : (lockgatelaw20_Big.l0 kj16 l0 (wrap64 ((wrap64 (x3_1 + (((rd_T30 l0 x4_1).f5).length : Int))) + (((rd_T30 l0 x4_1).f4).length : Int))) (wrap64 (x4_1 + 1))) = some r := by rw [if_neg (show ¬ (false = true) by decide)] at H; exact H
                                    clear H
                                    have H := H1
                                    clear H1
                                    have H' := Aside0.mk H
                                    clear H
                                    go_wp2
                                    repeat (go_quiet (fail); try go_wp2)
                                    go_roundg kj16
                                    case measure => have := HK1.out; have := HJ1.out; have := HK3.out; have := HJ6.out; have := HK5.out; have := HJ16.out; omega
                                    case rel => exact ⟨((wrap64 ((wrap64 (x3_1 + (((rd_T30 l0 x4_1).f5).length : Int))) + (((rd_T30 l0 x4_1).f4).length : Int)))), (wrap64 (x4_1 + 1)), (by first | rfl | (simp; done) | (simp [*]; done)), (by first | rfl | (simp; done) | (simp [*]; done)), H', ⟨by have := HK1.out; have := HJ1.out; have := HK3.out; have := HJ6.out; have := HK5.out; have := HJ16.out; omega⟩, by repeat (first | exact Drawn0.refl _ | apply Drawn0.step)⟩
              · rw [if_neg c6] at H
                exact absurd H (by simp)
            · rw [if_neg c5] at H
              exact absurd H (by simp)
          · replace c4 := Bool.eq_false_iff.mpr c4
            subst c4
            have H1 : (some (decide (x3_1 > 500))) = some r := by rw [if_neg (show ¬ (false = true) by decide)] at H; exact H
            clear H
            have H := H1
            clear H1
            obtain rfl := Option.some.inj H
            go_wp2
            repeat (go_quiet (fail); try go_wp2)
            go_ret
            exact ⟨by first | rfl | (simp; done) | (simp [*]; done), by repeat (first | exact Drawn0.refl _ | apply Drawn0.step)⟩

end Go.Proofs.Ytnmlmbbacicojaa.PWalkSame
