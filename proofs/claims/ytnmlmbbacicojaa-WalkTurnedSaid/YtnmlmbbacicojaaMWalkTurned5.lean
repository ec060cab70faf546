/-
  The machine side of functions of a law, written by a program of this session out of the translation (see hp.py).
-/
import Derived.Test.YtnmlmbbacicojaaMWalkTurned4
namespace Go.Proofs.Ytnmlmbbacicojaa.PWalkSame
open Go.RowKit Go.Proofs.YtnmlmbbacicojaaW.PrintWords Go.Proofs.YtnmlmbbacicojaaW.PrintLast Go.Proofs.YtnmlmbbacicojaaW.PrintMore
attribute [local go_sem] max2_int min2_int max_two min_two max_three min_three max_four min_four   -- for this text's walks alone
set_option linter.unusedVariables false
set_option linter.unusedSimpArgs false

/-! ### lockgateref20_Renumber: function 14 -/
mutual
def lockgateref20_Renumber.l0 : Nat → List (S30) → List Int → List Int → List (S30) → Int → Option ((List (S30)))
  | 0, _, _, _, _, _ => none
  | k + 1, x0, x4, x5, x6, x7 => if x7 < (x5.length : Int) then (if 0 ≤ x7 then (if 0 ≤ (rd x5 x7) then (if (rd x5 x7) < (x0.length : Int) then ((lockgateref20_copied.f k ((rd_T30 x0 (rd x5 x7)).f0) ((rd_T30 x0 (rd x5 x7)).f1) ((rd_T30 x0 (rd x5 x7)).f2) ((rd_T30 x0 (rd x5 x7)).f3) ((rd_T30 x0 (rd x5 x7)).f4) ((rd_T30 x0 (rd x5 x7)).f5)).bind fun bt125 => (lockgateref20_Renumber.l1 k x0 x4 x5 x6 x7 0 (wrap64 (x7 + 1)) bt125.2.1 bt125.2.2.1 bt125.2.2.2.1 bt125.2.2.2.2.1 bt125.2.2.2.2.2)) else (none)) else (none)) else (none)) else (some x6)
def lockgateref20_Renumber.l1 : Nat → List (S30) → List Int → List Int → List (S30) → Int → Int → Int → Int → Int → Int → List (S35) → List (S32) → Option ((List (S30)))
  | 0, _, _, _, _, _, _, _, _, _, _, _, _ => none
  | k + 1, x0, x4, x5, x6, x7, x9, x136000, x136001, x136002, x136003, x136004, x136005 => if x9 < (x136005.length : Int) then (if 0 ≤ x9 then (if ((rd_T32 x136005 x9).f0) = 0 then (lockgateref20_Renumber.j2 k x0 x4 x5 x6 x7 x9 (-1) x136000 x136001 x136002 x136003 x136004 x136005) else ((lockgateref20_At.f k x0 ((rd_T32 x136005 x9).f0)).bind fun t141 => (lockgateref20_Renumber.j2 k x0 x4 x5 x6 x7 x9 t141 x136000 x136001 x136002 x136003 x136004 x136005))) else (none)) else (if x6.length < 1759218604441 then (lockgateref20_Renumber.l0 k x0 x4 x5 (x6 ++ [(⟨x136000, x136001, x136002, x136003, x136004, x136005⟩ : S30)]) (wrap64 (x7 + 1))) else (none))
def lockgateref20_Renumber.j2 : Nat → List (S30) → List Int → List Int → List (S30) → Int → Int → Int → Int → Int → Int → Int → List (S35) → List (S32) → Option ((List (S30)))
  | 0, _, _, _, _, _, _, _, _, _, _, _, _, _ => none
  | k + 1, x0, x4, x5, x6, x7, x9, x10, x136000, x136001, x136002, x136003, x136004, x136005 => if x10 < 0 then (if 0 ≤ x9 then (if x9 < (x136005.length : Int) then (lockgateref20_Renumber.l1 k x0 x4 x5 x6 x7 (wrap64 (x9 + 1)) x136000 x136001 x136002 x136003 x136004 (x136005.set (x9 : Int).toNat (⟨0, (⟨#[]⟩ : ByteArray)⟩ : S32))) else (none)) else (none)) else (if 0 ≤ x10 then (if x10 < (x4.length : Int) then (if (rd x4 x10) = 0 then (if x5.length < 17592186044416 then ((some (x5 ++ [x10] : List Int)).bind fun y144 => ((some (x4.set (x10 : Int).toNat (y144.length : Int) : List Int)).bind fun y147 => (if 0 ≤ x9 then (if x9 < (x136005.length : Int) then (lockgateref20_Renumber.l1 k x0 y147 y144 x6 x7 (wrap64 (x9 + 1)) x136000 x136001 x136002 x136003 x136004 (x136005.set (x9 : Int).toNat (⟨rd y147 x10, (rd_T32 x136005 x9).f1⟩ : S32))) else (none)) else (none)))) else (none)) else (if 0 ≤ x9 then (if x9 < (x136005.length : Int) then (lockgateref20_Renumber.l1 k x0 x4 x5 x6 x7 (wrap64 (x9 + 1)) x136000 x136001 x136002 x136003 x136004 (x136005.set (x9 : Int).toNat (⟨rd x4 x10, (rd_T32 x136005 x9).f1⟩ : S32))) else (none)) else (none))) else (none)) else (none))
end
def lockgateref20_Renumber.f (k : Nat) (l0 : List (S30)) : Option ((List (S30))) := (lockgateref20_At.f k l0 1).bind fun t115 => (if t115 < 0 then (some ([] : List (S30))) else (if 0 ≤ (l0.length : Int) then (if ((l0.length : Int) : Int).toNat ≤ 35184372088832 then ((some (List.replicate ((l0.length : Int) : Int).toNat 0 : List Int)).bind fun y116 => (if 0 ≤ t115 then (if t115 < (y116.length : Int) then (lockgateref20_Renumber.l0 k l0 (y116.set (t115 : Int).toNat 1) (([t115] : List Int)) ([] : List (S30)) 0) else (none)) else (none))) else (none)) else (none)))
theorem lockgateref20_Renumber.mono_l : ∀ k, (∀ y0 y1 y2 y3 y4, LeO (lockgateref20_Renumber.l0 k y0 y1 y2 y3 y4) (lockgateref20_Renumber.l0 (k + 1) y0 y1 y2 y3 y4)) ∧ (∀ y0 y1 y2 y3 y4 y5 y6 y7 y8 y9 y10 y11, LeO (lockgateref20_Renumber.l1 k y0 y1 y2 y3 y4 y5 y6 y7 y8 y9 y10 y11) (lockgateref20_Renumber.l1 (k + 1) y0 y1 y2 y3 y4 y5 y6 y7 y8 y9 y10 y11)) ∧ (∀ y0 y1 y2 y3 y4 y5 y6 y7 y8 y9 y10 y11 y12, LeO (lockgateref20_Renumber.j2 k y0 y1 y2 y3 y4 y5 y6 y7 y8 y9 y10 y11 y12) (lockgateref20_Renumber.j2 (k + 1) y0 y1 y2 y3 y4 y5 y6 y7 y8 y9 y10 y11 y12))
  | 0 => ⟨fun _ _ _ _ _ r h => by simp [lockgateref20_Renumber.l0] at h, fun _ _ _ _ _ _ _ _ _ _ _ _ r h => by simp [lockgateref20_Renumber.l1] at h, fun _ _ _ _ _ _ _ _ _ _ _ _ _ r h => by simp [lockgateref20_Renumber.j2] at h⟩
  | k + 1 => by
    obtain ⟨ih0, ih1, ih2⟩ := lockgateref20_Renumber.mono_l k
    refine ⟨?_, ?_, ?_⟩
    · intro y0 y1 y2 y3 y4
      unfold lockgateref20_Renumber.l0
      repeat' first
      | (with_reducible exact ih0 _ _ _ _ _)
      | (with_reducible exact ih1 _ _ _ _ _ _ _ _ _ _ _ _)
      | (with_reducible exact ih2 _ _ _ _ _ _ _ _ _ _ _ _ _)
      | (with_reducible exact lockgateref20_At.mono _ _ _)
      | (with_reducible exact lockgateref20_copied.mono _ _ _ _ _ _ _)
      | (with_reducible exact LeO.refl _)
      | (with_reducible exact LeO.none _)
      | (with_reducible refine LeO.ite ?_ ?_)
      | (with_reducible refine LeO.bind ?_ (fun _ => ?_))
      | exact ih0 _ _ _ _ _
      | exact ih1 _ _ _ _ _ _ _ _ _ _ _ _
      | exact ih2 _ _ _ _ _ _ _ _ _ _ _ _ _
      | exact lockgateref20_At.mono _ _ _
      | exact lockgateref20_copied.mono _ _ _ _ _ _ _
      | exact LeO.none _
      | refine LeO.ite ?_ ?_
      | refine LeO.bind ?_ (fun _ => ?_)
    · intro y0 y1 y2 y3 y4 y5 y6 y7 y8 y9 y10 y11
      unfold lockgateref20_Renumber.l1
      repeat' first
      | (with_reducible exact ih0 _ _ _ _ _)
      | (with_reducible exact ih1 _ _ _ _ _ _ _ _ _ _ _ _)
      | (with_reducible exact ih2 _ _ _ _ _ _ _ _ _ _ _ _ _)
      | (with_reducible exact lockgateref20_At.mono _ _ _)
      | (with_reducible exact lockgateref20_copied.mono _ _ _ _ _ _ _)
      | (with_reducible exact LeO.refl _)
      | (with_reducible exact LeO.none _)
      | (with_reducible refine LeO.ite ?_ ?_)
      | (with_reducible refine LeO.bind ?_ (fun _ => ?_))
      | exact ih0 _ _ _ _ _
      | exact ih1 _ _ _ _ _ _ _ _ _ _ _ _
      | exact ih2 _ _ _ _ _ _ _ _ _ _ _ _ _
      | exact lockgateref20_At.mono _ _ _
      | exact lockgateref20_copied.mono _ _ _ _ _ _ _
      | exact LeO.none _
      | refine LeO.ite ?_ ?_
      | refine LeO.bind ?_ (fun _ => ?_)
    · intro y0 y1 y2 y3 y4 y5 y6 y7 y8 y9 y10 y11 y12
      unfold lockgateref20_Renumber.j2
      repeat' first
      | (with_reducible exact ih0 _ _ _ _ _)
      | (with_reducible exact ih1 _ _ _ _ _ _ _ _ _ _ _ _)
      | (with_reducible exact ih2 _ _ _ _ _ _ _ _ _ _ _ _ _)
      | (with_reducible exact lockgateref20_At.mono _ _ _)
      | (with_reducible exact lockgateref20_copied.mono _ _ _ _ _ _ _)
      | (with_reducible exact LeO.refl _)
      | (with_reducible exact LeO.none _)
      | (with_reducible refine LeO.ite ?_ ?_)
      | (with_reducible refine LeO.bind ?_ (fun _ => ?_))
      | exact ih0 _ _ _ _ _
      | exact ih1 _ _ _ _ _ _ _ _ _ _ _ _
      | exact ih2 _ _ _ _ _ _ _ _ _ _ _ _ _
      | exact lockgateref20_At.mono _ _ _
      | exact lockgateref20_copied.mono _ _ _ _ _ _ _
      | exact LeO.none _
      | refine LeO.ite ?_ ?_
      | refine LeO.bind ?_ (fun _ => ?_)
theorem lockgateref20_Renumber.mono : ∀ a0 k, LeO (lockgateref20_Renumber.f k a0) (lockgateref20_Renumber.f (k + 1) a0) := by
  intro a0 k
  obtain ⟨ih0, ih1, ih2⟩ := lockgateref20_Renumber.mono_l k
  unfold lockgateref20_Renumber.f
  repeat' first
      | (with_reducible exact ih0 _ _ _ _ _)
      | (with_reducible exact ih1 _ _ _ _ _ _ _ _ _ _ _ _)
      | (with_reducible exact ih2 _ _ _ _ _ _ _ _ _ _ _ _ _)
      | (with_reducible exact lockgateref20_At.mono _ _ _)
      | (with_reducible exact lockgateref20_copied.mono _ _ _ _ _ _ _)
      | (with_reducible exact LeO.refl _)
      | (with_reducible exact LeO.none _)
      | (with_reducible refine LeO.ite ?_ ?_)
      | (with_reducible refine LeO.bind ?_ (fun _ => ?_))
      | exact ih0 _ _ _ _ _
      | exact ih1 _ _ _ _ _ _ _ _ _ _ _ _
      | exact ih2 _ _ _ _ _ _ _ _ _ _ _ _ _
      | exact lockgateref20_At.mono _ _ _
      | exact lockgateref20_copied.mono _ _ _ _ _ _ _
      | exact LeO.none _
      | refine LeO.ite ?_ ?_
      | refine LeO.bind ?_ (fun _ => ?_)
def lockgateref20_Renumber.T24 : Bool × List (List Nat × List Nat) := (true, [([], []), ([0], [0]), ([], []), ([], []), ([], []), ([3, 4], [3, 4]), ([5], [5]), ([1, 2, 0, 1, 2, 3, 4, 5, 6], [1, 2]), ([7, 0, 1, 2, 3, 4, 5, 6], [7]), ([8, 6, 0, 1, 2, 3, 4, 5, 6], [6, 8])])
def lockgateref20_Renumber.B24 : List Nat := [0, 1, 0, 0, 0, 24, 56, 127, 255, 511]
theorem lockgateref20_Renumber.tab24 : rtab .any (opsOf Try.f14 24) = lockgateref20_Renumber.T24 := by kernel_rfl
theorem lockgateref20_Renumber.bits24 : waitsOk lockgateref20_Renumber.T24.2 lockgateref20_Renumber.B24 = true := by kernel_rfl
set_option maxHeartbeats 8000000 in
set_option maxRecDepth 100000 in
theorem lockgateref20_Renumber.calls (k : Nat) (A0 : Option Addr) (c0 : Nat) (l0 : List (S30)) (r : List (S30)) (w : World) (hr0 : Kd.C k30 w A0 l0.length l0) (hc0 : l0.length ≤ c0) (h : lockgateref20_Renumber.f k l0 = some r) :
    Calls Try.prog 14 #[.slice A0 l0.length c0] w fun e w' => ∃ v0_ : Value, e = .returned (v0_) ∧ Kd.R k30 30 w' w.heap.size (fun _ => True) v0_ r ∧ Below w.heap.size w w' := by
  have hu30 := Try.underlying30
  have hu32 := Try.underlying32
  have HR0 := Aside0.mk hr0
  have HC0 := Aside0.mk hc0
  clear hr0 hc0
  have HB := Aside0.mk (Below.refl w.heap.size w)
  have H : ((lockgateref20_At.f k l0 1).bind fun t115 => (if t115 < 0 then (some ([] : List (S30))) else (if 0 ≤ (l0.length : Int) then (if ((l0.length : Int) : Int).toNat ≤ 35184372088832 then ((some (List.replicate ((l0.length : Int) : Int).toNat 0 : List Int)).bind fun y116 => (if 0 ≤ t115 then (if t115 < (y116.length : Int) then (lockgateref20_Renumber.l0 k l0 (y116.set (t115 : Int).toNat 1) (([t115] : List Int)) ([] : List (S30)) 0) else (none)) else (none))) else (none)) else (none)))) = some r := h
  clear h
  replace H := Option.bind_eq_some_iff.mp H
  obtain ⟨t115, A20, H⟩ := H
  replace H : (if t115 < 0 then (some ([] : List (S30))) else (if 0 ≤ (l0.length : Int) then (if ((l0.length : Int) : Int).toNat ≤ 35184372088832 then ((some (List.replicate ((l0.length : Int) : Int).toNat 0 : List Int)).bind fun y116 => (if 0 ≤ t115 then (if t115 < (y116.length : Int) then (lockgateref20_Renumber.l0 k l0 (y116.set (t115 : Int).toNat 1) (([t115] : List Int)) ([] : List (S30)) 0) else (none)) else (none))) else (none)) else (none))) = some r := H
  have A2 := Aside0.mk A20
  clear A20
  by_cases c3 : t115 < 0
  · rw [if_pos c3] at H
    have c3b0 : decide (t115 < 0) = true := decide_eq_true c3
    clear c3
    obtain rfl := Option.some.inj H
    go_enter Try.func14, Try.ntmps14
    go_wp2_with (first | ((with_reducible refine gate_callee (f := 15) rfl ?_); refine goesL_ (some 12) rfl rfl Try.func15 (by kernel_rfl) rfl #[.slice A0 l0.length c0, .int .i64 1] rfl (by (try simp only [List.map_toArray, List.map_cons, List.map_nil]); first | done | rfl | (simp only [List.length_drop, List.length_take]; rfl)) ?_; (with_reducible refine (lockgateref20_At.calls k _ _ l0 1 t115 _ ?side1 ?side2 A2.out).mono ?_); (case side1 => repeat (first | exact HR0.out | (with_reducible refine Kd.C_alloc ?_ _) | (with_reducible refine Kd.C_drewN ?_ _) | (with_reducible refine Kd.C_drew ?_))); (case side2 => exact HC0.out); rintro e w' ⟨rfl, ⟨nd, rfl⟩⟩; refine ⟨_, rfl, ?_⟩))
    go_ret
    exact ⟨_, by first | rfl | (simp [errW_none, errW_some] <;> rfl) | (simp [*, errW_none, errW_some] <;> rfl), by first | exact Kd.R_nil _ _ _ _ _ | exact Kd.N_nil _ _ _ _ _ | exact Kd.V_nil _ _ _ _ _ | exact Kd.Q_nil _ _ _ _ _ | exact Kd.S_nil _ _ _ _ _, by repeat (first | (with_reducible first | exact HB.out | apply below_alloc | apply pw_below_drewN | apply below_drew1) | exact HB.out)⟩
  · rw [if_neg c3] at H
    have c3b0 : decide (t115 < 0) = false := decide_eq_false c3
    clear c3
    by_cases c4 : 0 ≤ (l0.length : Int)
    · rw [if_pos c4] at H
      have c4b0 := eq_true c4
      have c4b1 : decide (0 ≤ (l0.length : Int)) = true := decide_eq_true c4
      clear c4
      by_cases c5 : ((l0.length : Int) : Int).toNat ≤ 35184372088832
      · rw [if_pos c5] at H
        have c5b0 := eq_true c5
        have c5b1 : decide (((l0.length : Int) : Int).toNat ≤ 35184372088832) = true := decide_eq_true c5
        clear c5
        obtain ⟨y116, hy116⟩ : ∃ y_ : List Int, y_ = (List.replicate ((l0.length : Int) : Int).toNat 0) := ⟨_, rfl⟩
        replace H : (if 0 ≤ t115 then (if t115 < (y116.length : Int) then (lockgateref20_Renumber.l0 k l0 (y116.set (t115 : Int).toNat 1) (([t115] : List Int)) ([] : List (S30)) 0) else (none)) else (none)) = some r := by first | (rw [hy116]; with_reducible exact H) | (have H2_ := (Option.bind_some _ _).symm.trans H; rw [hy116]; with_reducible exact H2_) | (have H2_ := (Option.bind_some _ _).symm.trans H; with_reducible exact H2_) | with_reducible exact H | (rw [hy116]; exact H) | exact H
        have Ny116 := Aside0.mk hy116
        clear hy116
        obtain ⟨y119, hy119⟩ : ∃ y_ : List Int, y_ = (([t115] : List Int)) := ⟨_, rfl⟩
        replace H : (if 0 ≤ t115 then (if t115 < (y116.length : Int) then (lockgateref20_Renumber.l0 k l0 (y116.set (t115 : Int).toNat 1) y119 ([] : List (S30)) 0) else (none)) else (none)) = some r := by first | (rw [hy119]; with_reducible exact H) | (have H2_ := (Option.bind_some _ _).symm.trans H; rw [hy119]; with_reducible exact H2_) | (have H2_ := (Option.bind_some _ _).symm.trans H; with_reducible exact H2_) | with_reducible exact H | (rw [hy119]; exact H) | exact H
        have Ny119 := Aside0.mk hy119
        clear hy119
        by_cases c6 : 0 ≤ t115
        · rw [if_pos c6] at H
          have c6b0 : decide (0 ≤ t115) = true := decide_eq_true c6
          clear c6
          by_cases c7 : t115 < (y116.length : Int)
          · rw [if_pos c7] at H
            have c7b0 : decide (t115 < (y116.length : Int)) = true := decide_eq_true c7
            clear c7
            obtain ⟨y122, hy122⟩ : ∃ y_ : List Int, y_ = (y116.set (t115 : Int).toNat 1) := ⟨_, rfl⟩
            replace H : (lockgateref20_Renumber.l0 k l0 y122 y119 ([] : List (S30)) 0) = some r := by first | (rw [hy122]; with_reducible exact H) | (have H2_ := (Option.bind_some _ _).symm.trans H; rw [hy122]; with_reducible exact H2_) | (have H2_ := (Option.bind_some _ _).symm.trans H; with_reducible exact H2_) | with_reducible exact H | (rw [hy122]; exact H) | exact H
            have Ny122 := Aside0.mk hy122
            clear hy122
            have H' := Aside0.mk H
            clear H
            go_enter Try.func14, Try.ntmps14
            go_wp2_with (first | ((with_reducible refine gate_callee (f := 15) rfl ?_); refine goesL_ (some 12) rfl rfl Try.func15 (by kernel_rfl) rfl #[.slice A0 l0.length c0, .int .i64 1] rfl (by (try simp only [List.map_toArray, List.map_cons, List.map_nil]); first | done | rfl | (simp only [List.length_drop, List.length_take]; rfl)) ?_; (with_reducible refine (lockgateref20_At.calls k _ _ l0 1 t115 _ ?side1 ?side2 A2.out).mono ?_); (case side1 => repeat (first | exact HR0.out | (with_reducible refine Kd.C_alloc ?_ _) | (with_reducible refine Kd.C_drewN ?_ _) | (with_reducible refine Kd.C_drew ?_))); (case side2 => exact HC0.out); rintro e w' ⟨rfl, ⟨nd, rfl⟩⟩; refine ⟨_, rfl, ?_⟩) | ((with_reducible refine gate_dst (N := 17) rfl ?_); refine Kd.R_make (Kd.int .i64) _ 3 rfl (N := 17) rfl 52 _ _ rfl (l0.length : Int) rfl rfl Try.underlying52 (.int .i64 0) 8 info3 rfl (by decide) (by omega) 0 (ok := fun _ => True) (okp := fun _ => True) rfl (fun _ hk => hk) trivial (of_decide_eq_true (by first | (with_reducible assumption) | assumption)) (Nat.le_trans (Nat.mul_le_mul_right _ (of_decide_eq_true (by first | (with_reducible assumption) | assumption) : (l0.length : Int).toNat ≤ 35184372088832)) (by omega)) (Below.refl _ _) (Nat.le_refl _) ?_; intro v117 w9 ho10 hb hg_ hnew_; clear hg_ hnew_; (first | rw [← Ny116.out] at ho10 | (simp only [Int.reduceToNat] at ho10; rw [← Ny116.out] at ho10)); have n0_ := Aside0.mk (Kd.R_lower ho10 (below_size (by repeat (first | (with_reducible first | exact HB.out | apply below_alloc | apply pw_below_drewN | apply below_drew1) | exact HB.out)))); have n1_ := Aside0.mk (below_step (by repeat (first | (with_reducible first | exact HB.out | apply below_alloc | apply pw_below_drewN | apply below_drew1) | exact HB.out)) hb); clear HB; have HO118 := n0_; have HB := n1_; clear n0_ n1_; clear hb ho10) | ((with_reducible refine gate_dst (N := 19) rfl ?_); refine Kd.R_lit (Kd.int .i64) _ 3 ?hg (N := 19) ?hd (xs := ([t115] : List Int)) (inner := [.int .i64 t115]) (ok := fun _ => True) (okp := fun _ => True) ?hr ?hp (fun _ hk => hk) trivial (Below.refl _ _) (Nat.le_refl _) (by simp) ?_; (case hd => rfl); (case hg => rfl); (case hr => first | (go_simp; done) | (go_simp; rfl)); (case hp => exact (Reps.one (show Kd.M (Kd.int .i64) _ _ _ t115 [.int .i64 t115] from rfl) (Reps.none _ _))); intro v120 w11 ho12 hb hg_ hnew_; clear hg_ hnew_; (first | rw [← Ny119.out] at ho12 | (simp only [Int.reduceToNat] at ho12; rw [← Ny119.out] at ho12)); have n0_ := Aside0.mk (Kd.R_elder' (by (with_reducible repeat (first | apply Kd.R_alloc | apply Kd.R_drewN | apply Kd.R_drew)); exact HO118.out) (Kd.R_base ho12) hb); have n1_ := Aside0.mk (Kd.R_lower (Kd.R_new' ho12 (Kd.R_lt (by (with_reducible repeat (first | apply Kd.R_alloc | apply Kd.R_drewN | apply Kd.R_drew)); exact HO118.out))) (below_size (by repeat (first | (with_reducible first | exact HB.out | apply below_alloc | apply pw_below_drewN | apply below_drew1) | exact HB.out)))); have n2_ := Aside0.mk (below_step (by repeat (first | (with_reducible first | exact HB.out | apply below_alloc | apply pw_below_drewN | apply below_drew1) | exact HB.out)) hb); clear HO118; clear HB; have HO118 := n0_; have HO121 := n1_; have HB := n2_; clear n0_ n1_ n2_; clear hb ho12; have p8 : 0 ≤ (t115 : Int) := of_decide_eq_true (by first | (with_reducible assumption) | assumption); have q8 : (t115 : Int) < ((y116.length : Int) : Int) := of_decide_eq_true (by first | (with_reducible assumption) | assumption); obtain ⟨go8, co8, eo8, gb8, gl8, cl8, HG8⟩ := Kd.R_form HO118.out (by omega); (first | cases eo8 | (injection eo8 with ea_ en_ ec_; (first | subst ea_ | (injection ea_ with ea_; subst ea_)); subst ec_; clear en_)); have GB8 := Aside0.mk gb8; have GG8 := Aside0.mk HG8; clear gb8 gl8 HG8; obtain ⟨hx8_0, hf8_0⟩ := Kd.R_celln 0 HO118.out (t115 : Int) p8 q8; replace p8 := eq_true p8; replace q8 := eq_true q8; have n_ := Aside0.mk (Kd.R_mono (ok' := (fun k_ => some k_ ≠ (v120 : Value).ownBlock)) HO118.out (fun k_ hk => hk.2)); clear HO118; have HO118 := n_; clear n_; obtain ⟨hy13_, hz13_⟩ := Kd.R_celln 0 HO118.out (t115 : Int) (of_decide_eq_true (by first | (with_reducible assumption) | assumption)) (of_decide_eq_true (by first | (with_reducible assumption) | assumption)); have HP13 := Kd.R_putg HO118.out (t115 : Int) 1) | ((with_reducible refine gate_store (t := 3) (p := 22) rfl ?_); refine store_event (t := 3) (p := 22) (v := ?vo_w14) (w1 := (w11.setCell ⟨go8, (t115 : Int).toNat, none⟩ (.int .i64 1))) ?hg ?ho ?hn ?hr ?_; (case ho => rfl); (case hg => rfl); (case hn => rfl); (case hr => first | (go_simp; done) | (go_simp; rfl)); intro w14 hw; have hg : w11.grownBy w14 (some go8) := (by rw [hw]; exact HP13.2); have hp_ : Kd.R (Kd.int .i64) 3 w14 w.heap.size (fun k_ => some k_ ≠ (v120 : Value).ownBlock) (.slice (some ⟨go8, 0, none⟩) y116.length co8) y122 := (by rw [hw, Ny122.out]; exact HP13.1); clear HP13; have n0_ := Aside0.mk (hp_); have n1_ := Aside0.mk (Kd.R_after (v := (.slice (some ⟨go8, 0, none⟩) y116.length co8)) (v1 := (.slice (some ⟨go8, 0, none⟩) y116.length co8)) (ok := (fun _ => True)) (by (with_reducible repeat (first | apply Kd.R_alloc | apply Kd.R_drewN | apply Kd.R_drew)); exact HO121.out) hg (.inl rfl)); have n2_ := Aside0.mk ((by rw [hw]; exact below_set (HB.out) GB8.out : Below w.heap.size w w14)); clear HO118; clear HO121; clear HB; have HO118 := n0_; have HO121 := n1_; have HB := n2_; clear n0_ n1_ n2_; clear hg hw hp_))
            go_loopg [5, 6, 7] k (fun kq v5 v6 v7 w' => ∃ (x4_1 : List Int) (x5_1 : List Int) (x6_1 : List (S30)) (x7_1 : Int), v7 = .int .i64 x7_1 ∧ Aside0 (lockgateref20_Renumber.l0 kq l0 x4_1 x5_1 x6_1 x7_1 = some r) ∧ Aside0 (kq ≤ k) ∧ Aside0 (Kd.R (Kd.int .i64) 3 w' w.heap.size (fun k_ => some k_ ≠ (v5 : Value).ownBlock) (.slice (some ⟨go8, 0, none⟩) y116.length co8) x4_1) ∧ Aside0 (Kd.R (Kd.int .i64) 3 w' w.heap.size (fun k_ => some k_ ≠ ((.slice (some ⟨go8, 0, none⟩) y116.length co8) : Value).ownBlock) v5 x5_1) ∧ Aside0 (Kd.R k30 30 w' w.heap.size (fun _ => True) v6 x6_1) ∧ Aside0 (Below w.heap.size w w'))
            case atStart => exact ⟨(y122), (y119), (([] : List (S30))), (0), (by first | rfl | (simp; done) | (simp [*]; done)), H', ⟨Nat.le_refl _⟩, ⟨by (with_reducible repeat (first | apply Kd.R_alloc | apply Kd.R_drewN | apply Kd.R_drew)); exact HO118.out⟩, ⟨by (with_reducible repeat (first | apply Kd.R_alloc | apply Kd.R_drewN | apply Kd.R_drew)); exact Kd.R_mono HO121.out (fun _ hk => hk.2)⟩, ⟨by first | exact Kd.R_nil _ _ _ _ _ | exact Kd.N_nil _ _ _ _ _ | exact Kd.V_nil _ _ _ _ _ | exact Kd.Q_nil _ _ _ _ _ | exact Kd.S_nil _ _ _ _ _⟩, ⟨by repeat (first | (with_reducible first | exact HB.out | apply below_alloc | apply pw_below_drewN | apply below_drew1) | exact HB.out)⟩⟩
            case round =>
              clear H'
              try clear c1
              try clear p2
              try clear c3
              try clear c3b0
              try clear c4
              try clear c4b0
              try clear c4b1
              try clear c5
              try clear c5b0
              try clear c5b1
              try clear c6
              try clear c6b0
              try clear c7
              try clear c7b0
              try clear p8
              try clear q8
              try clear hx8
              try clear hf8
              try clear c14
              try clear hx8_0
              try clear p8
              try clear q8
              obtain ⟨x4_1, x5_1, x6_1, x7_1, rfl, HA, HK1, HO_4, HO_5, HO_6, HB⟩ := hrel
              have hl4_1 := (Kd.R_reads' HO_4.out).1
              rw [hl4_1] at HO_4
              (try simp only [hl4_1])
              (try simp only [hl4_1] at HO_5)
              (try simp only [hl4_1] at HO_6)
              cases gk with
              | zero => exact absurd HA.out (by simp [lockgateref20_Renumber.l0])
              | succ k1 =>
                have H := HA.out
                clear HA
                simp only [lockgateref20_Renumber.l0] at H
                by_cases c15 : x7_1 < (x5_1.length : Int)
                · rw [if_pos c15] at H
                  have c15b0 : decide (x7_1 < (x5_1.length : Int)) = true := decide_eq_true c15
                  clear c15
                  by_cases c16 : 0 ≤ x7_1
                  · rw [if_pos c16] at H
                    have c16b0 : decide (0 ≤ x7_1) = true := decide_eq_true c16
                    clear c16
                    by_cases c17 : 0 ≤ (rd x5_1 x7_1)
                    · rw [if_pos c17] at H
                      have c17b0 : decide (0 ≤ (rd x5_1 x7_1)) = true := decide_eq_true c17
                      clear c17
                      by_cases c18 : (rd x5_1 x7_1) < (l0.length : Int)
                      · rw [if_pos c18] at H
                        have c18b0 : decide ((rd x5_1 x7_1) < (l0.length : Int)) = true := decide_eq_true c18
                        clear c18
                        replace H := Option.bind_eq_some_iff.mp H
                        obtain ⟨⟨t125, t126, t127, t128, t129, t132⟩, A190, H⟩ := H
                        replace H : (lockgateref20_Renumber.l1 k1 l0 x4_1 x5_1 x6_1 x7_1 0 (wrap64 (x7_1 + 1)) t126 t127 t128 t129 t132) = some r := H
                        have A19 := Aside0.mk A190
                        clear A190
                        have H' := Aside0.mk H
                        clear H
                        obtain ⟨Ao20, co20, eo20⟩ := Kd.R_slice HO_5.out
                        subst eo20
                        have p123 : 0 ≤ (x7_1 : Int) := of_decide_eq_true (by first | (with_reducible assumption) | assumption)
                        have q123 : x7_1 < (x5_1.length : Int) := of_decide_eq_true (by first | (with_reducible assumption) | assumption)
                        obtain ⟨ad123, e123, hx123_0⟩ := Kd.at_int (Kd.R_reads' HO_5.out).2.2 x7_1 p123 q123
                        cases e123
                        replace p123 := eq_true p123
                        replace q123 := eq_true q123
                        have p124 : 0 ≤ ((rd x5_1 x7_1) : Int) := of_decide_eq_true (by first | (with_reducible assumption) | assumption)
                        have q124 : (rd x5_1 x7_1) < (l0.length : Int) := of_decide_eq_true (by first | (with_reducible assumption) | assumption)
                        obtain ⟨ad124, A124_4, c124_4, A124_5, c124_5, e124, hx124_0, hx124_1, hx124_2, hx124_3, hx124_4, hx124_5, hl124_4, hi124_4, hl124_5, hi124_5⟩ := at_T30 HR0.out (rd x5_1 x7_1) p124 q124
                        cases e124
                        replace hx124_0 := (HB.out.cell (World.block_lt_of_cell? w _ hx124_0)).trans hx124_0
                        replace hx124_1 := (HB.out.cell (World.block_lt_of_cell? w _ hx124_1)).trans hx124_1
                        replace hx124_2 := (HB.out.cell (World.block_lt_of_cell? w _ hx124_2)).trans hx124_2
                        replace hx124_3 := (HB.out.cell (World.block_lt_of_cell? w _ hx124_3)).trans hx124_3
                        replace hx124_4 := (HB.out.cell (World.block_lt_of_cell? w _ hx124_4)).trans hx124_4
                        replace hx124_5 := (HB.out.cell (World.block_lt_of_cell? w _ hx124_5)).trans hx124_5
                        have HR124_4 := Aside0.mk hi124_4
                        have HC124_4 := Aside0.mk hl124_4
                        clear hi124_4 hl124_4
                        have HR124_5 := Aside0.mk hi124_5
                        have HC124_5 := Aside0.mk hl124_5
                        clear hi124_5 hl124_5
                        replace p124 := eq_true p124
                        replace q124 := eq_true q124
                        go_wp2_with (first | ((with_reducible refine gate_callee (f := 25) rfl ?_); refine goesL_ (some 36) rfl rfl Try.func25 (by kernel_rfl) rfl #[.agg #[.int .i64 ((rd_T30 l0 (rd x5_1 x7_1)).f0), .int .i64 ((rd_T30 l0 (rd x5_1 x7_1)).f1), .int .i64 ((rd_T30 l0 (rd x5_1 x7_1)).f2), .int .i64 ((rd_T30 l0 (rd x5_1 x7_1)).f3), .slice A124_4 ((rd_T30 l0 (rd x5_1 x7_1)).f4).length c124_4, .slice A124_5 ((rd_T30 l0 (rd x5_1 x7_1)).f5).length c124_5]] rfl (by (try simp only [List.map_toArray, List.map_cons, List.map_nil]); first | done | rfl | (simp only [List.length_drop, List.length_take]; rfl)) ?_; (with_reducible refine (lockgateref20_copied.calls k1 ((rd_T30 l0 (rd x5_1 x7_1)).f0) ((rd_T30 l0 (rd x5_1 x7_1)).f1) ((rd_T30 l0 (rd x5_1 x7_1)).f2) ((rd_T30 l0 (rd x5_1 x7_1)).f3) _ _ ((rd_T30 l0 (rd x5_1 x7_1)).f4) _ _ ((rd_T30 l0 (rd x5_1 x7_1)).f5) t125 t126 t127 t128 t129 t132 _ ?side1 ?side2 ?side3 ?side4 A19.out).mono ?_); (case side1 => repeat (first | exact (Kd.C_below HR124_4.out HB.out) | (with_reducible refine Kd.C_alloc ?_ _) | (with_reducible refine Kd.C_drewN ?_ _) | (with_reducible refine Kd.C_drew ?_))); (case side2 => exact HC124_4.out); (case side3 => repeat (first | exact (Kd.C_below HR124_5.out HB.out) | (with_reducible refine Kd.C_alloc ?_ _) | (with_reducible refine Kd.C_drewN ?_ _) | (with_reducible refine Kd.C_drew ?_))); (case side4 => exact HC124_5.out); rintro e w21 ⟨v130, v133, rfl, ho0, ho1, hb⟩; refine ⟨_, rfl, ?_⟩; have n0_ := Aside0.mk (Kd.R_below (by (with_reducible repeat (first | apply Kd.R_alloc | apply Kd.R_drewN | apply Kd.R_drew)); exact HO_4.out) hb); have n1_ := Aside0.mk (Kd.R_below (by (with_reducible repeat (first | apply Kd.R_alloc | apply Kd.R_drewN | apply Kd.R_drew)); exact HO_5.out) hb); have n2_ := Aside0.mk (Kd.R_mono (Kd.R_told (Kd.R_told (Kd.R_old (by (with_reducible repeat (first | apply Kd.R_alloc | apply Kd.R_drewN | apply Kd.R_drew)); exact HO_6.out) hb) (Kd.S_base ho0)) (Kd.R_base ho1)) (fun _ h_ => h_.1)); have n3_ := Aside0.mk (Kd.S_lower ho0 (below_size (by repeat (first | (with_reducible first | exact HB.out | apply below_alloc | apply pw_below_drewN | apply below_drew1) | exact HB.out)))); have n4_ := Aside0.mk (Kd.R_lower ho1 (below_size (by repeat (first | (with_reducible first | exact HB.out | apply below_alloc | apply pw_below_drewN | apply below_drew1) | exact HB.out)))); have n5_ := Aside0.mk (below_step (by repeat (first | (with_reducible first | exact HB.out | apply below_alloc | apply pw_below_drewN | apply below_drew1) | exact HB.out)) hb); clear HO_4; clear HO_5; clear HO_6; clear HB; have HO_4 := n0_; have HO_5 := n1_; have HO_6 := n2_; have HO131 := n3_; have HO134 := n4_; have HB := n5_; clear n0_ n1_ n2_ n3_ n4_ n5_; (try clear hb); (try clear hb2); (try clear hk); (try clear hi); (try clear ho0); (try clear ho1)) | ((with_reducible refine gate_dst (N := 8) rfl ?_); refine box_event ?hg (N := 8) ?hd (cs := #[.int .i64 0, .int .i64 0, .int .i64 0, .int .i64 0, .slice none 0 0, .slice none 0 0]) (t := 30) ?hr ?_; (case hd => rfl); (case hg => rfl); (case hr => first | (go_simp; done) | (go_simp; rfl)); intro gb135 hg w22 hbox hb; have n0_ := Aside0.mk (Kd.R_below (by (with_reducible repeat (first | apply Kd.R_alloc | apply Kd.R_drewN | apply Kd.R_drew)); exact HO_4.out) hb); have n1_ := Aside0.mk (Kd.R_below (by (with_reducible repeat (first | apply Kd.R_alloc | apply Kd.R_drewN | apply Kd.R_drew)); exact HO_5.out) hb); have n2_ := Aside0.mk (Kd.R_below (Kd.R_elderB (by (with_reducible repeat (first | apply Kd.R_alloc | apply Kd.R_drewN | apply Kd.R_drew)); exact HO_6.out) gb135 (Nat.le_of_eq hg.symm)) hb); have n3_ := Aside0.mk (Kd.S_below (by (with_reducible repeat (first | apply Kd.S_alloc | apply Kd.S_drewN | apply Kd.S_drew)); exact HO131.out) hb); have n4_ := Aside0.mk (Kd.R_below (by (with_reducible repeat (first | apply Kd.R_alloc | apply Kd.R_drewN | apply Kd.R_drew)); exact HO134.out) hb); have n5_ := Aside0.mk (below_step (by repeat (first | (with_reducible first | exact HB.out | apply below_alloc | apply pw_below_drewN | apply below_drew1) | exact HB.out)) hb); have n6_ := Aside0.mk (hbox); have n7_ := Aside0.mk ((by rw [hg]; exact (below_size (by repeat (first | (with_reducible first | exact HB.out | apply below_alloc | apply pw_below_drewN | apply below_drew1) | exact HB.out))) : w.heap.size ≤ gb135)); have n8_ := Aside0.mk ((by rw [hg]; exact (below_size (by repeat (first | (with_reducible first | exact HB.out | apply below_alloc | apply pw_below_drewN | apply below_drew1) | exact HB.out))) : w.heap.size ≤ gb135)); clear HO_4; clear HO_5; clear HO_6; clear HO131; clear HO134; clear HB; have HO_4 := n0_; have HO_5 := n1_; have HO_6 := n2_; have HO131 := n3_; have HO134 := n4_; have HB := n5_; have BK135 := n6_; have GW135 := n7_; have GE135 := n8_; clear n0_ n1_ n2_ n3_ n4_ n5_ n6_ n7_ n8_; clear hb hbox hg; have hcz23_0 : w22.cell? ⟨gb135, 0, none⟩ = some (.int .i64 0) := (blk_cell BK135.out 0).trans rfl; have hcz23_1 : w22.cell? ⟨gb135, 1, none⟩ = some (.int .i64 0) := (blk_cell BK135.out 1).trans rfl; have hcz23_2 : w22.cell? ⟨gb135, 2, none⟩ = some (.int .i64 0) := (blk_cell BK135.out 2).trans rfl; have hcz23_3 : w22.cell? ⟨gb135, 3, none⟩ = some (.int .i64 0) := (blk_cell BK135.out 3).trans rfl; have hcz23_4 : w22.cell? ⟨gb135, 4, none⟩ = some (.slice none 0 0) := (blk_cell BK135.out 4).trans rfl; have hcz23_5 : w22.cell? ⟨gb135, 5, none⟩ = some (.slice none 0 0) := (blk_cell BK135.out 5).trans rfl; have hfz23_0 := blk_frozen BK135.out 0; have hfz23_1 := blk_frozen BK135.out 1; have hfz23_2 := blk_frozen BK135.out 2; have hfz23_3 := blk_frozen BK135.out 3; have hfz23_4 := blk_frozen BK135.out 4; have hfz23_5 := blk_frozen BK135.out 5; obtain ⟨Ao24, co24, eo24⟩ := Kd.S_slice HO131.out; subst eo24; obtain ⟨Ao25, co25, eo25⟩ := Kd.R_slice HO134.out; subst eo25))
                        go_loopg [5, 9] k1 (fun kq v5 v9 w' => ∃ (x4_2 : List Int) (x5_2 : List Int) (x9_2 : Int) (x136005_2 : List (S32)) (u136005 : Value), v9 = .int .i64 x9_2 ∧ Aside0 (lockgateref20_Renumber.l1 kq l0 x4_2 x5_2 x6_1 x7_1 x9_2 (wrap64 (x7_1 + 1)) t126 t127 t128 t129 x136005_2 = some r) ∧ Aside0 (kq ≤ k1) ∧ Aside0 (Kd.R (Kd.int .i64) 3 w' w.heap.size (fun k_ => some k_ ≠ (v5 : Value).ownBlock) (.slice (some ⟨go8, 0, none⟩) x4_1.length co8) x4_2) ∧ Aside0 (Kd.R (Kd.int .i64) 3 w' w.heap.size (fun k_ => some k_ ≠ ((.slice (some ⟨go8, 0, none⟩) x4_1.length co8) : Value).ownBlock) v5 x5_2) ∧ Aside0 (Kd.R k30 30 w' w.heap.size (fun k_ => some k_ ≠ ((.slice Ao24 t129.length co24) : Value).ownBlock ∧ some k_ ≠ (u136005 : Value).ownBlock ∧ k_ ≠ gb135) u6 x6_1) ∧ Aside0 (Kd.S k35 35 w' w.heap.size (fun _ => True) (.slice Ao24 t129.length co24) t129) ∧ Aside0 (Kd.R k32 32 w' w.heap.size (fun _ => True) u136005 x136005_2) ∧ Aside0 (w'.heap[gb135]? = some (.cells #[.int .i64 (wrap64 (x7_1 + 1)), .int .i64 t126, .int .i64 t127, .int .i64 t128, (.slice Ao24 t129.length co24), u136005] 30 (0, 0))) ∧ Aside0 (Below w.heap.size w w'))
                        case atStart => exact ⟨(x4_1), (x5_1), (0), (t132), (.slice Ao25 t132.length co25), (by first | rfl | (simp; done) | (simp [*]; done)), H', ⟨Nat.le_refl _⟩, ⟨by (try simp only [hl4_1]); (with_reducible repeat (first | apply Kd.R_alloc | apply Kd.R_drewN | apply Kd.R_drew)); exact Kd.R_mono (Kd.R_far (p := ⟨gb135, 0, none⟩) (Kd.R_far (p := ⟨gb135, 5, none⟩) (Kd.R_far (p := ⟨gb135, 4, none⟩) (Kd.R_far (p := ⟨gb135, 3, none⟩) (Kd.R_far (p := ⟨gb135, 2, none⟩) (Kd.R_far (p := ⟨gb135, 1, none⟩) (Kd.R_far (p := ⟨gb135, 0, none⟩) (Kd.R_types HO_4.out BK135.out (by decide)) (fun _ hk => hk.2) (.int .i64 t125)) (fun _ hk => hk.2) (.int .i64 t126)) (fun _ hk => hk.2) (.int .i64 t127)) (fun _ hk => hk.2) (.int .i64 t128)) (fun _ hk => hk.2) (.slice Ao24 t129.length co24)) (fun _ hk => hk.2) (.slice Ao25 t132.length co25)) (fun _ hk => hk.2) (.int .i64 (wrap64 (x7_1 + 1)))) (fun _ hk => hk.1)⟩, ⟨by (try simp only [hl4_1]); (with_reducible repeat (first | apply Kd.R_alloc | apply Kd.R_drewN | apply Kd.R_drew)); exact Kd.R_mono (Kd.R_far (p := ⟨gb135, 0, none⟩) (Kd.R_far (p := ⟨gb135, 5, none⟩) (Kd.R_far (p := ⟨gb135, 4, none⟩) (Kd.R_far (p := ⟨gb135, 3, none⟩) (Kd.R_far (p := ⟨gb135, 2, none⟩) (Kd.R_far (p := ⟨gb135, 1, none⟩) (Kd.R_far (p := ⟨gb135, 0, none⟩) (Kd.R_types HO_5.out BK135.out (by decide)) (fun _ hk => hk.2) (.int .i64 t125)) (fun _ hk => hk.2) (.int .i64 t126)) (fun _ hk => hk.2) (.int .i64 t127)) (fun _ hk => hk.2) (.int .i64 t128)) (fun _ hk => hk.2) (.slice Ao24 t129.length co24)) (fun _ hk => hk.2) (.slice Ao25 t132.length co25)) (fun _ hk => hk.2) (.int .i64 (wrap64 (x7_1 + 1)))) (fun _ hk => hk.1)⟩, ⟨by (try simp only [hl4_1]); (with_reducible repeat (first | apply Kd.R_alloc | apply Kd.R_drewN | apply Kd.R_drew)); exact Kd.R_mono (Kd.R_far (p := ⟨gb135, 0, none⟩) (Kd.R_far (p := ⟨gb135, 5, none⟩) (Kd.R_far (p := ⟨gb135, 4, none⟩) (Kd.R_far (p := ⟨gb135, 3, none⟩) (Kd.R_far (p := ⟨gb135, 2, none⟩) (Kd.R_far (p := ⟨gb135, 1, none⟩) (Kd.R_far (p := ⟨gb135, 0, none⟩) (Kd.R_mono HO_6.out (fun k_ hk => (⟨hk, hk.2⟩ : _ ∧ k_ ≠ gb135))) (fun _ hk => hk.2) (.int .i64 t125)) (fun _ hk => hk.2) (.int .i64 t126)) (fun _ hk => hk.2) (.int .i64 t127)) (fun _ hk => hk.2) (.int .i64 t128)) (fun _ hk => hk.2) (.slice Ao24 t129.length co24)) (fun _ hk => hk.2) (.slice Ao25 t132.length co25)) (fun _ hk => hk.2) (.int .i64 (wrap64 (x7_1 + 1)))) (fun _ hk => ⟨hk.1.1.1.2, ⟨hk.1.1.2, hk.1.2⟩⟩)⟩, ⟨by (try simp only [hl4_1]); (with_reducible repeat (first | apply Kd.S_alloc | apply Kd.S_drewN | apply Kd.S_drew)); exact Kd.S_mono (Kd.S_far (p := ⟨gb135, 0, none⟩) (Kd.S_far (p := ⟨gb135, 5, none⟩) (Kd.S_far (p := ⟨gb135, 4, none⟩) (Kd.S_far (p := ⟨gb135, 3, none⟩) (Kd.S_far (p := ⟨gb135, 2, none⟩) (Kd.S_far (p := ⟨gb135, 1, none⟩) (Kd.S_far (p := ⟨gb135, 0, none⟩) (Kd.S_types HO131.out BK135.out (by decide)) (fun _ hk => hk.2) (.int .i64 t125)) (fun _ hk => hk.2) (.int .i64 t126)) (fun _ hk => hk.2) (.int .i64 t127)) (fun _ hk => hk.2) (.int .i64 t128)) (fun _ hk => hk.2) (.slice Ao24 t129.length co24)) (fun _ hk => hk.2) (.slice Ao25 t132.length co25)) (fun _ hk => hk.2) (.int .i64 (wrap64 (x7_1 + 1)))) (fun _ hk => trivial)⟩, ⟨by (try simp only [hl4_1]); (with_reducible repeat (first | apply Kd.R_alloc | apply Kd.R_drewN | apply Kd.R_drew)); exact Kd.R_mono (Kd.R_far (p := ⟨gb135, 0, none⟩) (Kd.R_far (p := ⟨gb135, 5, none⟩) (Kd.R_far (p := ⟨gb135, 4, none⟩) (Kd.R_far (p := ⟨gb135, 3, none⟩) (Kd.R_far (p := ⟨gb135, 2, none⟩) (Kd.R_far (p := ⟨gb135, 1, none⟩) (Kd.R_far (p := ⟨gb135, 0, none⟩) (Kd.R_types HO134.out BK135.out (by decide)) (fun _ hk => hk.2) (.int .i64 t125)) (fun _ hk => hk.2) (.int .i64 t126)) (fun _ hk => hk.2) (.int .i64 t127)) (fun _ hk => hk.2) (.int .i64 t128)) (fun _ hk => hk.2) (.slice Ao24 t129.length co24)) (fun _ hk => hk.2) (.slice Ao25 t132.length co25)) (fun _ hk => hk.2) (.int .i64 (wrap64 (x7_1 + 1)))) (fun _ hk => trivial)⟩, ⟨by (try simp only [hl4_1]); (with_reducible repeat (first | refine blk_drewN ?_ _ | refine blk_drew ?_ | refine blk_alloc ?_ _)); refine blk_put (cs := #[.int .i64 t125, .int .i64 t126, .int .i64 t127, .int .i64 t128, .slice Ao24 t129.length co24, .slice Ao25 t132.length co25]) ?_ 0 _ rfl; (with_reducible repeat (first | refine blk_drewN ?_ _ | refine blk_drew ?_ | refine blk_alloc ?_ _)); refine blk_put (cs := #[.int .i64 t125, .int .i64 t126, .int .i64 t127, .int .i64 t128, .slice Ao24 t129.length co24, .slice none 0 0]) ?_ 5 _ rfl; (with_reducible repeat (first | refine blk_drewN ?_ _ | refine blk_drew ?_ | refine blk_alloc ?_ _)); refine blk_put (cs := #[.int .i64 t125, .int .i64 t126, .int .i64 t127, .int .i64 t128, .slice none 0 0, .slice none 0 0]) ?_ 4 _ rfl; (with_reducible repeat (first | refine blk_drewN ?_ _ | refine blk_drew ?_ | refine blk_alloc ?_ _)); refine blk_put (cs := #[.int .i64 t125, .int .i64 t126, .int .i64 t127, .int .i64 0, .slice none 0 0, .slice none 0 0]) ?_ 3 _ rfl; (with_reducible repeat (first | refine blk_drewN ?_ _ | refine blk_drew ?_ | refine blk_alloc ?_ _)); refine blk_put (cs := #[.int .i64 t125, .int .i64 t126, .int .i64 0, .int .i64 0, .slice none 0 0, .slice none 0 0]) ?_ 2 _ rfl; (with_reducible repeat (first | refine blk_drewN ?_ _ | refine blk_drew ?_ | refine blk_alloc ?_ _)); refine blk_put (cs := #[.int .i64 t125, .int .i64 0, .int .i64 0, .int .i64 0, .slice none 0 0, .slice none 0 0]) ?_ 1 _ rfl; (with_reducible repeat (first | refine blk_drewN ?_ _ | refine blk_drew ?_ | refine blk_alloc ?_ _)); refine blk_put (cs := #[.int .i64 0, .int .i64 0, .int .i64 0, .int .i64 0, .slice none 0 0, .slice none 0 0]) ?_ 0 _ rfl; (with_reducible repeat (first | refine blk_drewN ?_ _ | refine blk_drew ?_ | refine blk_alloc ?_ _)); exact BK135.out⟩, ⟨by repeat (first | (with_reducible first | exact HB.out | apply below_alloc | apply pw_below_drewN | apply below_drew1 | refine below_set ?_ GE135.out) | exact HB.out)⟩⟩
                        case round =>
                          clear H'
                          try clear c1
                          try clear p1
                          try clear q1
                          try clear hx1
                          try clear c2
                          try clear p2
                          try clear c3
                          try clear c3b0
                          try clear c4
                          try clear c4b0
                          try clear c4b1
                          try clear c5
                          try clear c5b0
                          try clear c5b1
                          try clear c6
                          try clear c6b0
                          try clear p6
                          try clear c7
                          try clear c7b0
                          try clear p8
                          try clear q8
                          try clear hx8
                          try clear hf8
                          try clear c12
                          try clear p12
                          try clear q12
                          try clear hx12
                          try clear c14
                          try clear c15
                          try clear c15b0
                          try clear c16
                          try clear c16b0
                          try clear c17
                          try clear c17b0
                          try clear c18
                          try clear c18b0
                          try clear c25
                          try clear hcz23_0
                          try clear hcz23_1
                          try clear hcz23_2
                          try clear hcz23_3
                          try clear hcz23_4
                          try clear hcz23_5
                          try clear hfz23_0
                          try clear hfz23_1
                          try clear hfz23_2
                          try clear hfz23_3
                          try clear hfz23_4
                          try clear hfz23_5
                          try clear hx123_0
                          try clear hx124_0
                          try clear hx124_1
                          try clear hx124_2
                          try clear hx124_3
                          try clear hx124_4
                          try clear hx124_5
                          try clear hx8_0
                          try clear p123
                          try clear p124
                          try clear p2
                          try clear p8
                          try clear q123
                          try clear q124
                          try clear q8
                          obtain ⟨x4_2, x5_2, x9_2, x136005_2, u136005, rfl, HA, HK2, HO_4, HO_5, HO_6, HO_136004, HO_136005, BK135, HB⟩ := hrel
                          have hl4_2 := (Kd.R_reads' HO_4.out).1
                          rw [hl4_2] at HO_4
                          (try simp only [hl4_2])
                          (try simp only [hl4_2] at BK135)
                          (try simp only [hl4_2] at HO_5)
                          (try simp only [hl4_2] at HO_6)
                          (try simp only [hl4_2] at HO_136004)
                          (try simp only [hl4_2] at HO_136005)
                          cases gk with
                          | zero => exact absurd HA.out (by simp [lockgateref20_Renumber.l1])
                          | succ k2 =>
                            have H := HA.out
                            clear HA
                            simp only [lockgateref20_Renumber.l1] at H
                            by_cases c26 : x9_2 < (x136005_2.length : Int)
                            · rw [if_pos c26] at H
                              have c26b0 : decide (x9_2 < (x136005_2.length : Int)) = true := decide_eq_true c26
                              clear c26
                              by_cases c27 : 0 ≤ x9_2
                              · rw [if_pos c27] at H
                                have c27b0 : decide (0 ≤ x9_2) = true := decide_eq_true c27
                                clear c27
                                have HC28 := Aside0.mk H
                                clear H
                                have hcz29_0 : wr.cell? ⟨gb135, 0, none⟩ = some (.int .i64 (wrap64 (x7_1 + 1))) := (blk_cell BK135.out 0).trans rfl
                                have hcz29_1 : wr.cell? ⟨gb135, 1, none⟩ = some (.int .i64 t126) := (blk_cell BK135.out 1).trans rfl
                                have hcz29_2 : wr.cell? ⟨gb135, 2, none⟩ = some (.int .i64 t127) := (blk_cell BK135.out 2).trans rfl
                                have hcz29_3 : wr.cell? ⟨gb135, 3, none⟩ = some (.int .i64 t128) := (blk_cell BK135.out 3).trans rfl
                                have hcz29_4 : wr.cell? ⟨gb135, 4, none⟩ = some (.slice Ao24 t129.length co24) := (blk_cell BK135.out 4).trans rfl
                                have hcz29_5 : wr.cell? ⟨gb135, 5, none⟩ = some (u136005) := (blk_cell BK135.out 5).trans rfl
                                have hfz29_0 := blk_frozen BK135.out 0
                                have hfz29_1 := blk_frozen BK135.out 1
                                have hfz29_2 := blk_frozen BK135.out 2
                                have hfz29_3 := blk_frozen BK135.out 3
                                have hfz29_4 := blk_frozen BK135.out 4
                                have hfz29_5 := blk_frozen BK135.out 5
                                obtain ⟨Ao30, co30, eo30⟩ := Kd.R_slice HO_136005.out
                                subst eo30
                                have p139 : 0 ≤ (x9_2 : Int) := of_decide_eq_true (by first | (with_reducible assumption) | assumption)
                                have q139 : x9_2 < (x136005_2.length : Int) := of_decide_eq_true (by first | (with_reducible assumption) | assumption)
                                obtain ⟨ad139, e139, hx139_0, hx139_1⟩ := at_T32 (Kd.R_reads' HO_136005.out).2.2 x9_2 p139 q139
                                cases e139
                                replace p139 := eq_true p139
                                replace q139 := eq_true q139
                                go_upto_if 53 with (fail)
                                go_cut [10] (fun v10 wc => ∃ (kq : Nat) (x10_27 : Int), v10 = .int .i64 x10_27 ∧ Aside0 (lockgateref20_Renumber.j2 kq l0 x4_2 x5_2 x6_1 x7_1 x9_2 x10_27 (wrap64 (x7_1 + 1)) t126 t127 t128 t129 x136005_2 = some r) ∧ Aside0 (kq ≤ k2) ∧ Aside0 (Kd.R (Kd.int .i64) 3 wc w.heap.size (fun k_ => some k_ ≠ (u5 : Value).ownBlock) (.slice (some ⟨go8, 0, none⟩) x4_2.length co8) x4_2) ∧ Aside0 (Kd.R (Kd.int .i64) 3 wc w.heap.size (fun k_ => some k_ ≠ ((.slice (some ⟨go8, 0, none⟩) x4_2.length co8) : Value).ownBlock) u5 x5_2) ∧ Aside0 (Kd.R k30 30 wc w.heap.size (fun k_ => some k_ ≠ ((.slice Ao24 t129.length co24) : Value).ownBlock ∧ some k_ ≠ ((.slice (some ad139) x136005_2.length co30) : Value).ownBlock ∧ k_ ≠ gb135) u6 x6_1) ∧ Aside0 (Kd.S k35 35 wc w.heap.size (fun _ => True) (.slice Ao24 t129.length co24) t129) ∧ Aside0 (Kd.R k32 32 wc w.heap.size (fun _ => True) (.slice (some ad139) x136005_2.length co30) x136005_2) ∧ Aside0 (wc.heap[gb135]? = some (.cells #[.int .i64 (wrap64 (x7_1 + 1)), .int .i64 t126, .int .i64 t127, .int .i64 t128, (.slice Ao24 t129.length co24), (.slice (some ad139) x136005_2.length co30)] 30 (0, 0))) ∧ Aside0 (Below w.heap.size w wc))
                                case first =>
                                  have H := HC28.out
                                  clear HC28
                                  by_cases c31 : ((rd_T32 x136005_2 x9_2).f0) = 0
                                  · rw [if_pos c31] at H
                                    have c31b0 : (((rd_T32 x136005_2 x9_2).f0) == 0) = true := beq_iff_eq.mpr c31
                                    have c31b1 : (((rd_T32 x136005_2 x9_2).f0) != 0) = false := bne_eq_false_iff_eq.mpr c31
                                    clear c31
                                    (first | rw [c31b0] | (simp only [i64_w, i32_w]; rw [c31b0]) | skip)
                                    have H' := Aside0.mk H
                                    clear H
                                    go_wp2
                                    go_meet
                                    case rel => exact ⟨_, ((-1)), (by first | rfl | (simp; done) | (simp [*]; done)), H', ⟨by have := HK1.out; have := HK2.out; first | omega | exact Nat.le_refl _⟩, ⟨by (try simp only [hl4_1]); (try simp only [hl4_2]); (with_reducible repeat (first | apply Kd.R_alloc | apply Kd.R_drewN | apply Kd.R_drew)); exact HO_4.out⟩, ⟨by (try simp only [hl4_1]); (try simp only [hl4_2]); (with_reducible repeat (first | apply Kd.R_alloc | apply Kd.R_drewN | apply Kd.R_drew)); exact HO_5.out⟩, ⟨by (try simp only [hl4_1]); (try simp only [hl4_2]); (with_reducible repeat (first | apply Kd.R_alloc | apply Kd.R_drewN | apply Kd.R_drew)); exact HO_6.out⟩, ⟨by (try simp only [hl4_1]); (try simp only [hl4_2]); (with_reducible repeat (first | apply Kd.S_alloc | apply Kd.S_drewN | apply Kd.S_drew)); exact HO_136004.out⟩, ⟨by (try simp only [hl4_1]); (try simp only [hl4_2]); (with_reducible repeat (first | apply Kd.R_alloc | apply Kd.R_drewN | apply Kd.R_drew)); exact HO_136005.out⟩, ⟨by (try simp only [hl4_1]); (try simp only [hl4_2]); (with_reducible repeat (first | refine blk_drewN ?_ _ | refine blk_drew ?_ | refine blk_alloc ?_ _)); exact BK135.out⟩, ⟨by repeat (first | (with_reducible first | exact HB.out | apply below_alloc | apply pw_below_drewN | apply below_drew1 | refine below_set ?_ GE135.out) | exact HB.out)⟩⟩
                                  · rw [if_neg c31] at H
                                    have c31b0 : (((rd_T32 x136005_2 x9_2).f0) == 0) = false := beq_eq_false_iff_ne.mpr c31
                                    have c31b1 : (((rd_T32 x136005_2 x9_2).f0) != 0) = true := bne_iff_ne.mpr c31
                                    (first | rw [c31b0] | (simp only [i64_w, i32_w]; rw [c31b0]) | skip)
                                    replace H := Option.bind_eq_some_iff.mp H
                                    obtain ⟨t141, A320, H⟩ := H
                                    replace H : (lockgateref20_Renumber.j2 k2 l0 x4_2 x5_2 x6_1 x7_1 x9_2 t141 (wrap64 (x7_1 + 1)) t126 t127 t128 t129 x136005_2) = some r := H
                                    have A32 := Aside0.mk A320
                                    clear A320
                                    have H' := Aside0.mk H
                                    clear H
                                    have hcz33_0 : wr.cell? ⟨gb135, 0, none⟩ = some (.int .i64 (wrap64 (x7_1 + 1))) := (blk_cell BK135.out 0).trans rfl
                                    have hcz33_1 : wr.cell? ⟨gb135, 1, none⟩ = some (.int .i64 t126) := (blk_cell BK135.out 1).trans rfl
                                    have hcz33_2 : wr.cell? ⟨gb135, 2, none⟩ = some (.int .i64 t127) := (blk_cell BK135.out 2).trans rfl
                                    have hcz33_3 : wr.cell? ⟨gb135, 3, none⟩ = some (.int .i64 t128) := (blk_cell BK135.out 3).trans rfl
                                    have hcz33_4 : wr.cell? ⟨gb135, 4, none⟩ = some (.slice Ao24 t129.length co24) := (blk_cell BK135.out 4).trans rfl
                                    have hcz33_5 : wr.cell? ⟨gb135, 5, none⟩ = some (.slice (some ad139) x136005_2.length co30) := (blk_cell BK135.out 5).trans rfl
                                    have hfz33_0 := blk_frozen BK135.out 0
                                    have hfz33_1 := blk_frozen BK135.out 1
                                    have hfz33_2 := blk_frozen BK135.out 2
                                    have hfz33_3 := blk_frozen BK135.out 3
                                    have hfz33_4 := blk_frozen BK135.out 4
                                    have hfz33_5 := blk_frozen BK135.out 5
                                    have p140 : 0 ≤ (x9_2 : Int) := of_decide_eq_true (by first | (with_reducible assumption) | assumption)
                                    have q140 : x9_2 < (x136005_2.length : Int) := of_decide_eq_true (by first | (with_reducible assumption) | assumption)
                                    obtain ⟨ad140, e140, hx140_0, hx140_1⟩ := at_T32 (Kd.R_reads' HO_136005.out).2.2 x9_2 p140 q140
                                    obtain rfl : ad139 = ad140 := (by injection e140)
                                    replace p140 := eq_true p140
                                    replace q140 := eq_true q140
                                    go_wp2_with (first | ((with_reducible refine gate_callee (f := 15) rfl ?_); refine goesL_ (some 61) rfl rfl Try.func15 (by kernel_rfl) rfl #[.slice (some ad124) l0.length c0, .int .i64 ((rd_T32 x136005_2 x9_2).f0)] rfl (by (try simp only [List.map_toArray, List.map_cons, List.map_nil]); first | done | rfl | (simp only [List.length_drop, List.length_take]; rfl)) ?_; (with_reducible refine (lockgateref20_At.calls k2 _ _ l0 ((rd_T32 x136005_2 x9_2).f0) t141 _ ?side1 ?side2 A32.out).mono ?_); (case side1 => repeat (first | exact (Kd.C_below HR0.out HB.out) | (with_reducible refine Kd.C_alloc ?_ _) | (with_reducible refine Kd.C_drewN ?_ _) | (with_reducible refine Kd.C_drew ?_))); (case side2 => exact HC0.out); rintro e w' ⟨rfl, ⟨nd, rfl⟩⟩; refine ⟨_, rfl, ?_⟩))
                                    go_meet
                                    case rel => exact ⟨_, (t141), (by first | rfl | (simp; done) | (simp [*]; done)), H', ⟨by have := HK1.out; have := HK2.out; first | omega | exact Nat.le_refl _⟩, ⟨by (try simp only [hl4_1]); (try simp only [hl4_2]); (with_reducible repeat (first | apply Kd.R_alloc | apply Kd.R_drewN | apply Kd.R_drew)); exact HO_4.out⟩, ⟨by (try simp only [hl4_1]); (try simp only [hl4_2]); (with_reducible repeat (first | apply Kd.R_alloc | apply Kd.R_drewN | apply Kd.R_drew)); exact HO_5.out⟩, ⟨by (try simp only [hl4_1]); (try simp only [hl4_2]); (with_reducible repeat (first | apply Kd.R_alloc | apply Kd.R_drewN | apply Kd.R_drew)); exact HO_6.out⟩, ⟨by (try simp only [hl4_1]); (try simp only [hl4_2]); (with_reducible repeat (first | apply Kd.S_alloc | apply Kd.S_drewN | apply Kd.S_drew)); exact HO_136004.out⟩, ⟨by (try simp only [hl4_1]); (try simp only [hl4_2]); (with_reducible repeat (first | apply Kd.R_alloc | apply Kd.R_drewN | apply Kd.R_drew)); exact HO_136005.out⟩, ⟨by (try simp only [hl4_1]); (try simp only [hl4_2]); (with_reducible repeat (first | refine blk_drewN ?_ _ | refine blk_drew ?_ | refine blk_alloc ?_ _)); exact BK135.out⟩, ⟨by repeat (first | (with_reducible first | exact HB.out | apply below_alloc | apply pw_below_drewN | apply below_drew1 | refine below_set ?_ GE135.out) | exact HB.out)⟩⟩
                                case rest =>
                                  clear HC28
                                  try clear c1
                                  try clear p1
                                  try clear q1
                                  try clear hx1
                                  try clear c2
                                  try clear p2
                                  try clear c3
                                  try clear c3b0
                                  try clear c4
                                  try clear c4b0
                                  try clear c4b1
                                  try clear c5
                                  try clear c5b0
                                  try clear c5b1
                                  try clear c6
                                  try clear c6b0
                                  try clear p6
                                  try clear c7
                                  try clear c7b0
                                  try clear p8
                                  try clear q8
                                  try clear hx8
                                  try clear hf8
                                  try clear c12
                                  try clear p12
                                  try clear q12
                                  try clear hx12
                                  try clear p13
                                  try clear q13
                                  try clear hx13
                                  try clear c14
                                  try clear p14
                                  try clear q14
                                  try clear hx14
                                  try clear c15
                                  try clear c15b0
                                  try clear c16
                                  try clear c16b0
                                  try clear c17
                                  try clear c17b0
                                  try clear c18
                                  try clear c18b0
                                  try clear c25
                                  try clear c26
                                  try clear c26b0
                                  try clear c27
                                  try clear c27b0
                                  try clear c31
                                  try clear c31b0
                                  try clear c31b1
                                  try clear hcz23_0
                                  try clear hcz23_1
                                  try clear hcz23_2
                                  try clear hcz23_3
                                  try clear hcz23_4
                                  try clear hcz23_5
                                  try clear hcz29_0
                                  try clear hcz29_1
                                  try clear hcz29_2
                                  try clear hcz29_3
                                  try clear hcz29_4
                                  try clear hcz29_5
                                  try clear hcz33_0
                                  try clear hcz33_1
                                  try clear hcz33_2
                                  try clear hcz33_3
                                  try clear hcz33_4
                                  try clear hcz33_5
                                  try clear hfz23_0
                                  try clear hfz23_1
                                  try clear hfz23_2
                                  try clear hfz23_3
                                  try clear hfz23_4
                                  try clear hfz23_5
                                  try clear hfz29_0
                                  try clear hfz29_1
                                  try clear hfz29_2
                                  try clear hfz29_3
                                  try clear hfz29_4
                                  try clear hfz29_5
                                  try clear hfz33_0
                                  try clear hfz33_1
                                  try clear hfz33_2
                                  try clear hfz33_3
                                  try clear hfz33_4
                                  try clear hfz33_5
                                  try clear hx123_0
                                  try clear hx124_0
                                  try clear hx124_1
                                  try clear hx124_2
                                  try clear hx124_3
                                  try clear hx124_4
                                  try clear hx124_5
                                  try clear hx139_0
                                  try clear hx139_1
                                  try clear hx140_0
                                  try clear hx140_1
                                  try clear hx8_0
                                  try clear p1
                                  try clear p12
                                  try clear p123
                                  try clear p124
                                  try clear p139
                                  try clear p140
                                  try clear p2
                                  try clear p6
                                  try clear p8
                                  try clear q1
                                  try clear q12
                                  try clear q123
                                  try clear q124
                                  try clear q139
                                  try clear q140
                                  try clear q8
                                  obtain ⟨kq, x10_27, rfl, HA, HJ27, HO_4, HO_5, HO_6, HO_136004, HO_136005, BK135, HB⟩ := hcut
                                  cases kq with
                                  | zero => exact absurd HA.out (by simp [lockgateref20_Renumber.j2])
                                  | succ kj27 =>
                                    have H := HA.out
                                    clear HA
                                    simp only [lockgateref20_Renumber.j2] at H
                                    by_cases c34 : x10_27 < 0
                                    · rw [if_pos c34] at H
                                      have c34b0 : decide (x10_27 < 0) = true := decide_eq_true c34
                                      clear c34
                                      by_cases c35 : 0 ≤ x9_2
                                      · rw [if_pos c35] at H
                                        have c35b0 : decide (0 ≤ x9_2) = true := decide_eq_true c35
                                        clear c35
                                        by_cases c36 : x9_2 < (x136005_2.length : Int)
                                        · rw [if_pos c36] at H
                                          have c36b0 : decide (x9_2 < (x136005_2.length : Int)) = true := decide_eq_true c36
                                          clear c36
                                          obtain ⟨y142, hy142⟩ : ∃ y_ : List (S32), y_ = (x136005_2.set (x9_2 : Int).toNat (⟨0, (⟨#[]⟩ : ByteArray)⟩ : S32)) := ⟨_, rfl⟩
                                          replace H : (lockgateref20_Renumber.l1 kj27 l0 x4_2 x5_2 x6_1 x7_1 (wrap64 (x9_2 + 1)) (wrap64 (x7_1 + 1)) t126 t127 t128 t129 y142) = some r := by first | (rw [hy142]; with_reducible exact H) | (have H2_ := (Option.bind_some _ _).symm.trans H; rw [hy142]; with_reducible exact H2_) | (have H2_ := (Option.bind_some _ _).symm.trans H; with_reducible exact H2_) | with_reducible exact H | (rw [hy142]; exact H) | exact H
                                          have Ny142 := Aside0.mk hy142
                                          clear hy142
                                          have H' := Aside0.mk H
                                          clear H
                                          have hcz38_0 : wc.cell? ⟨gb135, 0, none⟩ = some (.int .i64 (wrap64 (x7_1 + 1))) := (blk_cell BK135.out 0).trans rfl
                                          have hcz38_1 : wc.cell? ⟨gb135, 1, none⟩ = some (.int .i64 t126) := (blk_cell BK135.out 1).trans rfl
                                          have hcz38_2 : wc.cell? ⟨gb135, 2, none⟩ = some (.int .i64 t127) := (blk_cell BK135.out 2).trans rfl
                                          have hcz38_3 : wc.cell? ⟨gb135, 3, none⟩ = some (.int .i64 t128) := (blk_cell BK135.out 3).trans rfl
                                          have hcz38_4 : wc.cell? ⟨gb135, 4, none⟩ = some (.slice Ao24 t129.length co24) := (blk_cell BK135.out 4).trans rfl
                                          have hcz38_5 : wc.cell? ⟨gb135, 5, none⟩ = some (.slice (some ad139) x136005_2.length co30) := (blk_cell BK135.out 5).trans rfl
                                          have hfz38_0 := blk_frozen BK135.out 0
                                          have hfz38_1 := blk_frozen BK135.out 1
                                          have hfz38_2 := blk_frozen BK135.out 2
                                          have hfz38_3 := blk_frozen BK135.out 3
                                          have hfz38_4 := blk_frozen BK135.out 4
                                          have hfz38_5 := blk_frozen BK135.out 5
                                          have p37 : 0 ≤ (x9_2 : Int) := of_decide_eq_true (by first | (with_reducible assumption) | assumption)
                                          have q37 : (x9_2 : Int) < ((x136005_2.length : Int) : Int) := of_decide_eq_true (by first | (with_reducible assumption) | assumption)
                                          obtain ⟨go37, co37, eo37, gb37, gl37, cl37, HG37⟩ := Kd.R_form HO_136005.out (by omega)
                                          (first | cases eo37 | (injection eo37 with ea_ en_ ec_; (first | subst ea_ | (injection ea_ with ea_; subst ea_)); subst ec_; clear en_))
                                          have GB37 := Aside0.mk gb37
                                          have GG37 := Aside0.mk HG37
                                          clear gb37 gl37 HG37
                                          (first | simp only [add_plain] at hx139_0 | skip)
                                          (first | simp only [add_plain] at hx139_1 | skip)
                                          (first | simp only [add_plain] at hx140_0 | skip)
                                          (first | simp only [add_plain] at hx140_1 | skip)
                                          obtain ⟨ce37, hcl37, hM37, hcc37, hfr37⟩ := Kd.R_elem HO_136005.out z32 (x9_2 : Int) p37 q37
                                          obtain rfl := k32_openM hM37
                                          have hx37_0 : wc.cell? ⟨go37, (x9_2 : Int).toNat * 2, none⟩ = some (.int .i64 ((rd_T32 x136005_2 x9_2).f0)) := hcc37 0 _ rfl
                                          have hx37_1 : wc.cell? ⟨go37, (x9_2 : Int).toNat * 2 + 1, none⟩ = some (.string ((rd_T32 x136005_2 x9_2).f1)) := hcc37 1 _ rfl
                                          have hf37_0 : wc.frozen? ⟨go37, (x9_2 : Int).toNat * 2, none⟩ = false := hfr37 0
                                          have hf37_1 : wc.frozen? ⟨go37, (x9_2 : Int).toNat * 2 + 1, none⟩ = false := hfr37 1
                                          clear hcl37 hcc37 hfr37 hM37
                                          replace p37 := eq_true p37
                                          replace q37 := eq_true q37
                                          have HX39 := Aside0.mk (show Kd.R k32 32 wc w.heap.size (fun _ => True) (.slice (some ⟨go37, 0, none⟩) x136005_2.length co30) x136005_2 from (by (with_reducible repeat (first | apply Kd.R_alloc | apply Kd.R_drewN | apply Kd.R_drew)); exact HO_136005.out))
                                          obtain ⟨ce39, hcl39, hM39, hcc39, hfr39⟩ := Kd.R_elem HX39.out z32 (x9_2 : Int) (of_decide_eq_true (by first | (with_reducible assumption) | assumption)) (by have h_ : (x9_2 : Int) < ((x136005_2.length : Int) : Int) := of_decide_eq_true (by first | (with_reducible assumption) | assumption); first | exact h_ | (have e_ := (Kd.R_reads' HO_136005.out).1; omega) | simpa using h_)
                                          obtain rfl := k32_openM hM39
                                          have HP39 := Kd.R_seg HX39.out (x9_2 : Int) (of_decide_eq_true (by first | (with_reducible assumption) | assumption)) (by have h_ : (x9_2 : Int) < ((x136005_2.length : Int) : Int) := of_decide_eq_true (by first | (with_reducible assumption) | assumption); first | exact h_ | (have e_ := (Kd.R_reads' HO_136005.out).1; omega) | simpa using h_) (seg := [.int .i64 0, .string (⟨#[]⟩ : ByteArray)]) (j := 0) hcl39 hcc39 (show 2 ≤ 2 from by decide) (x' := (⟨0, (⟨#[]⟩ : ByteArray)⟩ : S32)) (k32_mkM _ _ _ (⟨0, (⟨#[]⟩ : ByteArray)⟩ : S32) ) (fun _ hk => hk)
                                          have hx39_0 := hcc39 0 _ rfl
                                          (try simp only [show (k32).sz = 2 from rfl, Nat.mul_one, Nat.add_zero] at hx39_0)
                                          have hf39_0 := hfr39 0
                                          (try simp only [show (k32).sz = 2 from rfl, Nat.mul_one, Nat.add_zero] at hf39_0)
                                          have hx39_1 := hcc39 1 _ rfl
                                          (try simp only [show (k32).sz = 2 from rfl, Nat.mul_one, Nat.add_zero] at hx39_1)
                                          have hf39_1 := hfr39 1
                                          (try simp only [show (k32).sz = 2 from rfl, Nat.mul_one, Nat.add_zero] at hf39_1)
                                          clear hcl39 hcc39 hfr39 hM39
                                          go_wp2_with (first | ((with_reducible refine gate_store (t := 32) (p := 68) rfl ?_); refine store_event (t := 32) (p := 68) (v := ?vo_w40) (w1 := ((wc.setCell ⟨go37, (x9_2 : Int).toNat * 2, none⟩ (.int .i64 0)).setCell ⟨go37, (x9_2 : Int).toNat * 2 + 1, none⟩ (.string (⟨#[]⟩ : ByteArray)))) ?hg ?ho ?hn ?hr ?_; (case ho => rfl); (case hg => rfl); (case hn => rfl); (case hr => first | (go_simp; done) | (go_simp; rfl)); intro w40 hw; have hg : wc.grownBy w40 (some go37) := (by rw [hw]; exact HP39.2); have hp_ : Kd.R k32 32 w40 w.heap.size (fun _ => True) (.slice (some ⟨go37, 0, none⟩) x136005_2.length co30) y142 := (by rw [hw, Ny142.out]; exact HP39.1); clear HP39; have n0_ := Aside0.mk (Kd.R_over' (v := (.slice (some ⟨go37, 0, none⟩) x136005_2.length co30)) (by (with_reducible repeat (first | apply Kd.R_alloc | apply Kd.R_drewN | apply Kd.R_drew)); exact HO_4.out) (Kd.R_typed HO_136005.out) (by decide) hg); have n1_ := Aside0.mk (Kd.R_over' (v := (.slice (some ⟨go37, 0, none⟩) x136005_2.length co30)) (by (with_reducible repeat (first | apply Kd.R_alloc | apply Kd.R_drewN | apply Kd.R_drew)); exact HO_5.out) (Kd.R_typed HO_136005.out) (by decide) hg); have n2_ := Aside0.mk (Kd.R_after (v := (.slice (some ⟨go37, 0, none⟩) x136005_2.length co30)) (v1 := (.slice (some ⟨go37, 0, none⟩) x136005_2.length co30)) (ok := (fun k_ => some k_ ≠ (.slice Ao24 t129.length co24 : Value).ownBlock ∧ k_ ≠ gb135)) (by (with_reducible repeat (first | apply Kd.R_alloc | apply Kd.R_drewN | apply Kd.R_drew)); exact Kd.R_mono HO_6.out (fun _ hk => ⟨⟨hk.1, hk.2.2⟩, hk.2.1⟩)) hg (.inl rfl)); have n3_ := Aside0.mk (Kd.S_over' (v := (.slice (some ⟨go37, 0, none⟩) x136005_2.length co30)) (by (with_reducible repeat (first | apply Kd.S_alloc | apply Kd.S_drewN | apply Kd.S_drew)); exact HO_136004.out) (Kd.R_typed HO_136005.out) (by decide) hg); have n4_ := Aside0.mk (hp_); have n5_ := Aside0.mk (blk_grown (g := gb135) (o := .cells #[.int .i64 (wrap64 (x7_1 + 1)), .int .i64 t126, .int .i64 t127, .int .i64 t128, .slice Ao24 t129.length co24, .slice (some ⟨go37, 0, none⟩) x136005_2.length co30] 30 (0, 0)) (by (with_reducible repeat (first | refine blk_drewN ?_ _ | refine blk_drew ?_ | refine blk_alloc ?_ _)); exact BK135.out) hg (Kd.R_ne HO_136005.out BK135.out (by decide))); have n6_ := Aside0.mk ((by rw [hw]; exact below_set (below_set (HB.out) GB37.out) GB37.out : Below w.heap.size w w40)); clear HO_4; clear HO_5; clear HO_6; clear HO_136004; clear HO_136005; clear BK135; clear HB; have HO_4 := n0_; have HO_5 := n1_; have HO_6 := n2_; have HO_136004 := n3_; have HO_136005 := n4_; have BK135 := n5_; have HB := n6_; clear n0_ n1_ n2_ n3_ n4_ n5_ n6_; clear hg hw hp_))
                                          (try simp only [← hl4_2])
                                          go_roundg kj27
                                          case measure => have := HK1.out; have := HK2.out; have := HJ27.out; omega
                                          case rel => exact ⟨(x4_2), (x5_2), (wrap64 (x9_2 + 1)), (y142), (.slice (some ⟨go37, 0, none⟩) x136005_2.length co30), (by first | rfl | (simp; done) | (simp [*]; done)), H', ⟨by have := HK1.out; have := HK2.out; have := HJ27.out; omega⟩, ⟨by (try simp only [hl4_1]); (try simp only [hl4_2]); (with_reducible repeat (first | apply Kd.R_alloc | apply Kd.R_drewN | apply Kd.R_drew)); exact HO_4.out⟩, ⟨by (try simp only [hl4_1]); (try simp only [hl4_2]); (with_reducible repeat (first | apply Kd.R_alloc | apply Kd.R_drewN | apply Kd.R_drew)); exact HO_5.out⟩, ⟨by (try simp only [hl4_1]); (try simp only [hl4_2]); (with_reducible repeat (first | apply Kd.R_alloc | apply Kd.R_drewN | apply Kd.R_drew)); exact Kd.R_mono HO_6.out (fun _ hk => ⟨hk.1.1, ⟨hk.2, hk.1.2⟩⟩)⟩, ⟨by (try simp only [hl4_1]); (try simp only [hl4_2]); (with_reducible repeat (first | apply Kd.S_alloc | apply Kd.S_drewN | apply Kd.S_drew)); exact HO_136004.out⟩, ⟨by (try simp only [hl4_1]); (try simp only [hl4_2]); (with_reducible repeat (first | apply Kd.R_alloc | apply Kd.R_drewN | apply Kd.R_drew)); exact HO_136005.out⟩, ⟨by (try simp only [hl4_1]); (try simp only [hl4_2]); (with_reducible repeat (first | refine blk_drewN ?_ _ | refine blk_drew ?_ | refine blk_alloc ?_ _)); exact BK135.out⟩, ⟨by repeat (first | (with_reducible first | exact HB.out | apply below_alloc | apply pw_below_drewN | apply below_drew1 | refine below_set ?_ GE135.out) | exact HB.out)⟩⟩
                                        · rw [if_neg c36] at H
                                          exact absurd H (by simp)
                                      · rw [if_neg c35] at H
                                        exact absurd H (by simp)
                                    · rw [if_neg c34] at H
                                      have c34b0 : decide (x10_27 < 0) = false := decide_eq_false c34
                                      clear c34
                                      by_cases c41 : 0 ≤ x10_27
                                      · rw [if_pos c41] at H
                                        have c41b0 : decide (0 ≤ x10_27) = true := decide_eq_true c41
                                        clear c41
                                        by_cases c42 : x10_27 < (x4_2.length : Int)
                                        · rw [if_pos c42] at H
                                          have c42b0 : decide (x10_27 < (x4_2.length : Int)) = true := decide_eq_true c42
                                          clear c42
                                          by_cases c43 : (rd x4_2 x10_27) = 0
                                          · rw [if_pos c43] at H
                                            have c43b0 : ((rd x4_2 x10_27) == 0) = true := beq_iff_eq.mpr c43
                                            have c43b1 : ((rd x4_2 x10_27) != 0) = false := bne_eq_false_iff_eq.mpr c43
                                            clear c43
                                            by_cases c44 : x5_2.length < 17592186044416
                                            · rw [if_pos c44] at H
                                              have LMc44 := Aside0.mk c44
                                              clear c44
                                              obtain ⟨y144, hy144⟩ : ∃ y_ : List Int, y_ = (x5_2 ++ [x10_27]) := ⟨_, rfl⟩
                                              replace H : ((some (x4_2.set (x10_27 : Int).toNat (y144.length : Int) : List Int)).bind fun y147 => (if 0 ≤ x9_2 then (if x9_2 < (x136005_2.length : Int) then (lockgateref20_Renumber.l1 kj27 l0 y147 y144 x6_1 x7_1 (wrap64 (x9_2 + 1)) (wrap64 (x7_1 + 1)) t126 t127 t128 t129 (x136005_2.set (x9_2 : Int).toNat (⟨rd y147 x10_27, (rd_T32 x136005_2 x9_2).f1⟩ : S32))) else (none)) else (none))) = some r := by first | (rw [hy144]; with_reducible exact H) | (have H2_ := (Option.bind_some _ _).symm.trans H; rw [hy144]; with_reducible exact H2_) | (have H2_ := (Option.bind_some _ _).symm.trans H; with_reducible exact H2_) | with_reducible exact H | (rw [hy144]; exact H) | exact H
                                              have Ny144 := Aside0.mk hy144
                                              clear hy144
                                              obtain ⟨y147, hy147⟩ : ∃ y_ : List Int, y_ = (x4_2.set (x10_27 : Int).toNat (y144.length : Int)) := ⟨_, rfl⟩
                                              replace H : (if 0 ≤ x9_2 then (if x9_2 < (x136005_2.length : Int) then (lockgateref20_Renumber.l1 kj27 l0 y147 y144 x6_1 x7_1 (wrap64 (x9_2 + 1)) (wrap64 (x7_1 + 1)) t126 t127 t128 t129 (x136005_2.set (x9_2 : Int).toNat (⟨rd y147 x10_27, (rd_T32 x136005_2 x9_2).f1⟩ : S32))) else (none)) else (none)) = some r := by first | (rw [hy147]; with_reducible exact H) | (have H2_ := (Option.bind_some _ _).symm.trans H; rw [hy147]; with_reducible exact H2_) | (have H2_ := (Option.bind_some _ _).symm.trans H; with_reducible exact H2_) | with_reducible exact H | (rw [hy147]; exact H) | exact H
                                              have Ny147 := Aside0.mk hy147
                                              clear hy147
                                              by_cases c46 : 0 ≤ x9_2
                                              · rw [if_pos c46] at H
                                                have c46b0 : decide (0 ≤ x9_2) = true := decide_eq_true c46
                                                clear c46
                                                by_cases c47 : x9_2 < (x136005_2.length : Int)
                                                · rw [if_pos c47] at H
                                                  have c47b0 : decide (x9_2 < (x136005_2.length : Int)) = true := decide_eq_true c47
                                                  clear c47
                                                  obtain ⟨y149, hy149⟩ : ∃ y_ : List (S32), y_ = (x136005_2.set (x9_2 : Int).toNat (⟨rd y147 x10_27, (rd_T32 x136005_2 x9_2).f1⟩ : S32)) := ⟨_, rfl⟩
                                                  replace H : (lockgateref20_Renumber.l1 kj27 l0 y147 y144 x6_1 x7_1 (wrap64 (x9_2 + 1)) (wrap64 (x7_1 + 1)) t126 t127 t128 t129 y149) = some r := by first | (rw [hy149]; with_reducible exact H) | (have H2_ := (Option.bind_some _ _).symm.trans H; rw [hy149]; with_reducible exact H2_) | (have H2_ := (Option.bind_some _ _).symm.trans H; with_reducible exact H2_) | with_reducible exact H | (rw [hy149]; exact H) | exact H
                                                  have Ny149 := Aside0.mk hy149
                                                  clear hy149
                                                  have H' := Aside0.mk H
                                                  clear H
                                                  have p143 : 0 ≤ (x10_27 : Int) := of_decide_eq_true (by first | (with_reducible assumption) | assumption)
                                                  have q143 : x10_27 < (x4_2.length : Int) := of_decide_eq_true (by first | (with_reducible assumption) | assumption)
                                                  obtain ⟨ad143, e143, hx143_0⟩ := Kd.at_int (Kd.R_reads' HO_4.out).2.2 x10_27 p143 q143
                                                  obtain rfl : (⟨go8, 0, none⟩ : Addr) = ad143 := (by injection e143)
                                                  (first | simp only [add_plain] at hx143_0 | simp only [add_at] at hx143_0 | simp only [Addr.add, Nat.zero_add] at hx143_0 | skip)
                                                  replace p143 := eq_true p143
                                                  replace q143 := eq_true q143
                                                  try go_wp2_with (first | ((with_reducible refine gate_builtin (b := .append) (xs := #[.tmp 74, .tmp 76]) rfl ?_); at_builtin; refine Kd.R_append (Kd.int .i64) (w0 := w) w.heap.size rfl (.tmp 74) (.tmp 76) 52 3 (.int .i64 0) 8 rfl Try.underlying52 info3 rfl (by decide) (by omega) u5 x5_2 x10_27 [.int .i64 x10_27] (fun k_ => some k_ ≠ (.slice (some ⟨go8, 0, none⟩) x4_2.length co8 : Value).ownBlock) (fun _ => False) rfl rfl ?aP (fun _ hk => hk.elim) ?aF ?aO ?aB ?aS ?aL ?_; (case aP => exact rfl); (case aB => exact (by repeat (first | (with_reducible first | exact HB.out | apply below_alloc | apply pw_below_drewN | apply below_drew1 | refine below_set ?_ GE135.out) | exact HB.out))); (case aF => exact (fun k_ hk => Kd.fresh' (Kd.R_lt (by (with_reducible repeat (first | apply Kd.R_alloc | apply Kd.R_drewN | apply Kd.R_drew)); exact HO_4.out)) k_ hk)); (case aO => exact (by (with_reducible repeat (first | apply Kd.R_alloc | apply Kd.R_drewN | apply Kd.R_drew)); exact HO_5.out)); (case aS => exact (below_size (by repeat (first | (with_reducible first | exact HB.out | apply below_alloc | apply pw_below_drewN | apply below_drew1 | refine below_set ?_ GE135.out) | exact HB.out)))); (case aL => have := LMc44.out; omega); intro v145 w49 ho hb hg hat; rw [← Ny144.out] at ho; have n0_ := Aside0.mk (Kd.R_after (ok := (fun _ => True)) (by (with_reducible repeat (first | apply Kd.R_alloc | apply Kd.R_drewN | apply Kd.R_drew)); exact Kd.R_mono HO_4.out (fun _ hk => ⟨trivial, hk⟩)) hg hat); have n1_ := Aside0.mk (Kd.R_over' (by (with_reducible repeat (first | apply Kd.R_alloc | apply Kd.R_drewN | apply Kd.R_drew)); exact HO_6.out) (Kd.R_typed (by (with_reducible repeat (first | apply Kd.R_alloc | apply Kd.R_drewN | apply Kd.R_drew)); exact HO_5.out)) (by decide) hg); have n2_ := Aside0.mk (Kd.S_over' (by (with_reducible repeat (first | apply Kd.S_alloc | apply Kd.S_drewN | apply Kd.S_drew)); exact HO_136004.out) (Kd.R_typed (by (with_reducible repeat (first | apply Kd.R_alloc | apply Kd.R_drewN | apply Kd.R_drew)); exact HO_5.out)) (by decide) hg); have n3_ := Aside0.mk (Kd.R_over' (by (with_reducible repeat (first | apply Kd.R_alloc | apply Kd.R_drewN | apply Kd.R_drew)); exact HO_136005.out) (Kd.R_typed (by (with_reducible repeat (first | apply Kd.R_alloc | apply Kd.R_drewN | apply Kd.R_drew)); exact HO_5.out)) (by decide) hg); have n4_ := Aside0.mk (blk_grown (g := gb135) (o := .cells #[.int .i64 (wrap64 (x7_1 + 1)), .int .i64 t126, .int .i64 t127, .int .i64 t128, .slice Ao24 t129.length co24, .slice (some ad139) x136005_2.length co30] 30 (0, 0)) (by (with_reducible repeat (first | refine blk_drewN ?_ _ | refine blk_drew ?_ | refine blk_alloc ?_ _)); exact BK135.out) hg (Kd.R_ne HO_5.out BK135.out (by decide))); have n5_ := Aside0.mk (hb); have n6_ := Aside0.mk (ho); clear HO_4; clear HO_6; clear HO_136004; clear HO_136005; clear BK135; clear HB; clear HO_5; have HO_4 := n0_; have HO_6 := n1_; have HO_136004 := n2_; have HO_136005 := n3_; have BK135 := n4_; have HB := n5_; have HO146 := n6_; clear n0_ n1_ n2_ n3_ n4_ n5_ n6_; clear ho hb hg hat; obtain ⟨Ao50, co50, eo50⟩ := Kd.R_slice HO146.out; subst eo50; have p45 : 0 ≤ (x10_27 : Int) := of_decide_eq_true (by first | (with_reducible assumption) | assumption); have q45 : (x10_27 : Int) < ((x4_2.length : Int) : Int) := of_decide_eq_true (by first | (with_reducible assumption) | assumption); obtain ⟨hx45_0, hf45_0⟩ := Kd.R_celln 0 HO_4.out (x10_27 : Int) p45 q45; replace p45 := eq_true p45; replace q45 := eq_true q45; have n_ := Aside0.mk (Kd.R_mono (ok' := (fun k_ => some k_ ≠ (.slice Ao50 y144.length co50 : Value).ownBlock)) HO_4.out (fun k_ hk => hk.2)); clear HO_4; have HO_4 := n_; clear n_; obtain ⟨hy51_, hz51_⟩ := Kd.R_celln 0 HO_4.out (x10_27 : Int) (of_decide_eq_true (by first | (with_reducible assumption) | assumption)) (of_decide_eq_true (by first | (with_reducible assumption) | assumption)); have HP51 := Kd.R_putg HO_4.out (x10_27 : Int) (y144.length : Int)) | ((with_reducible refine gate_store (t := 3) (p := 82) rfl ?_); refine store_event (t := 3) (p := 82) (v := ?vo_w52) (w1 := (w49.setCell ⟨go8, (x10_27 : Int).toNat, none⟩ (.int .i64 (y144.length : Int)))) ?hg ?ho ?hn ?hr ?_; (case ho => rfl); (case hg => rfl); (case hn => rfl); (case hr => first | (go_simp; done) | (go_simp; rfl)); intro w52 hw; have hg : w49.grownBy w52 (some go8) := (by rw [hw]; exact HP51.2); have hp_ : Kd.R (Kd.int .i64) 3 w52 w.heap.size (fun k_ => some k_ ≠ (.slice Ao50 y144.length co50 : Value).ownBlock) (.slice (some ⟨go8, 0, none⟩) x4_2.length co8) y147 := (by rw [hw, Ny147.out]; exact HP51.1); clear HP51; have n0_ := Aside0.mk (hp_); have n1_ := Aside0.mk (Kd.R_over' (v := (.slice (some ⟨go8, 0, none⟩) x4_2.length co8)) (by (with_reducible repeat (first | apply Kd.R_alloc | apply Kd.R_drewN | apply Kd.R_drew)); exact HO_6.out) (Kd.R_typed HO_4.out) (by decide) hg); have n2_ := Aside0.mk (Kd.S_over' (v := (.slice (some ⟨go8, 0, none⟩) x4_2.length co8)) (by (with_reducible repeat (first | apply Kd.S_alloc | apply Kd.S_drewN | apply Kd.S_drew)); exact HO_136004.out) (Kd.R_typed HO_4.out) (by decide) hg); have n3_ := Aside0.mk (Kd.R_over' (v := (.slice (some ⟨go8, 0, none⟩) x4_2.length co8)) (by (with_reducible repeat (first | apply Kd.R_alloc | apply Kd.R_drewN | apply Kd.R_drew)); exact HO_136005.out) (Kd.R_typed HO_4.out) (by decide) hg); have n4_ := Aside0.mk (blk_grown (g := gb135) (o := .cells #[.int .i64 (wrap64 (x7_1 + 1)), .int .i64 t126, .int .i64 t127, .int .i64 t128, .slice Ao24 t129.length co24, .slice (some ad139) x136005_2.length co30] 30 (0, 0)) (by (with_reducible repeat (first | refine blk_drewN ?_ _ | refine blk_drew ?_ | refine blk_alloc ?_ _)); exact BK135.out) hg (Kd.R_ne HO_4.out BK135.out (by decide))); have n5_ := Aside0.mk (Kd.R_after (v := (.slice (some ⟨go8, 0, none⟩) x4_2.length co8)) (v1 := (.slice (some ⟨go8, 0, none⟩) x4_2.length co8)) (ok := (fun _ => True)) (by (with_reducible repeat (first | apply Kd.R_alloc | apply Kd.R_drewN | apply Kd.R_drew)); exact Kd.R_mono HO146.out (fun _ hk => ⟨trivial, hk⟩)) hg (.inl rfl)); have n6_ := Aside0.mk ((by rw [hw]; exact below_set (HB.out) GB8.out : Below w.heap.size w w52)); clear HO_4; clear HO_6; clear HO_136004; clear HO_136005; clear BK135; clear HO146; clear HB; have HO_4 := n0_; have HO_6 := n1_; have HO_136004 := n2_; have HO_136005 := n3_; have BK135 := n4_; have HO146 := n5_; have HB := n6_; clear n0_ n1_ n2_ n3_ n4_ n5_ n6_; clear hg hw hp_))
                                                  have n0_ := Aside0.mk (Kd.R_drew HO_4.out)
                                                  have n1_ := Aside0.mk (Kd.R_drew HO_6.out)
                                                  have n2_ := Aside0.mk (Kd.S_drew HO_136004.out)
                                                  have n3_ := Aside0.mk (Kd.R_drew HO_136005.out)
                                                  have n4_ := Aside0.mk (Kd.R_drew HO146.out)
                                                  have n5_ := Aside0.mk (blk_drew BK135.out)
                                                  have n6_ := Aside0.mk (below_drew1 HB.out)
                                                  clear HO_4
                                                  clear HO_6
                                                  clear HO_136004
                                                  clear HO_136005
                                                  clear HO146
                                                  clear BK135
                                                  clear HB
                                                  have HO_4 := n0_
                                                  have HO_6 := n1_
                                                  have HO_136004 := n2_
                                                  have HO_136005 := n3_
                                                  have HO146 := n4_
                                                  have BK135 := n5_
                                                  have HB := n6_
                                                  clear n0_ n1_ n2_ n3_ n4_ n5_ n6_
                                                  have p148 : 0 ≤ (x10_27 : Int) := of_decide_eq_true (by first | (with_reducible assumption) | assumption)
                                                  have q148 : x10_27 < (y147.length : Int) := (by have h_ : (x10_27 : Int) < ((x4_2.length : Int) : Int) := of_decide_eq_true (by first | (with_reducible assumption) | assumption); first | (have e_ := (Kd.R_reads' HO_4.out).1; omega) | simpa only [Ny147.out, List.length_set] using h_)
                                                  have ql148 : ((x10_27 : Int) < ((x4_2.length : Int) : Int)) = True := eq_true (of_decide_eq_true (by first | (with_reducible assumption) | assumption))
                                                  obtain ⟨ad148, e148, hx148_0⟩ := Kd.at_int (Kd.R_reads' HO_4.out).2.2 x10_27 p148 q148
                                                  obtain rfl : (⟨go8, 0, none⟩ : Addr) = ad148 := (by injection e148)
                                                  (first | simp only [add_plain] at hx148_0 | simp only [add_at] at hx148_0 | simp only [Addr.add, Nat.zero_add] at hx148_0 | skip)
                                                  replace p148 := eq_true p148
                                                  replace q148 := eq_true q148
                                                  have p48 : 0 ≤ (x9_2 : Int) := of_decide_eq_true (by first | (with_reducible assumption) | assumption)
                                                  have q48 : (x9_2 : Int) < ((x136005_2.length : Int) : Int) := of_decide_eq_true (by first | (with_reducible assumption) | assumption)
                                                  obtain ⟨go48, co48, eo48, gb48, gl48, cl48, HG48⟩ := Kd.R_form HO_136005.out (by omega)
                                                  (first | cases eo48 | (injection eo48 with ea_ en_ ec_; (first | subst ea_ | (injection ea_ with ea_; subst ea_)); subst ec_; clear en_))
                                                  have GB48 := Aside0.mk gb48
                                                  have GG48 := Aside0.mk HG48
                                                  clear gb48 gl48 HG48
                                                  obtain ⟨ce48, hcl48, hM48, hcc48, hfr48⟩ := Kd.R_elem HO_136005.out z32 (x9_2 : Int) p48 q48
                                                  obtain rfl := k32_openM hM48
                                                  have hx48_0 : World.cell? _ ⟨go48, (x9_2 : Int).toNat * 2, none⟩ = some (.int .i64 ((rd_T32 x136005_2 x9_2).f0)) := hcc48 0 _ rfl
                                                  have hx48_1 : World.cell? _ ⟨go48, (x9_2 : Int).toNat * 2 + 1, none⟩ = some (.string ((rd_T32 x136005_2 x9_2).f1)) := hcc48 1 _ rfl
                                                  have hf48_0 : World.frozen? _ ⟨go48, (x9_2 : Int).toNat * 2, none⟩ = false := hfr48 0
                                                  have hf48_1 : World.frozen? _ ⟨go48, (x9_2 : Int).toNat * 2 + 1, none⟩ = false := hfr48 1
                                                  clear hcl48 hcc48 hfr48 hM48
                                                  replace p48 := eq_true p48
                                                  replace q48 := eq_true q48
                                                  obtain ⟨ce54, hcl54, hM54, hcc54, hfr54⟩ := Kd.R_elem HO_136005.out z32 (x9_2 : Int) (of_decide_eq_true (by first | (with_reducible assumption) | assumption)) (by have h_ : (x9_2 : Int) < ((x136005_2.length : Int) : Int) := of_decide_eq_true (by first | (with_reducible assumption) | assumption); first | exact h_ | (have e_ := (Kd.R_reads' HO_136005.out).1; omega) | simpa using h_)
                                                  obtain rfl := k32_openM hM54
                                                  have HP54 := (Kd.R_seg HO_136005.out (x9_2 : Int) (of_decide_eq_true (by first | (with_reducible assumption) | assumption)) (by have h_ : (x9_2 : Int) < ((x136005_2.length : Int) : Int) := of_decide_eq_true (by first | (with_reducible assumption) | assumption); first | exact h_ | (have e_ := (Kd.R_reads' HO_136005.out).1; omega) | simpa using h_) (seg := [.int .i64 (rd y147 x10_27)]) (j := 0) hcl54 hcc54 (show 1 ≤ 2 from by decide) (x' := (⟨rd y147 x10_27, (rd_T32 x136005_2 x9_2).f1⟩ : S32)) (k32_mkM _ _ _ (⟨rd y147 x10_27, (rd_T32 x136005_2 x9_2).f1⟩ : S32) ) (fun _ hk => hk)).1
                                                  rw [← Ny149.out] at HP54
                                                  have HQ54 := Aside0.mk HP54
                                                  clear hcl54 hcc54 hfr54 hM54 HP54
                                                  refine start_ (n := 10) (S := fun w' => w'.cell? ⟨gb135, 0, none⟩ = some (.int .i64 (wrap64 (x7_1 + 1))) ∧ w'.cell? ⟨gb135, 1, none⟩ = some (.int .i64 t126) ∧ w'.cell? ⟨gb135, 2, none⟩ = some (.int .i64 t127) ∧ w'.cell? ⟨gb135, 3, none⟩ = some (.int .i64 t128) ∧ w'.cell? ⟨gb135, 4, none⟩ = some (.slice Ao24 t129.length co24) ∧ w'.cell? ⟨gb135, 5, none⟩ = some (.slice (some ⟨go48, 0, none⟩) x136005_2.length co30) ∧ w'.cell? ⟨go8, (x10_27).toNat, none⟩ = some (.int .i64 (rd y147 x10_27))) (ds := [9]) #[false, false, false, false, false, false, false, false, false, false] (by kernel_rfl) rfl rfl ⟨(blk_cell BK135.out 0).trans rfl, (blk_cell BK135.out 1).trans rfl, (blk_cell BK135.out 2).trans rfl, (blk_cell BK135.out 3).trans rfl, (blk_cell BK135.out 4).trans rfl, (blk_cell BK135.out 5).trans rfl, hx148_0⟩ (fun hHeld => ?_); refine with_tabW lockgateref20_Renumber.tab24 lockgateref20_Renumber.bits24 (fun HT_ HW_ => ?_)
                                                  generalize w52.drew = w53 at HO_4 HO_6 HO_136004 HO_136005 HO146 BK135 HB GG48 HQ54 hf48_0 hf48_1 hx148_0 hx48_0 hx48_1 hHeld ⊢
                                                  refine pure_ (i := 0) (N := some 83) (v := ?_) (a' := ?_) #[true, false, false, false, false, false, false, false, false, false] rfl rfl (any_of HT_.out (by kernel_rfl)) (fun _ _ _ h => h) (Or.inl ⟨by rfl, ?_⟩) ?_ ?_
                                                  rotate_left
                                                  · intro w'
                                                    go_simp
                                                    with_reducible rfl
                                                  rotate_left
                                                  · simp only [Act.put, List.setIfInBounds_toArray, List.set_cons_zero, List.set_cons_succ, i64_w, i32_w]
                                                    rfl
                                                  refine pure_ (i := 2) (N := some 85) (v := ?_) (a' := ?_) #[true, false, true, false, false, false, false, false, false, false] rfl rfl (any_of HT_.out (by kernel_rfl)) (fun _ _ _ h => h) (Or.inl ⟨by rfl, ?_⟩) ?_ ?_
                                                  rotate_left
                                                  · intro w'
                                                    go_simp
                                                    with_reducible rfl
                                                  rotate_left
                                                  · simp only [Act.put, List.setIfInBounds_toArray, List.set_cons_zero, List.set_cons_succ, i64_w, i32_w]
                                                    rfl
                                                  refine pure_ (i := 3) (N := some 86) (v := ?_) (a' := ?_) #[true, false, true, true, false, false, false, false, false, false] rfl rfl (any_of HT_.out (by kernel_rfl)) (fun _ _ _ h => h) (Or.inl ⟨by rfl, ?_⟩) ?_ ?_
                                                  rotate_left
                                                  · intro w'
                                                    go_simp
                                                    with_reducible rfl
                                                  rotate_left
                                                  · simp only [Act.put, List.setIfInBounds_toArray, List.set_cons_zero, List.set_cons_succ, i64_w, i32_w]
                                                    rfl
                                                  refine pure_ (i := 4) (N := some 87) (v := ?_) (a' := ?_) #[true, false, true, true, true, false, false, false, false, false] rfl rfl (any_of HT_.out (by kernel_rfl)) (fun _ _ _ h => h) (Or.inl ⟨by rfl, ?_⟩) ?_ ?_
                                                  rotate_left
                                                  · intro w'
                                                    go_simp
                                                    with_reducible rfl
                                                  rotate_left
                                                  · simp only [Act.put, List.setIfInBounds_toArray, List.set_cons_zero, List.set_cons_succ, i64_w, i32_w]
                                                    rfl
                                                  refine pure_ (i := 5) (N := some 88) (v := ?_) (a' := ?_) #[true, false, true, true, true, true, false, false, false, false] rfl rfl (any_of HT_.out (by kernel_rfl)) (fun _ _ _ h => h) (Or.inl ⟨by rfl, ?_⟩) ?_ ?_
                                                  rotate_left
                                                  · intro w'
                                                    go_simp
                                                    with_reducible rfl
                                                  rotate_left
                                                  · simp only [Act.put, List.setIfInBounds_toArray, List.set_cons_zero, List.set_cons_succ, i64_w, i32_w]
                                                    rfl
                                                  refine take_ (i := 1) (N := some 84) (v := ?_) (a' := ?_) #[true, true, true, true, true, true, false, false, false, false] rfl rfl (take_ofW HT_.out HW_.out (by kernel_rfl)) (fun _ _ _ h => h) (Or.inl ⟨by rfl, ?_⟩) hHeld ?_ ?_
                                                  rotate_left
                                                  · rintro w' ⟨s0, s1, s2, s3, s4, s5, s6⟩
                                                    go_simp
                                                    with_reducible rfl
                                                  rotate_left
                                                  · simp only [Act.put, List.setIfInBounds_toArray, List.set_cons_zero, List.set_cons_succ, i64_w, i32_w]
                                                    rfl
                                                  refine take_ (i := 6) (N := some 89) (v := ?_) (a' := ?_) #[true, true, true, true, true, true, true, false, false, false] rfl rfl (take_ofW HT_.out HW_.out (by kernel_rfl)) (fun _ _ _ h => h) (Or.inl ⟨by rfl, ?_⟩) hHeld ?_ ?_
                                                  rotate_left
                                                  · rintro w' ⟨s0, s1, s2, s3, s4, s5, s6⟩
                                                    go_simp
                                                    with_reducible rfl
                                                  rotate_left
                                                  · simp only [Act.put, List.setIfInBounds_toArray, List.set_cons_zero, List.set_cons_succ, i64_w, i32_w]
                                                    rfl
                                                  refine pure_ (i := 7) (N := some 90) (v := ?_) (a' := ?_) #[true, true, true, true, true, true, true, true, false, false] rfl rfl (any_of HT_.out (by kernel_rfl)) (fun _ _ _ h => h) (Or.inl ⟨by rfl, ?_⟩) ?_ ?_
                                                  rotate_left
                                                  · intro w'
                                                    go_simp
                                                    with_reducible rfl
                                                  rotate_left
                                                  · simp only [Act.put, List.setIfInBounds_toArray, List.set_cons_zero, List.set_cons_succ, i64_w, i32_w]
                                                    rfl
                                                  refine pure_ (i := 8) (N := some 91) (v := ?_) (a' := ?_) #[true, true, true, true, true, true, true, true, true, false] rfl rfl (any_of HT_.out (by kernel_rfl)) (fun _ _ _ h => h) (Or.inl ⟨by rfl, ?_⟩) ?_ ?_
                                                  rotate_left
                                                  · intro w'
                                                    go_simp
                                                    with_reducible rfl
                                                  rotate_left
                                                  · simp only [Act.put, List.setIfInBounds_toArray, List.set_cons_zero, List.set_cons_succ, i64_w, i32_w]
                                                    rfl
                                                  refine last_ (i := 9) (N := none) #[true, true, true, true, true, true, true, true, true, true] rfl rfl (one_of HT_.out (by kernel_rfl)) (by decide) (fun K hK => ?_)
                                                  refine skip_ (w1 := ?_) (by rfl) rfl ?_ ?_
                                                  rotate_left
                                                  · go_simp
                                                    rfl
                                                  refine hK.out _ _ ?_
                                                  clear hK K
                                                  refine done_ (done_of HT_.out (by kernel_rfl)) ?_
                                                  try go_wp2
                                                  (try simp only [← hl4_2])
                                                  go_roundg kj27
                                                  case measure => have := HK1.out; have := HK2.out; have := HJ27.out; omega
                                                  case rel => exact ⟨(y147), (y144), (wrap64 (x9_2 + 1)), (y149), (.slice (some ⟨go48, 0, none⟩) x136005_2.length co30), (by first | rfl | (simp; done) | (simp [*]; done)), H', ⟨by have := HK1.out; have := HK2.out; have := HJ27.out; omega⟩, ⟨by (try simp only [hl4_1]); (try simp only [hl4_2]); (with_reducible repeat (first | apply Kd.R_alloc | apply Kd.R_drewN | apply Kd.R_drew)); exact Kd.R_mono (Kd.R_far (p := ⟨go48, (x9_2 : Int).toNat * 2, none⟩) (Kd.R_types HO_4.out GG48.out (by decide)) (fun _ hk => hk.2) (.int .i64 (rd y147 x10_27))) (fun _ hk => hk.1)⟩, ⟨by (try simp only [hl4_1]); (try simp only [hl4_2]); (with_reducible repeat (first | apply Kd.R_alloc | apply Kd.R_drewN | apply Kd.R_drew)); exact Kd.R_mono (Kd.R_far (p := ⟨go48, (x9_2 : Int).toNat * 2, none⟩) (Kd.R_types HO146.out GG48.out (by decide)) (fun _ hk => hk.2) (.int .i64 (rd y147 x10_27))) (fun _ hk => hk.1.2)⟩, ⟨by (try simp only [hl4_1]); (try simp only [hl4_2]); (with_reducible repeat (first | apply Kd.R_alloc | apply Kd.R_drewN | apply Kd.R_drew)); exact Kd.R_mono (Kd.R_far (p := ⟨go48, (x9_2 : Int).toNat * 2, none⟩) (Kd.R_mono HO_6.out (fun k_ hk => (⟨hk, fun e_ => hk.2.1 (by rw [e_]; rfl)⟩ : _ ∧ k_ ≠ go48))) (fun _ hk => hk.2) (.int .i64 (rd y147 x10_27))) (fun _ hk => ⟨hk.1.1, ⟨hk.1.2.1, hk.1.2.2⟩⟩)⟩, ⟨by (try simp only [hl4_1]); (try simp only [hl4_2]); (with_reducible repeat (first | apply Kd.S_alloc | apply Kd.S_drewN | apply Kd.S_drew)); exact Kd.S_mono (Kd.S_far (p := ⟨go48, (x9_2 : Int).toNat * 2, none⟩) (Kd.S_types HO_136004.out GG48.out (by decide)) (fun _ hk => hk.2) (.int .i64 (rd y147 x10_27))) (fun _ hk => trivial)⟩, ⟨by (try simp only [hl4_1]); (try simp only [hl4_2]); (with_reducible repeat (first | apply Kd.R_alloc | apply Kd.R_drewN | apply Kd.R_drew)); exact HQ54.out⟩, ⟨by (try simp only [hl4_1]); (try simp only [hl4_2]); (with_reducible repeat (first | refine blk_drewN ?_ _ | refine blk_drew ?_ | refine blk_alloc ?_ _)); refine blk_far ?_ (by have h_ := Kd.R_ne HO_136005.out BK135.out (by decide); intro e_; exact h_ (by rw [e_]; rfl)) _; (with_reducible repeat (first | refine blk_drewN ?_ _ | refine blk_drew ?_ | refine blk_alloc ?_ _)); exact BK135.out⟩, ⟨by repeat (first | (with_reducible first | exact HB.out | apply below_alloc | apply pw_below_drewN | apply below_drew1 | refine below_set ?_ GB48.out | refine below_set ?_ GE135.out) | exact HB.out)⟩⟩
                                                · rw [if_neg c47] at H
                                                  exact absurd H (by simp)
                                              · rw [if_neg c46] at H
                                                exact absurd H (by simp)
                                            · rw [if_neg c44] at H
                                              exact absurd H (by simp)
                                          · rw [if_neg c43] at H
                                            have c43b0 : ((rd x4_2 x10_27) == 0) = false := beq_eq_false_iff_ne.mpr c43
                                            have c43b1 : ((rd x4_2 x10_27) != 0) = true := bne_iff_ne.mpr c43
                                            by_cases c55 : 0 ≤ x9_2
                                            · rw [if_pos c55] at H
                                              have c55b0 : decide (0 ≤ x9_2) = true := decide_eq_true c55
                                              clear c55
                                              by_cases c56 : x9_2 < (x136005_2.length : Int)
                                              · rw [if_pos c56] at H
                                                have c56b0 : decide (x9_2 < (x136005_2.length : Int)) = true := decide_eq_true c56
                                                clear c56
                                                obtain ⟨y151, hy151⟩ : ∃ y_ : List (S32), y_ = (x136005_2.set (x9_2 : Int).toNat (⟨rd x4_2 x10_27, (rd_T32 x136005_2 x9_2).f1⟩ : S32)) := ⟨_, rfl⟩
                                                replace H : (lockgateref20_Renumber.l1 kj27 l0 x4_2 x5_2 x6_1 x7_1 (wrap64 (x9_2 + 1)) (wrap64 (x7_1 + 1)) t126 t127 t128 t129 y151) = some r := by first | (rw [hy151]; with_reducible exact H) | (have H2_ := (Option.bind_some _ _).symm.trans H; rw [hy151]; with_reducible exact H2_) | (have H2_ := (Option.bind_some _ _).symm.trans H; with_reducible exact H2_) | with_reducible exact H | (rw [hy151]; exact H) | exact H
                                                have Ny151 := Aside0.mk hy151
                                                clear hy151
                                                have H' := Aside0.mk H
                                                clear H
                                                have p143 : 0 ≤ (x10_27 : Int) := of_decide_eq_true (by first | (with_reducible assumption) | assumption)
                                                have q143 : x10_27 < (x4_2.length : Int) := of_decide_eq_true (by first | (with_reducible assumption) | assumption)
                                                obtain ⟨ad143, e143, hx143_0⟩ := Kd.at_int (Kd.R_reads' HO_4.out).2.2 x10_27 p143 q143
                                                obtain rfl : (⟨go8, 0, none⟩ : Addr) = ad143 := (by injection e143)
                                                (first | simp only [add_plain] at hx143_0 | simp only [add_at] at hx143_0 | simp only [Addr.add, Nat.zero_add] at hx143_0 | skip)
                                                replace p143 := eq_true p143
                                                replace q143 := eq_true q143
                                                try go_wp2
                                                have n0_ := Aside0.mk (Kd.R_drew HO_4.out)
                                                have n1_ := Aside0.mk (Kd.R_drew HO_5.out)
                                                have n2_ := Aside0.mk (Kd.R_drew HO_6.out)
                                                have n3_ := Aside0.mk (Kd.S_drew HO_136004.out)
                                                have n4_ := Aside0.mk (Kd.R_drew HO_136005.out)
                                                have n5_ := Aside0.mk (blk_drew BK135.out)
                                                have n6_ := Aside0.mk (below_drew1 HB.out)
                                                clear HO_4
                                                clear HO_5
                                                clear HO_6
                                                clear HO_136004
                                                clear HO_136005
                                                clear BK135
                                                clear HB
                                                have HO_4 := n0_
                                                have HO_5 := n1_
                                                have HO_6 := n2_
                                                have HO_136004 := n3_
                                                have HO_136005 := n4_
                                                have BK135 := n5_
                                                have HB := n6_
                                                clear n0_ n1_ n2_ n3_ n4_ n5_ n6_
                                                have p150 : 0 ≤ (x10_27 : Int) := of_decide_eq_true (by first | (with_reducible assumption) | assumption)
                                                have q150 : x10_27 < (x4_2.length : Int) := of_decide_eq_true (by first | (with_reducible assumption) | assumption)
                                                obtain ⟨ad150, e150, hx150_0⟩ := Kd.at_int (Kd.R_reads' HO_4.out).2.2 x10_27 p150 q150
                                                obtain rfl : (⟨go8, 0, none⟩ : Addr) = ad150 := (by injection e150)
                                                (first | simp only [add_plain] at hx150_0 | simp only [add_at] at hx150_0 | simp only [Addr.add, Nat.zero_add] at hx150_0 | skip)
                                                replace p150 := eq_true p150
                                                replace q150 := eq_true q150
                                                have p57 : 0 ≤ (x9_2 : Int) := of_decide_eq_true (by first | (with_reducible assumption) | assumption)
                                                have q57 : (x9_2 : Int) < ((x136005_2.length : Int) : Int) := of_decide_eq_true (by first | (with_reducible assumption) | assumption)
                                                obtain ⟨go57, co57, eo57, gb57, gl57, cl57, HG57⟩ := Kd.R_form HO_136005.out (by omega)
                                                (first | cases eo57 | (injection eo57 with ea_ en_ ec_; (first | subst ea_ | (injection ea_ with ea_; subst ea_)); subst ec_; clear en_))
                                                have GB57 := Aside0.mk gb57
                                                have GG57 := Aside0.mk HG57
                                                clear gb57 gl57 HG57
                                                obtain ⟨ce57, hcl57, hM57, hcc57, hfr57⟩ := Kd.R_elem HO_136005.out z32 (x9_2 : Int) p57 q57
                                                obtain rfl := k32_openM hM57
                                                have hx57_0 : World.cell? _ ⟨go57, (x9_2 : Int).toNat * 2, none⟩ = some (.int .i64 ((rd_T32 x136005_2 x9_2).f0)) := hcc57 0 _ rfl
                                                have hx57_1 : World.cell? _ ⟨go57, (x9_2 : Int).toNat * 2 + 1, none⟩ = some (.string ((rd_T32 x136005_2 x9_2).f1)) := hcc57 1 _ rfl
                                                have hf57_0 : World.frozen? _ ⟨go57, (x9_2 : Int).toNat * 2, none⟩ = false := hfr57 0
                                                have hf57_1 : World.frozen? _ ⟨go57, (x9_2 : Int).toNat * 2 + 1, none⟩ = false := hfr57 1
                                                clear hcl57 hcc57 hfr57 hM57
                                                replace p57 := eq_true p57
                                                replace q57 := eq_true q57
                                                obtain ⟨ce59, hcl59, hM59, hcc59, hfr59⟩ := Kd.R_elem HO_136005.out z32 (x9_2 : Int) (of_decide_eq_true (by first | (with_reducible assumption) | assumption)) (by have h_ : (x9_2 : Int) < ((x136005_2.length : Int) : Int) := of_decide_eq_true (by first | (with_reducible assumption) | assumption); first | exact h_ | (have e_ := (Kd.R_reads' HO_136005.out).1; omega) | simpa using h_)
                                                obtain rfl := k32_openM hM59
                                                have HP59 := (Kd.R_seg HO_136005.out (x9_2 : Int) (of_decide_eq_true (by first | (with_reducible assumption) | assumption)) (by have h_ : (x9_2 : Int) < ((x136005_2.length : Int) : Int) := of_decide_eq_true (by first | (with_reducible assumption) | assumption); first | exact h_ | (have e_ := (Kd.R_reads' HO_136005.out).1; omega) | simpa using h_) (seg := [.int .i64 (rd x4_2 x10_27)]) (j := 0) hcl59 hcc59 (show 1 ≤ 2 from by decide) (x' := (⟨rd x4_2 x10_27, (rd_T32 x136005_2 x9_2).f1⟩ : S32)) (k32_mkM _ _ _ (⟨rd x4_2 x10_27, (rd_T32 x136005_2 x9_2).f1⟩ : S32) ) (fun _ hk => hk)).1
                                                rw [← Ny151.out] at HP59
                                                have HQ59 := Aside0.mk HP59
                                                clear hcl59 hcc59 hfr59 hM59 HP59
                                                refine start_ (n := 10) (S := fun w' => w'.cell? ⟨gb135, 0, none⟩ = some (.int .i64 (wrap64 (x7_1 + 1))) ∧ w'.cell? ⟨gb135, 1, none⟩ = some (.int .i64 t126) ∧ w'.cell? ⟨gb135, 2, none⟩ = some (.int .i64 t127) ∧ w'.cell? ⟨gb135, 3, none⟩ = some (.int .i64 t128) ∧ w'.cell? ⟨gb135, 4, none⟩ = some (.slice Ao24 t129.length co24) ∧ w'.cell? ⟨gb135, 5, none⟩ = some (.slice (some ⟨go57, 0, none⟩) x136005_2.length co30) ∧ w'.cell? ⟨go8, (x10_27).toNat, none⟩ = some (.int .i64 (rd x4_2 x10_27))) (ds := [9]) #[false, false, false, false, false, false, false, false, false, false] (by kernel_rfl) rfl rfl ⟨(blk_cell BK135.out 0).trans rfl, (blk_cell BK135.out 1).trans rfl, (blk_cell BK135.out 2).trans rfl, (blk_cell BK135.out 3).trans rfl, (blk_cell BK135.out 4).trans rfl, (blk_cell BK135.out 5).trans rfl, hx150_0⟩ (fun hHeld => ?_); refine with_tabW lockgateref20_Renumber.tab24 lockgateref20_Renumber.bits24 (fun HT_ HW_ => ?_)
                                                generalize wc.drew = w58 at HO_4 HO_5 HO_6 HO_136004 HO_136005 BK135 HB GG57 HQ59 hf57_0 hf57_1 hx150_0 hx57_0 hx57_1 hHeld ⊢
                                                refine pure_ (i := 0) (N := some 83) (v := ?_) (a' := ?_) #[true, false, false, false, false, false, false, false, false, false] rfl rfl (any_of HT_.out (by kernel_rfl)) (fun _ _ _ h => h) (Or.inl ⟨by rfl, ?_⟩) ?_ ?_
                                                rotate_left
                                                · intro w'
                                                  go_simp
                                                  with_reducible rfl
                                                rotate_left
                                                · simp only [Act.put, List.setIfInBounds_toArray, List.set_cons_zero, List.set_cons_succ, i64_w, i32_w]
                                                  rfl
                                                refine pure_ (i := 2) (N := some 85) (v := ?_) (a' := ?_) #[true, false, true, false, false, false, false, false, false, false] rfl rfl (any_of HT_.out (by kernel_rfl)) (fun _ _ _ h => h) (Or.inl ⟨by rfl, ?_⟩) ?_ ?_
                                                rotate_left
                                                · intro w'
                                                  go_simp
                                                  with_reducible rfl
                                                rotate_left
                                                · simp only [Act.put, List.setIfInBounds_toArray, List.set_cons_zero, List.set_cons_succ, i64_w, i32_w]
                                                  rfl
                                                refine pure_ (i := 3) (N := some 86) (v := ?_) (a' := ?_) #[true, false, true, true, false, false, false, false, false, false] rfl rfl (any_of HT_.out (by kernel_rfl)) (fun _ _ _ h => h) (Or.inl ⟨by rfl, ?_⟩) ?_ ?_
                                                rotate_left
                                                · intro w'
                                                  go_simp
                                                  with_reducible rfl
                                                rotate_left
                                                · simp only [Act.put, List.setIfInBounds_toArray, List.set_cons_zero, List.set_cons_succ, i64_w, i32_w]
                                                  rfl
                                                refine pure_ (i := 4) (N := some 87) (v := ?_) (a' := ?_) #[true, false, true, true, true, false, false, false, false, false] rfl rfl (any_of HT_.out (by kernel_rfl)) (fun _ _ _ h => h) (Or.inl ⟨by rfl, ?_⟩) ?_ ?_
                                                rotate_left
                                                · intro w'
                                                  go_simp
                                                  with_reducible rfl
                                                rotate_left
                                                · simp only [Act.put, List.setIfInBounds_toArray, List.set_cons_zero, List.set_cons_succ, i64_w, i32_w]
                                                  rfl
                                                refine pure_ (i := 5) (N := some 88) (v := ?_) (a' := ?_) #[true, false, true, true, true, true, false, false, false, false] rfl rfl (any_of HT_.out (by kernel_rfl)) (fun _ _ _ h => h) (Or.inl ⟨by rfl, ?_⟩) ?_ ?_
                                                rotate_left
                                                · intro w'
                                                  go_simp
                                                  with_reducible rfl
                                                rotate_left
                                                · simp only [Act.put, List.setIfInBounds_toArray, List.set_cons_zero, List.set_cons_succ, i64_w, i32_w]
                                                  rfl
                                                refine take_ (i := 1) (N := some 84) (v := ?_) (a' := ?_) #[true, true, true, true, true, true, false, false, false, false] rfl rfl (take_ofW HT_.out HW_.out (by kernel_rfl)) (fun _ _ _ h => h) (Or.inl ⟨by rfl, ?_⟩) hHeld ?_ ?_
                                                rotate_left
                                                · rintro w' ⟨s0, s1, s2, s3, s4, s5, s6⟩
                                                  go_simp
                                                  with_reducible rfl
                                                rotate_left
                                                · simp only [Act.put, List.setIfInBounds_toArray, List.set_cons_zero, List.set_cons_succ, i64_w, i32_w]
                                                  rfl
                                                refine take_ (i := 6) (N := some 89) (v := ?_) (a' := ?_) #[true, true, true, true, true, true, true, false, false, false] rfl rfl (take_ofW HT_.out HW_.out (by kernel_rfl)) (fun _ _ _ h => h) (Or.inl ⟨by rfl, ?_⟩) hHeld ?_ ?_
                                                rotate_left
                                                · rintro w' ⟨s0, s1, s2, s3, s4, s5, s6⟩
                                                  go_simp
                                                  with_reducible rfl
                                                rotate_left
                                                · simp only [Act.put, List.setIfInBounds_toArray, List.set_cons_zero, List.set_cons_succ, i64_w, i32_w]
                                                  rfl
                                                refine pure_ (i := 7) (N := some 90) (v := ?_) (a' := ?_) #[true, true, true, true, true, true, true, true, false, false] rfl rfl (any_of HT_.out (by kernel_rfl)) (fun _ _ _ h => h) (Or.inl ⟨by rfl, ?_⟩) ?_ ?_
                                                rotate_left
                                                · intro w'
                                                  go_simp
                                                  with_reducible rfl
                                                rotate_left
                                                · simp only [Act.put, List.setIfInBounds_toArray, List.set_cons_zero, List.set_cons_succ, i64_w, i32_w]
                                                  rfl
                                                refine pure_ (i := 8) (N := some 91) (v := ?_) (a' := ?_) #[true, true, true, true, true, true, true, true, true, false] rfl rfl (any_of HT_.out (by kernel_rfl)) (fun _ _ _ h => h) (Or.inl ⟨by rfl, ?_⟩) ?_ ?_
                                                rotate_left
                                                · intro w'
                                                  go_simp
                                                  with_reducible rfl
                                                rotate_left
                                                · simp only [Act.put, List.setIfInBounds_toArray, List.set_cons_zero, List.set_cons_succ, i64_w, i32_w]
                                                  rfl
                                                refine last_ (i := 9) (N := none) #[true, true, true, true, true, true, true, true, true, true] rfl rfl (one_of HT_.out (by kernel_rfl)) (by decide) (fun K hK => ?_)
                                                refine skip_ (w1 := ?_) (by rfl) rfl ?_ ?_
                                                rotate_left
                                                · go_simp
                                                  rfl
                                                refine hK.out _ _ ?_
                                                clear hK K
                                                refine done_ (done_of HT_.out (by kernel_rfl)) ?_
                                                try go_wp2
                                                (try simp only [← hl4_2])
                                                go_roundg kj27
                                                case measure => have := HK1.out; have := HK2.out; have := HJ27.out; omega
                                                case rel => exact ⟨(x4_2), (x5_2), (wrap64 (x9_2 + 1)), (y151), (.slice (some ⟨go57, 0, none⟩) x136005_2.length co30), (by first | rfl | (simp; done) | (simp [*]; done)), H', ⟨by have := HK1.out; have := HK2.out; have := HJ27.out; omega⟩, ⟨by (try simp only [hl4_1]); (try simp only [hl4_2]); (with_reducible repeat (first | apply Kd.R_alloc | apply Kd.R_drewN | apply Kd.R_drew)); exact Kd.R_mono (Kd.R_far (p := ⟨go57, (x9_2 : Int).toNat * 2, none⟩) (Kd.R_types HO_4.out GG57.out (by decide)) (fun _ hk => hk.2) (.int .i64 (rd x4_2 x10_27))) (fun _ hk => hk.1)⟩, ⟨by (try simp only [hl4_1]); (try simp only [hl4_2]); (with_reducible repeat (first | apply Kd.R_alloc | apply Kd.R_drewN | apply Kd.R_drew)); exact Kd.R_mono (Kd.R_far (p := ⟨go57, (x9_2 : Int).toNat * 2, none⟩) (Kd.R_types HO_5.out GG57.out (by decide)) (fun _ hk => hk.2) (.int .i64 (rd x4_2 x10_27))) (fun _ hk => hk.1)⟩, ⟨by (try simp only [hl4_1]); (try simp only [hl4_2]); (with_reducible repeat (first | apply Kd.R_alloc | apply Kd.R_drewN | apply Kd.R_drew)); exact Kd.R_mono (Kd.R_far (p := ⟨go57, (x9_2 : Int).toNat * 2, none⟩) (Kd.R_mono HO_6.out (fun k_ hk => (⟨hk, fun e_ => hk.2.1 (by rw [e_]; rfl)⟩ : _ ∧ k_ ≠ go57))) (fun _ hk => hk.2) (.int .i64 (rd x4_2 x10_27))) (fun _ hk => ⟨hk.1.1, ⟨hk.1.2.1, hk.1.2.2⟩⟩)⟩, ⟨by (try simp only [hl4_1]); (try simp only [hl4_2]); (with_reducible repeat (first | apply Kd.S_alloc | apply Kd.S_drewN | apply Kd.S_drew)); exact Kd.S_mono (Kd.S_far (p := ⟨go57, (x9_2 : Int).toNat * 2, none⟩) (Kd.S_types HO_136004.out GG57.out (by decide)) (fun _ hk => hk.2) (.int .i64 (rd x4_2 x10_27))) (fun _ hk => trivial)⟩, ⟨by (try simp only [hl4_1]); (try simp only [hl4_2]); (with_reducible repeat (first | apply Kd.R_alloc | apply Kd.R_drewN | apply Kd.R_drew)); exact HQ59.out⟩, ⟨by (try simp only [hl4_1]); (try simp only [hl4_2]); (with_reducible repeat (first | refine blk_drewN ?_ _ | refine blk_drew ?_ | refine blk_alloc ?_ _)); refine blk_far ?_ (by have h_ := Kd.R_ne HO_136005.out BK135.out (by decide); intro e_; exact h_ (by rw [e_]; rfl)) _; (with_reducible repeat (first | refine blk_drewN ?_ _ | refine blk_drew ?_ | refine blk_alloc ?_ _)); exact BK135.out⟩, ⟨by repeat (first | (with_reducible first | exact HB.out | apply below_alloc | apply pw_below_drewN | apply below_drew1 | refine below_set ?_ GB57.out | refine below_set ?_ GE135.out) | exact HB.out)⟩⟩
                                              · rw [if_neg c56] at H
                                                exact absurd H (by simp)
                                            · rw [if_neg c55] at H
                                              exact absurd H (by simp)
                                        · rw [if_neg c42] at H
                                          exact absurd H (by simp)
                                      · rw [if_neg c41] at H
                                        exact absurd H (by simp)
                              · rw [if_neg c27] at H
                                exact absurd H (by simp)
                            · rw [if_neg c26] at H
                              have c26b0 : decide (x9_2 < (x136005_2.length : Int)) = false := decide_eq_false c26
                              clear c26
                              by_cases c60 : x6_1.length < 1759218604441
                              · rw [if_pos c60] at H
                                have LMc60 := Aside0.mk c60
                                clear c60
                                obtain ⟨y136, hy136⟩ : ∃ y_ : List (S30), y_ = (x6_1 ++ [(⟨(wrap64 (x7_1 + 1)), t126, t127, t128, t129, x136005_2⟩ : S30)]) := ⟨_, rfl⟩
                                replace H : (lockgateref20_Renumber.l0 k2 l0 x4_2 x5_2 y136 (wrap64 (x7_1 + 1))) = some r := by first | (rw [hy136]; with_reducible exact H) | (have H2_ := (Option.bind_some _ _).symm.trans H; rw [hy136]; with_reducible exact H2_) | (have H2_ := (Option.bind_some _ _).symm.trans H; with_reducible exact H2_) | with_reducible exact H | (rw [hy136]; exact H) | exact H
                                have Ny136 := Aside0.mk hy136
                                clear hy136
                                have H' := Aside0.mk H
                                clear H
                                have hcz61_0 : wr.cell? ⟨gb135, 0, none⟩ = some (.int .i64 (wrap64 (x7_1 + 1))) := (blk_cell BK135.out 0).trans rfl
                                have hcz61_1 : wr.cell? ⟨gb135, 1, none⟩ = some (.int .i64 t126) := (blk_cell BK135.out 1).trans rfl
                                have hcz61_2 : wr.cell? ⟨gb135, 2, none⟩ = some (.int .i64 t127) := (blk_cell BK135.out 2).trans rfl
                                have hcz61_3 : wr.cell? ⟨gb135, 3, none⟩ = some (.int .i64 t128) := (blk_cell BK135.out 3).trans rfl
                                have hcz61_4 : wr.cell? ⟨gb135, 4, none⟩ = some (.slice Ao24 t129.length co24) := (blk_cell BK135.out 4).trans rfl
                                have hcz61_5 : wr.cell? ⟨gb135, 5, none⟩ = some (u136005) := (blk_cell BK135.out 5).trans rfl
                                have hfz61_0 := blk_frozen BK135.out 0
                                have hfz61_1 := blk_frozen BK135.out 1
                                have hfz61_2 := blk_frozen BK135.out 2
                                have hfz61_3 := blk_frozen BK135.out 3
                                have hfz61_4 := blk_frozen BK135.out 4
                                have hfz61_5 := blk_frozen BK135.out 5
                                obtain ⟨Ao62, co62, eo62⟩ := Kd.R_slice HO_136005.out
                                subst eo62
                                go_wp2_with (first | ((with_reducible refine gate_builtin (b := .append) (xs := #[.tmp 92, .tmp 94]) rfl ?_); at_builtin; refine Kd.R_append k30 (w0 := w) w.heap.size rfl (.tmp 92) (.tmp 94) 22 30 (.agg #[(.int .i64 0), (.int .i64 0), (.int .i64 0), (.int .i64 0), (.slice none 0 0), (.slice none 0 0)]) 80 rfl Try.underlying22 info30 rfl (by decide) (by omega) u6 x6_1 (⟨(wrap64 (x7_1 + 1)), t126, t127, t128, t129, x136005_2⟩ : S30) [.int .i64 (wrap64 (x7_1 + 1)), .int .i64 t126, .int .i64 t127, .int .i64 t128, .slice Ao24 t129.length co24, .slice Ao62 x136005_2.length co62] (fun k_ => k_ ≠ gb135) (fun k_ => ((fun k_ => k_ ≠ gb135)) k_ ∧ some k_ ≠ (u6 : Value).ownBlock) rfl rfl ?aP (fun _ hk => hk) ?aF ?aO ?aB ?aS ?aL ?_; (case aP => exact k30_mkM _ _ _ (⟨(wrap64 (x7_1 + 1)), t126, t127, t128, t129, x136005_2⟩ : S30) (Kd.R_mono (Kd.R_types (Kd.R_apart' ((Kd.S_R HO_136004.out)) (Kd.R_typed HO_6.out) (by decide)) BK135.out (by decide)) (fun k_ hk => ⟨hk.2, hk.1.2⟩)) (Kd.R_mono (Kd.R_types (Kd.R_apart' (HO_136005.out) (Kd.R_typed HO_6.out) (by decide)) BK135.out (by decide)) (fun k_ hk => ⟨hk.2, hk.1.2⟩))); (case aB => exact (by repeat (first | (with_reducible first | exact HB.out | apply below_alloc | apply pw_below_drewN | apply below_drew1 | refine below_set ?_ GE135.out) | exact HB.out))); (case aF => exact (fun k_ hk => Kd.freshB (g := gb135) (o := .cells #[.int .i64 (wrap64 (x7_1 + 1)), .int .i64 t126, .int .i64 t127, .int .i64 t128, .slice Ao24 t129.length co24, .slice Ao62 x136005_2.length co62] 30 (0, 0)) (by (with_reducible repeat (first | refine blk_drewN ?_ _ | refine blk_drew ?_ | refine blk_alloc ?_ _)); exact BK135.out) k_ hk)); (case aO => exact (by (with_reducible repeat (first | apply Kd.R_alloc | apply Kd.R_drewN | apply Kd.R_drew)); exact Kd.R_mono HO_6.out (fun _ hk => hk.2.2))); (case aS => exact (below_size (by repeat (first | (with_reducible first | exact HB.out | apply below_alloc | apply pw_below_drewN | apply below_drew1 | refine below_set ?_ GE135.out) | exact HB.out)))); (case aL => have := LMc60.out; omega); intro v137 w63 ho hb hg hat; rw [← Ny136.out] at ho; have n0_ := Aside0.mk (Kd.R_over' (by (with_reducible repeat (first | apply Kd.R_alloc | apply Kd.R_drewN | apply Kd.R_drew)); exact HO_4.out) (Kd.R_typed (by (with_reducible repeat (first | apply Kd.R_alloc | apply Kd.R_drewN | apply Kd.R_drew)); exact HO_6.out)) (by decide) hg); have n1_ := Aside0.mk (Kd.R_over' (by (with_reducible repeat (first | apply Kd.R_alloc | apply Kd.R_drewN | apply Kd.R_drew)); exact HO_5.out) (Kd.R_typed (by (with_reducible repeat (first | apply Kd.R_alloc | apply Kd.R_drewN | apply Kd.R_drew)); exact HO_6.out)) (by decide) hg); have n2_ := Aside0.mk (blk_grown (g := gb135) (o := .cells #[.int .i64 (wrap64 (x7_1 + 1)), .int .i64 t126, .int .i64 t127, .int .i64 t128, .slice Ao24 t129.length co24, .slice Ao62 x136005_2.length co62] 30 (0, 0)) (by (with_reducible repeat (first | refine blk_drewN ?_ _ | refine blk_drew ?_ | refine blk_alloc ?_ _)); exact BK135.out) hg (Kd.R_away HO_6.out (fun _ hk => hk.2.2))); have n3_ := Aside0.mk (hb); have n4_ := Aside0.mk (ho); clear HO_4; clear HO_5; clear BK135; clear HB; clear HO_6; clear HO_136004; clear HO_136005; have HO_4 := n0_; have HO_5 := n1_; have BK135 := n2_; have HB := n3_; have HO138 := n4_; clear n0_ n1_ n2_ n3_ n4_; clear ho hb hg hat))
                                (try simp only [← hl4_1, ← hl4_2])
                                go_roundg k2
                                case measure => have := HK1.out; have := HK2.out; omega
                                case rel => exact ⟨(x4_2), (x5_2), (y136), (wrap64 (x7_1 + 1)), (by first | rfl | (simp; done) | (simp [*]; done)), H', ⟨by have := HK1.out; have := HK2.out; omega⟩, ⟨by (try simp only [hl4_1]); (try simp only [hl4_2]); (with_reducible repeat (first | apply Kd.R_alloc | apply Kd.R_drewN | apply Kd.R_drew)); exact HO_4.out⟩, ⟨by (try simp only [hl4_1]); (try simp only [hl4_2]); (with_reducible repeat (first | apply Kd.R_alloc | apply Kd.R_drewN | apply Kd.R_drew)); exact HO_5.out⟩, ⟨by (try simp only [hl4_1]); (try simp only [hl4_2]); (with_reducible repeat (first | apply Kd.R_alloc | apply Kd.R_drewN | apply Kd.R_drew)); exact Kd.R_mono HO138.out (fun _ hk => trivial)⟩, ⟨by repeat (first | (with_reducible first | exact HB.out | apply below_alloc | apply pw_below_drewN | apply below_drew1 | refine below_set ?_ GE135.out) | exact HB.out)⟩⟩
                              · rw [if_neg c60] at H
                                exact absurd H (by simp)
                      · rw [if_neg c18] at H
                        exact absurd H (by simp)
                    · rw [if_neg c17] at H
                      exact absurd H (by simp)
                  · rw [if_neg c16] at H
                    exact absurd H (by simp)
                · rw [if_neg c15] at H
                  have c15b0 : decide (x7_1 < (x5_1.length : Int)) = false := decide_eq_false c15
                  clear c15
                  obtain rfl := Option.some.inj H
                  obtain ⟨Ao64, co64, eo64⟩ := Kd.R_slice HO_5.out
                  subst eo64
                  go_wp2
                  go_ret
                  exact ⟨_, by first | rfl | (simp [errW_none, errW_some] <;> rfl) | (simp [*, errW_none, errW_some] <;> rfl), by (with_reducible repeat (first | apply Kd.R_alloc | apply Kd.R_drewN | apply Kd.R_drew)); exact HO_6.out, by repeat (first | (with_reducible first | exact HB.out | apply below_alloc | apply pw_below_drewN | apply below_drew1) | exact HB.out)⟩
          · rw [if_neg c7] at H
            exact absurd H (by simp)
        · rw [if_neg c6] at H
          exact absurd H (by simp)
      · rw [if_neg c5] at H
        exact absurd H (by simp)
    · rw [if_neg c4] at H
      exact absurd H (by simp)

end Go.Proofs.Ytnmlmbbacicojaa.PWalkSame
