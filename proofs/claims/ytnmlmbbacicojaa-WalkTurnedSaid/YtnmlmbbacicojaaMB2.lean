/-
  The contract of the document's own Same: it answers as walk.Same does. Printed by c_gen.py. Conditions: none.
-/
import Derived.Test.YtnmlmbbacicojaaMB1
namespace Go.Proofs.Ytnmlmbbacicojaa
set_option linter.unusedVariables false
set_option linter.unusedSimpArgs false
open Go.RowKit Go.Proofs.YtnmlmbbacicojaaW.PrintWords Go.Proofs.YtnmlmbbacicojaaW.PrintLast Go.Proofs.YtnmlmbbacicojaaW.PrintMore Go.Proofs.Ytnmlmbbacicojaa.PWalkSame
attribute [local go_sem high] eqA32

theorem len_ne {α : Type} {a b : List α} (h : a.length ≠ b.length) : ((a.length : Int) == (b.length : Int)) = false ∧ ((a.length : Int) != (b.length : Int)) = true := by
  constructor
  · rw [beq_eq_false_iff_ne]; omega
  · rw [bne_iff_ne]; omega
theorem len_eq {α : Type} {a b : List α} (h : a.length = b.length) : ((a.length : Int) == (b.length : Int)) = true ∧ ((a.length : Int) != (b.length : Int)) = false := by rw [h]; simp
theorem int_ne {a b : Int} (h : a ≠ b) : (a == b) = false ∧ (a != b) = true := by simp [h]
theorem int_eq {a b : Int} (h : a = b) : (a == b) = true ∧ (a != b) = false := by simp [h]
theorem nodeEq_not {x y : S30} (h : ¬ (x.f0 = y.f0 ∧ x.f1 = y.f1 ∧ x.f2 = y.f2 ∧ x.f3 = y.f3 ∧ eqL entEq x.f5 y.f5 = true ∧ eqL partEq x.f4 y.f4 = true)) : nodeEq x y = false := by
  cases hq : nodeEq x y with
  | false => rfl
  | true => unfold nodeEq at hq; simp at hq; exact absurd ⟨hq.1, hq.2.1, hq.2.2.1, hq.2.2.2.1, hq.2.2.2.2.1, hq.2.2.2.2.2⟩ h
theorem nodeEq_yes {x y : S30} (h : x.f0 = y.f0 ∧ x.f1 = y.f1 ∧ x.f2 = y.f2 ∧ x.f3 = y.f3 ∧ eqL entEq x.f5 y.f5 = true ∧ eqL partEq x.f4 y.f4 = true) : nodeEq x y = true := by
  unfold nodeEq; simp [h]
theorem eqL_lens {α : Type} {f : α → α → Bool} {a b : List α} (h : eqL f a b = true) : a.length = b.length := by
  unfold eqL at h; simp at h; exact h.1

set_option maxHeartbeats 4000000 in
set_option maxRecDepth 100000 in
theorem refSame_c (A A' : Option Addr) (c c' : Nat) (xs ys : List S30) (w : World) (h1 : Kd.C k30 w A xs.length xs) (hc : xs.length ≤ c) (h2 : Kd.C k30 w A' ys.length ys) (hc' : ys.length ≤ c') (hl : xs.length ≤ 9223372036854775807) (hm : ∀ x ∈ xs, Mod x) :
    Calls Try.prog 12 #[.slice A xs.length c, .slice A' ys.length c'] w fun e w' => e = .returned (.bool (eqL nodeEq xs ys)) ∧ Below w.heap.size w w' := by
  have H1 := hide h1
  have H2 := hide h2
  have HMM := hide hm
  clear h1 h2 hm
  by_cases e : xs.length = ys.length
  · obtain ⟨e1, e2⟩ := len_eq e
    have e3 : (xs.length : Int) ≤ (ys.length : Int) := by omega
    have e4 : (ys.length : Int) ≤ (xs.length : Int) := by omega
    have E2 := hide (show (xs.length == ys.length) = true by simpa using e)
    clear e
    go_enter Try.func12, Try.ntmps12
    go_wp2
    go_loopw [5] (fun i wr => ∃ k : Nat, k ≤ xs.length ∧ i = .int .i64 k ∧ Below w.heap.size w wr ∧ ∀ j (hj : j < xs.length) (hj' : j < ys.length), j < k → nodeEq xs[j] ys[j] = true) (fun i _ => xs.length - (intOf i).toNat)
    case atStart => exact ⟨0, by omega, rfl, Below.refl _ _, fun j _ _ h => absurd h (by omega)⟩
    case round =>
      obtain ⟨k, hk, rfl, hbr, hall⟩ := hrel
      have HA := hide hall
      clear hall
      by_cases hlt : k < xs.length
      · have hlt' : k < ys.length := by omega
        obtain ⟨ad, A4, c4, A5, c5, e5, x0, x1, x2, x3, x4, x5, l4, g4, l5, g5⟩ := at_T30 H1.out (k : Int) (by omega) (by omega)
        obtain ⟨ad', A4', c4', A5', c5', e6, y0, y1, y2, y3, y4, y5, l4', g4', l5', g5'⟩ := at_T30 H2.out (k : Int) (by omega) (by omega)
        have ex : rd_T30 xs (k : Int) = xs[k] := by unfold rd_T30; simp [hlt]
        have ey : rd_T30 ys (k : Int) = ys[k] := by unfold rd_T30; simp [hlt']
        rw [ex] at x0 x1 x2 x3 x4 x5 l4 g4 l5 g5
        rw [ey] at y0 y1 y2 y3 y4 y5 l4' g4' l5' g5'
        rw [Int.toNat_natCast] at x0 x1 x2 x3 x4 x5 y0 y1 y2 y3 y4 y5
        subst e5
        subst e6
        replace x0 := (hbr.cell (World.block_lt_of_cell? w _ x0)).trans x0
        replace x1 := (hbr.cell (World.block_lt_of_cell? w _ x1)).trans x1
        replace x2 := (hbr.cell (World.block_lt_of_cell? w _ x2)).trans x2
        replace x3 := (hbr.cell (World.block_lt_of_cell? w _ x3)).trans x3
        replace x4 := (hbr.cell (World.block_lt_of_cell? w _ x4)).trans x4
        replace x5 := (hbr.cell (World.block_lt_of_cell? w _ x5)).trans x5
        replace y0 := (hbr.cell (World.block_lt_of_cell? w _ y0)).trans y0
        replace y1 := (hbr.cell (World.block_lt_of_cell? w _ y1)).trans y1
        replace y2 := (hbr.cell (World.block_lt_of_cell? w _ y2)).trans y2
        replace y3 := (hbr.cell (World.block_lt_of_cell? w _ y3)).trans y3
        replace y4 := (hbr.cell (World.block_lt_of_cell? w _ y4)).trans y4
        replace y5 := (hbr.cell (World.block_lt_of_cell? w _ y5)).trans y5
        have hmx := HMM.out xs[k] (List.getElem_mem hlt)
        have G4 := hide g4
        have L4 := hide l4
        have G4' := hide g4'
        have L4' := hide l4'
        have G5 := hide g5
        have L5 := hide l5
        have G5' := hide g5'
        have L5' := hide l5'
        have HM := hide hmx
        clear g4 g4' g5 g5' l4 l4' l5 l5' hmx ex ey
        generalize hx : xs[k] = x at x0 x1 x2 x3 x4 x5 G4 G5 L4 L5 HM
        generalize hy : ys[k] = y at y0 y1 y2 y3 y4 y5 G4' G5' L4' L5'
        have HX := hide hx
        have HY := hide hy
        clear hx hy
        have bA : Below wr.heap.size wr (wr.alloc (.cells #[.int .i64 x.f0, .int .i64 x.f1, .int .i64 x.f2, .int .i64 x.f3, .slice A4 x.f4.length c4, .slice A5 x.f5.length c5] 30)) := (Below.refl _ wr).alloc (Nat.le_refl _) _
        replace y0 := (bA.cell (World.block_lt_of_cell? wr _ y0)).trans y0
        replace y1 := (bA.cell (World.block_lt_of_cell? wr _ y1)).trans y1
        replace y2 := (bA.cell (World.block_lt_of_cell? wr _ y2)).trans y2
        replace y3 := (bA.cell (World.block_lt_of_cell? wr _ y3)).trans y3
        replace y4 := (bA.cell (World.block_lt_of_cell? wr _ y4)).trans y4
        replace y5 := (bA.cell (World.block_lt_of_cell? wr _ y5)).trans y5
        have HBA := hide (hbr.trans ((bA.alloc (by simp) (.cells #[.int .i64 y.f0, .int .i64 y.f1, .int .i64 y.f2, .int .i64 y.f3, .slice A4' y.f4.length c4', .slice A5' y.f5.length c5'] 30)).mono hbr.size))
        clear bA
        by_cases d0 : x.f0 = y.f0
        · obtain ⟨p0, n0⟩ := int_eq d0
          have D0 := hide d0
          clear d0
          by_cases d1 : x.f1 = y.f1
          · obtain ⟨p1, n1⟩ := int_eq d1
            have D1 := hide d1
            clear d1
            by_cases d2 : x.f2 = y.f2
            · obtain ⟨p2, n2⟩ := int_eq d2
              have D2 := hide d2
              clear d2
              by_cases d3 : x.f3 = y.f3
              · obtain ⟨p3, n3⟩ := int_eq d3
                have D3 := hide d3
                clear d3
                by_cases d5 : x.f5.length = y.f5.length
                · obtain ⟨p5, n5⟩ := len_eq d5
                  have D5 := hide d5
                  have r5 : (x.f5.length : Int) ≤ (y.f5.length : Int) := by omega
                  clear d5
                  by_cases d4 : x.f4.length = y.f4.length
                  · obtain ⟨p4, n4⟩ := len_eq d4
                    have D4 := hide d4
                    have r4 : (x.f4.length : Int) ≤ (y.f4.length : Int) := by omega
                    clear d4
                    go_upto_region 10 with (fail)
                    have z4 : ((wr.alloc (.cells #[.int .i64 x.f0, .int .i64 x.f1, .int .i64 x.f2, .int .i64 x.f3, .slice A4 x.f4.length c4, .slice A5 x.f5.length c5] 30)).alloc (.cells #[.int .i64 y.f0, .int .i64 y.f1, .int .i64 y.f2, .int .i64 y.f3, .slice A4' y.f4.length c4', .slice A5' y.f5.length c5'] 30)).cell? ⟨wr.heap.size, 4, none⟩ = some (.slice A4 x.f4.length c4) := by first | (go_simp; done) | rfl | simp [World.cell?]
                    have z5 : ((wr.alloc (.cells #[.int .i64 x.f0, .int .i64 x.f1, .int .i64 x.f2, .int .i64 x.f3, .slice A4 x.f4.length c4, .slice A5 x.f5.length c5] 30)).alloc (.cells #[.int .i64 y.f0, .int .i64 y.f1, .int .i64 y.f2, .int .i64 y.f3, .slice A4' y.f4.length c4', .slice A5' y.f5.length c5'] 30)).cell? ⟨wr.heap.size, 5, none⟩ = some (.slice A5 x.f5.length c5) := by first | (go_simp; done) | rfl | simp [World.cell?]
                    have y4 : ((wr.alloc (.cells #[.int .i64 x.f0, .int .i64 x.f1, .int .i64 x.f2, .int .i64 x.f3, .slice A4 x.f4.length c4, .slice A5 x.f5.length c5] 30)).alloc (.cells #[.int .i64 y.f0, .int .i64 y.f1, .int .i64 y.f2, .int .i64 y.f3, .slice A4' y.f4.length c4', .slice A5' y.f5.length c5'] 30)).cell? ⟨wr.heap.size + 1, 4, none⟩ = some (.slice A4' y.f4.length c4') := by first | (go_simp; done) | rfl | simp [World.cell?]
                    have y5 : ((wr.alloc (.cells #[.int .i64 x.f0, .int .i64 x.f1, .int .i64 x.f2, .int .i64 x.f3, .slice A4 x.f4.length c4, .slice A5 x.f5.length c5] 30)).alloc (.cells #[.int .i64 y.f0, .int .i64 y.f1, .int .i64 y.f2, .int .i64 y.f3, .slice A4' y.f4.length c4', .slice A5' y.f5.length c5'] 30)).cell? ⟨wr.heap.size + 1, 5, none⟩ = some (.slice A5' y.f5.length c5') := by first | (go_simp; done) | rfl | simp [World.cell?]
                    generalize ((wr.alloc (.cells #[.int .i64 x.f0, .int .i64 x.f1, .int .i64 x.f2, .int .i64 x.f3, .slice A4 x.f4.length c4, .slice A5 x.f5.length c5] 30)).alloc (.cells #[.int .i64 y.f0, .int .i64 y.f1, .int .i64 y.f2, .int .i64 y.f3, .slice A4' y.f4.length c4', .slice A5' y.f5.length c5'] 30)) = W2 at z4 z5 y4 y5 HBA ⊢
                    clear x0 x1 x2 x3 x4 x5 y0 y1 y2 y3 p0 n0 p1 n1 p2 n2 p3 n3 p4 n4 p5 n5
                    have HLX := HM.out
                    obtain ⟨hm4, hm5⟩ := HLX
                    go_wp2
                    go_loopw [8] (fun i w5 => ∃ j : Nat, j ≤ x.f5.length ∧ i = .int .i64 j ∧ (∃ q, w5 = W2.drewN q) ∧ ∀ a (ha : a < x.f5.length) (ha' : a < y.f5.length), a < j → entEq x.f5[a] y.f5[a] = true) (fun i _ => x.f5.length - (intOf i).toNat)
                    case atStart => exact ⟨0, by omega, rfl, ⟨0, rfl⟩, fun j _ _ h => absurd h (by omega)⟩
                    case round =>
                      obtain ⟨j, hj, rfl, ⟨q, rfl⟩, hall5⟩ := hrel
                      have HA5 := hide hall5
                      clear hall5
                      have z4q : (W2.drewN q).cell? ⟨wr.heap.size, 4, none⟩ = some (.slice A4 x.f4.length c4) := z4
                      have z5q : (W2.drewN q).cell? ⟨wr.heap.size, 5, none⟩ = some (.slice A5 x.f5.length c5) := z5
                      have y4q : (W2.drewN q).cell? ⟨wr.heap.size + 1, 4, none⟩ = some (.slice A4' y.f4.length c4') := y4
                      have y5q : (W2.drewN q).cell? ⟨wr.heap.size + 1, 5, none⟩ = some (.slice A5' y.f5.length c5') := y5
                      have HBQ := hide (below_drewN HBA.out q)
                      by_cases hj5 : j < x.f5.length
                      · have hj5' : j < y.f5.length := by omega
                        obtain ⟨ae, e5a, u0, u1⟩ := at_T32 G5.out (j : Int) (by omega) (by omega)
                        obtain ⟨be, e5b, v0, v1⟩ := at_T32 G5'.out (j : Int) (by omega) (by omega)
                        have eu : rd_T32 x.f5 (j : Int) = x.f5[j] := by unfold rd_T32; simp [hj5]
                        have ev : rd_T32 y.f5 (j : Int) = y.f5[j] := by unfold rd_T32; simp [hj5']
                        rw [eu] at u0 u1
                        rw [ev] at v0 v1
                        rw [Int.toNat_natCast] at u0 u1 v0 v1
                        subst e5a
                        subst e5b
                        replace u0 := (HBA.out.cell (World.block_lt_of_cell? w _ u0)).trans u0
                        replace u1 := (HBA.out.cell (World.block_lt_of_cell? w _ u1)).trans u1
                        replace v0 := (HBA.out.cell (World.block_lt_of_cell? w _ v0)).trans v0
                        replace v1 := (HBA.out.cell (World.block_lt_of_cell? w _ v1)).trans v1
                        clear eu ev
                        generalize hx5 : x.f5[j] = xe at u0 u1
                        generalize hy5 : y.f5[j] = ye at v0 v1
                        have HX5 := hide hx5
                        have HY5 := hide hy5
                        clear hx5 hy5
                        have hu32 := Try.underlying32
                        have o1 : (0 : Int) ≤ (j : Int) := by omega
                        have o2 : (j : Int) < (x.f5.length : Int) := by omega
                        have o3 : (j : Int) < (y.f5.length : Int) := by omega
                        by_cases f0 : xe.f0 = ye.f0
                        · obtain ⟨k0, k1⟩ := int_eq f0
                          by_cases f1 : xe.f1.toList = ye.f1.toList
                          · have k2 : (xe.f1.toList == ye.f1.toList) = true := by simpa using f1
                            have HQ := hide (show entEq xe ye = true by unfold entEq; rw [k0, k2]; rfl)
                            clear f0 f1
                            go_wp2
                            go_quiet (fail)
                            go_wp2
                            go_roundw
                            case rel => exact ⟨j + 1, by omega, by go_num, ⟨_, by first | rfl | (rw [drewN_drewN]; done)⟩, fun a ha ha' haj => by
                              by_cases e : a = j
                              · subst e; rw [HX5.out, HY5.out]; exact HQ.out
                              · exact HA5.out a ha ha' (by omega)⟩
                            case measure => simp [intOf]; omega
                          · have k2 : (xe.f1.toList == ye.f1.toList) = false := by simpa using f1
                            have HE := hide (eqL_bad (f := nodeEq) k hlt hlt' (by rw [HX.out, HY.out]; exact nodeEq_not (fun h => by rw [eqL_bad (f := entEq) j hj5 hj5' (by rw [HX5.out, HY5.out]; unfold entEq; rw [k2]; simp)] at h; simp at h)))
                            clear f0 f1
                            go_wp2
                            go_quiet (fail)
                            go_wp2
                            go_ret
                            exact ⟨by rw [HE.out]; first | rfl | simp, by first | exact HBQ.out | exact below_drewN HBQ.out _⟩
                        · obtain ⟨k0, k1⟩ := int_ne f0
                          have HE := hide (eqL_bad (f := nodeEq) k hlt hlt' (by rw [HX.out, HY.out]; exact nodeEq_not (fun h => by rw [eqL_bad (f := entEq) j hj5 hj5' (by rw [HX5.out, HY5.out]; unfold entEq; rw [k0]; simp)] at h; simp at h)))
                          clear f0
                          go_wp2
                          go_quiet (fail)
                          go_wp2
                          go_ret
                          exact ⟨by rw [HE.out]; first | rfl | simp, by first | exact HBQ.out | exact below_drewN HBQ.out _⟩
                      · have H55 := hide (eqL_good (f := entEq) (by have := D5.out; simpa using this) (fun a ha ha' => HA5.out a ha ha' (by omega)))
                        go_wp2
                        go_loopw [9] (fun i w5 => ∃ j : Nat, j ≤ x.f4.length ∧ i = .int .i64 j ∧ (∃ q, w5 = W2.drewN q) ∧ ∀ a (ha : a < x.f4.length) (ha' : a < y.f4.length), a < j → partEq x.f4[a] y.f4[a] = true) (fun i _ => x.f4.length - (intOf i).toNat)
                        case atStart => exact ⟨0, by omega, rfl, ⟨q, rfl⟩, fun j _ _ h => absurd h (by omega)⟩
                        case round =>
                          clear hj hj5 HA5 z4q z5q y4q y5q HBQ
                          obtain ⟨j, hj, rfl, ⟨q, rfl⟩, hall5⟩ := hrel
                          have HA5 := hide hall5
                          clear hall5
                          have HBQ := hide (below_drewN HBA.out q)
                          by_cases hj5 : j < x.f4.length
                          · have hj5' : j < y.f4.length := by omega
                            obtain ⟨ae, B1, k1, e5a, u0, u1, l1, g1⟩ := at_T35 G4.out (j : Int) (by omega) (by omega)
                            obtain ⟨be, B2, k2, e5b, v0, v1, l2, g2⟩ := at_T35 G4'.out (j : Int) (by omega) (by omega)
                            have eu : rd_T35 x.f4 (j : Int) = x.f4[j] := by unfold rd_T35; simp [hj5]
                            have ev : rd_T35 y.f4 (j : Int) = y.f4[j] := by unfold rd_T35; simp [hj5']
                            rw [eu] at u0 u1 g1
                            rw [ev] at v0 v1 g2
                            rw [Int.toNat_natCast] at u0 u1 v0 v1
                            subst e5a
                            subst e5b
                            replace u0 := (HBA.out.cell (World.block_lt_of_cell? w _ u0)).trans u0
                            replace u1 := (HBA.out.cell (World.block_lt_of_cell? w _ u1)).trans u1
                            replace v0 := (HBA.out.cell (World.block_lt_of_cell? w _ v0)).trans v0
                            replace v1 := (HBA.out.cell (World.block_lt_of_cell? w _ v1)).trans v1
                            clear eu ev l1 l2
                            generalize hx5 : x.f4[j] = xe at u0 u1 g1
                            generalize hy5 : y.f4[j] = ye at v0 v1 g2
                            have HX5 := hide hx5
                            have HY5 := hide hy5
                            clear hx5 hy5
                            have hu35 := Try.underlying35
                            have o1 : (0 : Int) ≤ (j : Int) := by omega
                            have o2 : (j : Int) < (x.f4.length : Int) := by omega
                            have o3 : (j : Int) < (y.f4.length : Int) := by omega
                            have cv1 := Kd.C_string (P := Try.prog) (A := B1) (c := k1) Try.underlying33 Try.underlying5 Try.underlying9 (Kd.C_below g1 HBA.out)
                            have cv2 := Kd.C_string (P := Try.prog) (A := B2) (c := k2) Try.underlying33 Try.underlying5 Try.underlying9 (Kd.C_below g2 HBA.out)
                            have cv3 : ∀ n, (convert 33 9 (.slice B1 xe.f1.length k1)).run Try.prog ((W2.drewN q).drewN n) = .ok (.string (strOfNums xe.f1)) ((W2.drewN q).drewN n) := fun n => Kd.C_string (P := Try.prog) (A := B1) (c := k1) Try.underlying33 Try.underlying5 Try.underlying9 (Kd.C_below g1 (below_drewN HBQ.out n))
                            have cv4 : ∀ n, (convert 33 9 (.slice B2 ye.f1.length k2)).run Try.prog ((W2.drewN q).drewN n) = .ok (.string (strOfNums ye.f1)) ((W2.drewN q).drewN n) := fun n => Kd.C_string (P := Try.prog) (A := B2) (c := k2) Try.underlying33 Try.underlying5 Try.underlying9 (Kd.C_below g2 (below_drewN HBQ.out n))
                            have cv5 : ∀ n, (convert 33 9 (.slice B1 xe.f1.length k1)).run Try.prog (W2.drewN n) = .ok (.string (strOfNums xe.f1)) (W2.drewN n) := fun n => Kd.C_string (P := Try.prog) (A := B1) (c := k1) Try.underlying33 Try.underlying5 Try.underlying9 (Kd.C_below g1 (below_drewN HBA.out n))
                            have cv6 : ∀ n, (convert 33 9 (.slice B2 ye.f1.length k2)).run Try.prog (W2.drewN n) = .ok (.string (strOfNums ye.f1)) (W2.drewN n) := fun n => Kd.C_string (P := Try.prog) (A := B2) (c := k2) Try.underlying33 Try.underlying5 Try.underlying9 (Kd.C_below g2 (below_drewN HBA.out n))
                            clear g1 g2
                            by_cases f0 : xe.f0 = ye.f0
                            · obtain ⟨m0, m1⟩ := int_eq f0
                              by_cases f1 : (strOfNums xe.f1).toList = (strOfNums ye.f1).toList
                              · have m2 : ((strOfNums xe.f1).toList == (strOfNums ye.f1).toList) = true := by simpa using f1
                                have HQ := hide (show partEq xe ye = true by unfold partEq; rw [m0, m2]; rfl)
                                clear f0 f1
                                go_wp2
                                go_quiet (fail)
                                go_wp2
                                go_roundw
                                case rel => exact ⟨j + 1, by omega, by go_num, ⟨_, by first | rfl | (rw [drewN_drewN]; done)⟩, fun a ha ha' haj => by
                                  by_cases e : a = j
                                  · subst e; rw [HX5.out, HY5.out]; exact HQ.out
                                  · exact HA5.out a ha ha' (by omega)⟩
                                case measure => simp [intOf]; omega
                              · have m2 : ((strOfNums xe.f1).toList == (strOfNums ye.f1).toList) = false := by simpa using f1
                                have HE := hide (eqL_bad (f := nodeEq) k hlt hlt' (by rw [HX.out, HY.out]; exact nodeEq_not (fun h => by rw [eqL_bad (f := partEq) j hj5 hj5' (by rw [HX5.out, HY5.out]; unfold partEq; rw [m2]; simp)] at h; simp at h)))
                                clear f0 f1
                                go_wp2
                                go_quiet (fail)
                                go_wp2
                                go_ret
                                exact ⟨by rw [HE.out]; first | rfl | simp, by first | exact HBQ.out | exact below_drewN HBQ.out _⟩
                            · obtain ⟨m0, m1⟩ := int_ne f0
                              have HE := hide (eqL_bad (f := nodeEq) k hlt hlt' (by rw [HX.out, HY.out]; exact nodeEq_not (fun h => by rw [eqL_bad (f := partEq) j hj5 hj5' (by rw [HX5.out, HY5.out]; unfold partEq; rw [m0]; simp)] at h; simp at h)))
                              clear f0
                              go_wp2
                              go_quiet (fail)
                              go_wp2
                              go_ret
                              exact ⟨by rw [HE.out]; first | rfl | simp, by first | exact HBQ.out | exact below_drewN HBQ.out _⟩
                          · have HQ := hide (show nodeEq x y = true from nodeEq_yes ⟨D0.out, D1.out, D2.out, D3.out, H55.out, eqL_good (f := partEq) (by have := D4.out; simpa using this) (fun a ha ha' => HA5.out a ha ha' (by omega))⟩)
                            go_wp2
                            go_roundw
                            case rel => exact ⟨k + 1, by omega, by go_num, HBQ.out, fun a ha ha' haj => by
                              by_cases e : a = k
                              · subst e; rw [HX.out, HY.out]; exact HQ.out
                              · exact HA.out a ha ha' (by omega)⟩
                            case measure => simp [intOf]; omega
                  · obtain ⟨p4, n4⟩ := len_ne d4
                    have HE := hide (eqL_bad (f := nodeEq) k hlt hlt' (by rw [HX.out, HY.out]; exact nodeEq_not (fun h => d4 (eqL_lens h.2.2.2.2.2))))
                    clear d4
                    go_wp2
                    go_ret
                    exact ⟨by rw [HE.out]; first | rfl | simp, HBA.out⟩
                · obtain ⟨p5, n5⟩ := len_ne d5
                  have HE := hide (eqL_bad (f := nodeEq) k hlt hlt' (by rw [HX.out, HY.out]; exact nodeEq_not (fun h => d5 (eqL_lens h.2.2.2.2.1))))
                  clear d5
                  go_wp2
                  go_ret
                  exact ⟨by rw [HE.out]; first | rfl | simp, HBA.out⟩
              · obtain ⟨p3, n3⟩ := int_ne d3
                have HE := hide (eqL_bad (f := nodeEq) k hlt hlt' (by rw [HX.out, HY.out]; exact nodeEq_not (fun h => d3 h.2.2.2.1)))
                clear d3
                go_wp2
                go_ret
                exact ⟨by rw [HE.out]; first | rfl | simp, HBA.out⟩
            · obtain ⟨p2, n2⟩ := int_ne d2
              have HE := hide (eqL_bad (f := nodeEq) k hlt hlt' (by rw [HX.out, HY.out]; exact nodeEq_not (fun h => d2 h.2.2.1)))
              clear d2
              go_wp2
              go_ret
              exact ⟨by rw [HE.out]; first | rfl | simp, HBA.out⟩
          · obtain ⟨p1, n1⟩ := int_ne d1
            have HE := hide (eqL_bad (f := nodeEq) k hlt hlt' (by rw [HX.out, HY.out]; exact nodeEq_not (fun h => d1 h.2.1)))
            clear d1
            go_wp2
            go_ret
            exact ⟨by rw [HE.out]; first | rfl | simp, HBA.out⟩
        · obtain ⟨p0, n0⟩ := int_ne d0
          have HE := hide (eqL_bad (f := nodeEq) k hlt hlt' (by rw [HX.out, HY.out]; exact nodeEq_not (fun h => d0 h.1)))
          clear d0
          go_wp2
          go_ret
          exact ⟨by rw [HE.out]; first | rfl | simp, HBA.out⟩
      · have hkn : xs.length ≤ k := by omega
        have HE := hide (eqL_good (f := nodeEq) E2.out (fun j hj hj' => HA.out j hj hj' (by omega)))
        go_wp2
        go_ret
        exact ⟨by rw [HE.out]; first | rfl | simp, hbr⟩
  · obtain ⟨e1, e2⟩ := len_ne e
    have HE := hide (eqL_len (f := nodeEq) (show (xs.length == ys.length) = false by simpa using e))
    clear e
    go_enter Try.func12, Try.ntmps12
    go_wp2
    go_ret
    exact ⟨by rw [HE.out]; first | rfl | simp, Below.refl _ _⟩
end Go.Proofs.Ytnmlmbbacicojaa
