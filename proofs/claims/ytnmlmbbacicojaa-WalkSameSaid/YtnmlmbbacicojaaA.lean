/-
  Contracts of walk.Same and of what it calls: it answers whether two lists of nodes are one, part by part. Conditions: none.
-/
import Derived.Test.YtnmlmbbacicojaaPWalkSamex4
import Derived.Test.YtnmlmbbacicojaaG
import Derived.Deep.QuietTactic
import Derived.BigQuiet
import Derived.WalkSmall
namespace Go.Proofs.Ytnmlmbbacicojaa
set_option linter.unusedVariables false
set_option linter.unusedSimpArgs false
open Go.RowKit Go.Proofs.YtnmlmbbacicojaaW.PrintWords Go.Proofs.YtnmlmbbacicojaaW.PrintLast Go.Proofs.YtnmlmbbacicojaaW.PrintMore Go.Proofs.Ytnmlmbbacicojaa.PWalkSame

theorem bytesEqual_c (A A' : Option Addr) (c c' : Nat) (xs ys : List Int) (w : World) (h1 : (Kd.int .u8).C w A xs.length xs) (h2 : (Kd.int .u8).C w A' ys.length ys) :
    Calls Try.prog 36 #[.slice A xs.length c, .slice A' ys.length c'] w fun e w' => e = .returned (.bool ((strOfNums xs).toList == (strOfNums ys).toList)) ∧ w = w' := by
  have hc1 := Kd.C_string (P := Try.prog) (c := c) Try.underlying33 Try.underlying5 Try.underlying9 h1
  have hc2 := Kd.C_string (P := Try.prog) (c := c') Try.underlying33 Try.underlying5 Try.underlying9 h2
  go_enter Try.func36, Try.ntmps36
  go_wp2
  go_ret
  exact ⟨rfl, rfl⟩
/-- are two parts one? -/
def partEq (x y : S35) : Bool := (x.f0 == y.f0) && ((strOfNums x.f1).toList == (strOfNums y.f1).toList)
theorem partEq_c (x y : S35) (A A' : Option Addr) (c c' : Nat) (w : World) (h1 : (Kd.int .u8).C w A x.f1.length x.f1) (h2 : (Kd.int .u8).C w A' y.f1.length y.f1) :
    Calls Try.prog 35 #[.agg #[.int .i64 x.f0, .slice A x.f1.length c], .agg #[.int .i64 y.f0, .slice A' y.f1.length c']] w fun e w' => e = .returned (.bool (partEq x y)) ∧ Below w.heap.size w w' := by
  by_cases e : x.f0 = y.f0
  · have e1 : (x.f0 == y.f0) = true := by simpa using e
    have e2 : partEq x y = ((strOfNums x.f1).toList == (strOfNums y.f1).toList) := by unfold partEq; rw [e1]; rfl
    rw [e2]
    clear e e2
    have H1 := hide h1
    have H2 := hide h2
    clear h1 h2
    go_enter Try.func35, Try.ntmps35
    go_wp2_with (go_at_call 36; refine (bytesEqual_c _ _ _ _ _ _ _ (Kd.C_below H1.out (((Below.refl _ w).alloc (Nat.le_refl _) _).alloc (by simp) _)) (Kd.C_below H2.out (((Below.refl _ w).alloc (Nat.le_refl _) _).alloc (by simp) _))).mono ?_; rintro e w' ⟨rfl, rfl⟩)
    go_ret
    exact ⟨by first | rfl | simp, ((Below.refl _ w).alloc (Nat.le_refl _) _).alloc (by simp) _⟩
  · have e1 : (x.f0 == y.f0) = false := by simpa using e
    have e2 : partEq x y = false := by unfold partEq; rw [e1]; rfl
    rw [e2]
    clear e e2 h1 h2
    go_enter Try.func35, Try.ntmps35
    go_wp2
    go_ret
    exact ⟨by first | rfl | simp, ((Below.refl _ w).alloc (Nat.le_refl _) _).alloc (by simp) _⟩
/-- are two lists one, element by element? -/
def eqL {α : Type} (f : α → α → Bool) (xs ys : List α) : Bool := (xs.length == ys.length) && (xs.zip ys).all fun p => f p.1 p.2

theorem eqL_len {α : Type} {f : α → α → Bool} {xs ys : List α} (h : (xs.length == ys.length) = false) : eqL f xs ys = false := by unfold eqL; rw [h]; rfl
theorem eqL_bad {α : Type} {f : α → α → Bool} {xs ys : List α} (k : Nat) (hk : k < xs.length) (hk' : k < ys.length) (h : f (xs[k]) (ys[k]) = false) : eqL f xs ys = false := by
  unfold eqL
  rw [Bool.and_eq_false_iff]
  refine .inr ?_
  rw [List.all_eq_false]
  refine ⟨(xs[k], ys[k]), ?_, by simp [h]⟩
  have : (xs.zip ys)[k]'(by rw [List.length_zip]; omega) = (xs[k], ys[k]) := List.getElem_zip
  rw [← this]; exact List.getElem_mem _
theorem eqL_good {α : Type} {f : α → α → Bool} {xs ys : List α} (hl : (xs.length == ys.length) = true) (h : ∀ k (hk : k < xs.length) (hk' : k < ys.length), f (xs[k]) (ys[k]) = true) : eqL f xs ys = true := by
  unfold eqL
  rw [hl, Bool.true_and, List.all_eq_true]
  intro p hp
  obtain ⟨k, hk, rfl⟩ := List.getElem_of_mem hp
  rw [List.getElem_zip]
  rw [List.length_zip] at hk
  exact h k (by omega) (by omega)

set_option maxHeartbeats 1000000 in
set_option maxRecDepth 100000 in
theorem partsEq_c (A A' : Option Addr) (c c' : Nat) (xs ys : List S35) (w : World) (h1 : Kd.C k35 w A xs.length xs) (hc : xs.length ≤ c) (h2 : Kd.C k35 w A' ys.length ys) (hc' : ys.length ≤ c') (hl : xs.length ≤ 9223372036854775807) :
    Calls Try.prog 34 #[.slice A xs.length c, .slice A' ys.length c', .func (.func 35) #[] #[]] w fun e w' => e = .returned (.bool (eqL partEq xs ys)) ∧ Below w.heap.size w w' := by
  have H1 := hide h1
  have H2 := hide h2
  clear h1 h2
  by_cases e : xs.length = ys.length
  · have e1 : ((xs.length : Int) == (ys.length : Int)) = true := by rw [e]; simp
    have e2 : ((xs.length : Int) != (ys.length : Int)) = false := by rw [e]; simp
    have e3 : (xs.length : Int) ≤ (ys.length : Int) := by omega
    have e4 : (ys.length : Int) ≤ (xs.length : Int) := by omega
    have E2 := hide (show (xs.length == ys.length) = true by simpa using e)
    clear e
    go_enter Try.func34, Try.ntmps34
    go_wp2
    go_loopw [17] (fun i wr => ∃ k : Nat, k ≤ xs.length ∧ i = .int .i64 k ∧ Below w.heap.size w wr ∧ ∀ j (hj : j < xs.length) (hj' : j < ys.length), j < k → partEq xs[j] ys[j] = true) (fun i _ => xs.length - (intOf i).toNat)
    case atStart => exact ⟨0, by omega, rfl, Below.refl _ _, fun j _ _ h => absurd h (by omega)⟩
    case round =>
      obtain ⟨k, hk, rfl, hbr, hall⟩ := hrel
      have HA := hide hall
      clear hall
      by_cases hlt : k < xs.length
      · have hlt' : k < ys.length := by omega
        obtain ⟨ad, A1, c1, e5, x0, x1, l1, g1⟩ := at_T35 H1.out (k : Int) (by omega) (by omega)
        obtain ⟨ad', A2, c2, e6, y0, y1, l2, g2⟩ := at_T35 H2.out (k : Int) (by omega) (by omega)
        have ex : rd_T35 xs (k : Int) = xs[k] := by unfold rd_T35; simp [hlt]
        have ey : rd_T35 ys (k : Int) = ys[k] := by unfold rd_T35; simp [hlt']
        rw [ex] at x0 x1 g1
        rw [ey] at y0 y1 g2
        rw [Int.toNat_natCast] at x0 x1 y0 y1
        subst e5
        subst e6
        replace x0 := (hbr.cell (World.block_lt_of_cell? w _ x0)).trans x0
        replace x1 := (hbr.cell (World.block_lt_of_cell? w _ x1)).trans x1
        replace y0 := (hbr.cell (World.block_lt_of_cell? w _ y0)).trans y0
        replace y1 := (hbr.cell (World.block_lt_of_cell? w _ y1)).trans y1
        have G1 := hide g1
        have G2 := hide g2
        generalize hx : xs[k] = x at x0 x1 G1
        generalize hy : ys[k] = y at y0 y1 G2
        clear g1 g2 ex ey l1 l2
        have HX := hide hx
        have HY := hide hy
        clear hx hy
        have bA : Below wr.heap.size wr (wr.alloc (.cells #[.int .i64 x.f0, .slice A1 x.f1.length c1] 35)) := (Below.refl _ wr).alloc (Nat.le_refl _) _
        replace y0 := (bA.cell (World.block_lt_of_cell? wr _ y0)).trans y0
        replace y1 := (bA.cell (World.block_lt_of_cell? wr _ y1)).trans y1
        have HBA := hide (hbr.trans ((bA.alloc (by simp) (.cells #[.int .i64 y.f0, .slice A2 y.f1.length c2] 35)).mono hbr.size))
        clear bA
        cases hq : partEq x y with
        | true =>
          have HC := hide (hq ▸ partEq_c x y A1 A2 c1 c2 _ (Kd.C_below G1.out HBA.out) (Kd.C_below G2.out HBA.out))
          have HQ := hide hq
          clear hq
          go_wp2_with (go_at_call 35; refine HC.out.mono ?_; rintro e w3 ⟨rfl, hb3⟩)
          go_roundw
          case rel => exact ⟨k + 1, by omega, by go_num, HBA.out.trans (hb3.mono HBA.out.size), fun j hj hj' hjk => by
            by_cases e : j = k
            · subst e; rw [HX.out, HY.out]; exact HQ.out
            · exact HA.out j hj hj' (by omega)⟩
          case measure => simp [intOf]; omega
        | false =>
          have HC := hide (hq ▸ partEq_c x y A1 A2 c1 c2 _ (Kd.C_below G1.out HBA.out) (Kd.C_below G2.out HBA.out))
          have HE := hide (eqL_bad (f := partEq) k hlt hlt' (by rw [HX.out, HY.out]; exact hq))
          clear hq
          go_wp2_with (go_at_call 35; refine HC.out.mono ?_; rintro e w3 ⟨rfl, hb3⟩)
          go_ret
          exact ⟨by rw [HE.out]; first | rfl | simp, HBA.out.trans (hb3.mono HBA.out.size)⟩
      · have hkn : xs.length ≤ k := by omega
        have HE := hide (eqL_good (f := partEq) E2.out (fun j hj hj' => HA.out j hj hj' (by omega)))
        go_wp2
        go_ret
        exact ⟨by rw [HE.out]; first | rfl | simp, hbr⟩
  · have e1 : ((xs.length : Int) == (ys.length : Int)) = false := by rw [beq_eq_false_iff_ne]; omega
    have e2 : ((xs.length : Int) != (ys.length : Int)) = true := by rw [bne_iff_ne]; omega
    have HE := hide (eqL_len (f := partEq) (show (xs.length == ys.length) = false by simpa using e))
    clear e
    go_enter Try.func34, Try.ntmps34
    go_wp2
    go_ret
    exact ⟨by rw [HE.out]; first | rfl | simp, Below.refl _ _⟩
end Go.Proofs.Ytnmlmbbacicojaa
