/-
  The walk of the law WalkSame.
-/
import Derived.Test.YtnmlmbbacicojaaY
import Derived.Test.YtnmlmbbacicojaaC
namespace Go.Proofs.Ytnmlmbbacicojaa
set_option linter.unusedVariables false
set_option linter.unusedSimpArgs false
open Go.RowKit Go.Shelf Go.Maps Go.Proofs.YtnmlmbbacicojaaW.PrintWords Go.Proofs.YtnmlmbbacicojaaW.PrintLast Go.Proofs.YtnmlmbbacicojaaW.PrintMore Go.Proofs.Ytnmlmbbacicojaa.PWalkSame

theorem eqL_symm {α : Type} {f : α → α → Bool} (hf : ∀ x y, f x y = f y x) (xs ys : List α) : eqL f xs ys = eqL f ys xs := by
  have key : ∀ xs ys : List α, eqL f xs ys = true → eqL f ys xs = true := by
    intro xs ys h
    have hl := eqL_lens h
    refine eqL_good (by simpa using hl.symm) fun k hk hk' => ?_
    rw [hf]
    cases hq : f (xs[k]) (ys[k]) with
    | true => rfl
    | false => rw [eqL_bad k hk' hk hq] at h; cases h
  cases h1 : eqL f xs ys with
  | true => exact (key _ _ h1).symm
  | false =>
    cases h2 : eqL f ys xs with
    | false => rfl
    | true => rw [key _ _ h2] at h1; cases h1
theorem eqL_refl {α : Type} {f : α → α → Bool} (hf : ∀ x, f x x = true) (xs : List α) : eqL f xs xs = true := eqL_good (by simp) fun k hk hk' => hf _
theorem entEq_symm (x y : S32) : entEq x y = entEq y x := by unfold entEq; rw [Bool.beq_comm (a := x.f0), Bool.beq_comm (a := x.f1.toList)]
theorem partEq_symm (x y : S35) : partEq x y = partEq y x := by unfold partEq; rw [Bool.beq_comm (a := x.f0), Bool.beq_comm (a := (strOfNums x.f1).toList)]
theorem nodeEq_symm (x y : S30) : nodeEq x y = nodeEq y x := by
  unfold nodeEq
  rw [Bool.beq_comm (a := x.f0), Bool.beq_comm (a := x.f1), Bool.beq_comm (a := x.f2), Bool.beq_comm (a := x.f3), eqL_symm entEq_symm, eqL_symm partEq_symm]
theorem entEq_refl (x : S32) : entEq x x = true := by unfold entEq; simp
theorem partEq_refl (x : S35) : partEq x x = true := by unfold partEq; simp
theorem nodeEq_refl (x : S30) : nodeEq x x = true := by unfold nodeEq; simp [eqL_refl entEq_refl, eqL_refl partEq_refl]
theorem NodesOk.len {l : List S30} (h : NodesOk l) : l.length ≤ 140737488355328 := by have := h.2; have := reach47; omega
theorem NodesOk.mod {l : List S30} (h : NodesOk l) : ∀ x ∈ l, Mod x := fun x hx => by
  have := h.1 x hx
  have h4 := this.2.2.2.2.1.2
  have h5 := this.2.2.2.2.2.2
  have := reach47
  exact ⟨by omega, by omega⟩

set_option maxHeartbeats 1000000 in
set_option maxRecDepth 100000 in
theorem WalkSame_walk (w : World) (A : Option Addr) (N c : Nat) (xs : List S30) (hn : xs.length = N) (hc : N ≤ c) (hok : NodesOk xs) (hC : Kd.C k30 w A N xs) (A' : Option Addr) (N' c' : Nat) (ys : List S30) (hn' : ys.length = N') (hc' : N' ≤ c') (hok' : NodesOk ys) (hC' : Kd.C k30 w A' N' ys) :
    Calls Try.prog 3 #[.slice A N c, .slice A' N' c'] w fun e w' => e = .returned (.bool true) ∧ Below w.heap.size w w' := by
  subst hn
  subst hn'
  have HX := hide (fun W (hb : Below w.heap.size w W) => big_c A xs.length c xs hok W rfl (Kd.C_below hC hb) hc)
  have HY := hide (fun W (hb : Below w.heap.size w W) => big_c A' ys.length c' ys hok' W rfl (Kd.C_below hC' hb) hc')
  have hlx := hok.len
  have hly := hok'.len
  have H1 := hide (fun W (hb : Below w.heap.size w W) => walkSame_c A A' c c' xs ys W (Kd.C_below hC hb) hc (Kd.C_below hC' hb) hc' (by omega) hok.mod)
  have H2 := hide (fun W (hb : Below w.heap.size w W) => refSame_c A A' c c' xs ys W (Kd.C_below hC hb) hc (Kd.C_below hC' hb) hc' (by omega) hok.mod)
  have H3 := hide (fun W (hb : Below w.heap.size w W) => (eqL_refl nodeEq_refl xs) ▸ walkSame_c A A c c xs xs W (Kd.C_below hC hb) hc (Kd.C_below hC hb) hc (by omega) hok.mod)
  have H4 := hide (fun W (hb : Below w.heap.size w W) => (eqL_symm nodeEq_symm ys xs) ▸ walkSame_c A' A c' c ys xs W (Kd.C_below hC' hb) hc' (Kd.C_below hC hb) hc (by omega) hok'.mod)
  generalize bigB xs hok = bx at HX
  generalize bigB ys hok' = by_ at HY
  clear hok hC hok' hC'
  cases bx with
  | true =>
    go_enter Try.func3, Try.ntmps3
    go_wp2_with (first | (go_at_call 9; refine (alive_c _).mono ?_; rintro e w1 ⟨rfl, hb⟩) | (go_at_call 10; refine (HX.out _ hb).mono ?_; rintro e w2 ⟨rfl, hb2⟩))
    go_ret
    exact ⟨by first | rfl | simp, hb.trans (hb2.mono hb.size)⟩
  | false =>
    cases by_ with
    | true =>
      go_enter Try.func3, Try.ntmps3
      go_wp2_with (first | (go_at_call 9; refine (alive_c _).mono ?_; rintro e w1 ⟨rfl, hb⟩) | (go_at_call 10; first | (refine (HX.out _ hb).mono ?_; rintro e w2 ⟨rfl, hb2⟩; have hb2' := hb.trans (hb2.mono hb.size); clear HX) | (refine (HY.out _ hb2').mono ?_; rintro e w3 ⟨rfl, hb3⟩)))
      go_ret
      exact ⟨by first | rfl | simp, hb2'.trans (hb3.mono hb2'.size)⟩
    | false =>
      go_enter Try.func3, Try.ntmps3
      go_wp2_with (first | (go_at_call 9; refine (alive_c _).mono ?_; rintro e w1 ⟨rfl, hb⟩) | (go_at_call 10; first | (refine (HX.out _ hb).mono ?_; rintro e w2 ⟨rfl, hb2⟩; have hb2' := hb.trans (hb2.mono hb.size); clear HX) | (refine (HY.out _ hb2').mono ?_; rintro e w3 ⟨rfl, hb3⟩; have hb3' := hb2'.trans (hb3.mono hb2'.size))) | (go_at_call 12; refine (H2.out _ hb4').mono ?_; rintro e w5 ⟨rfl, hb5⟩; have hb5' := hb4'.trans (hb5.mono hb4'.size)) | (go_at_call 11; first | (refine (H1.out _ hb3').mono ?_; rintro e w4 ⟨rfl, hb4⟩; have hb4' := hb3'.trans (hb4.mono hb3'.size); clear hb3') | (refine (H3.out _ hb5').mono ?_; rintro e w6 ⟨rfl, hb6⟩; have hb6' := hb5'.trans (hb6.mono hb5'.size); clear hb5') | (refine (H4.out _ hb6').mono ?_; rintro e w7 ⟨rfl, hb7⟩; have hb7' := hb6'.trans (hb7.mono hb6'.size); clear hb6') | (refine (H1.out _ hb7').mono ?_; rintro e w8 ⟨rfl, hb8⟩; have hb8' := hb7'.trans (hb8.mono hb7'.size); clear hb7')))
      go_ret
      exact ⟨by first | rfl | simp, hb8'⟩
end Go.Proofs.Ytnmlmbbacicojaa
