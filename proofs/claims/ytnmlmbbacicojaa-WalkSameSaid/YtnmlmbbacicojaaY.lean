/-
  The contract of the laws' example.
-/
import Derived.Test.YtnmlmbbacicojaaX
import Derived.Test.YtnmlmbbacicojaaPWalkSamex2
namespace Go.Proofs.Ytnmlmbbacicojaa
set_option linter.unusedVariables false
set_option linter.unusedSimpArgs false
open Go.RowKit Go.Shelf Go.Maps Go.Proofs.YtnmlmbbacicojaaW.PrintWords Go.Proofs.YtnmlmbbacicojaaW.PrintLast Go.Proofs.YtnmlmbbacicojaaW.PrintMore Go.Proofs.Ytnmlmbbacicojaa.PWalkSame

def treeL : List S30 := [⟨1, 2, 0, 0, [], [⟨5, ⟨#[97]⟩⟩]⟩, ⟨5, 2, 0, 0, [], [⟨0, ⟨#[]⟩⟩, ⟨9, ⟨#[98]⟩⟩]⟩, ⟨9, 1, 0, 0, [], []⟩]
theorem tree_paths : pathsF treeL = [⟨#[47, 97]⟩, ⟨#[47, 97, 47, 98]⟩] := by decide +kernel
theorem tree_ok : NodesOk treeL := by
  refine ⟨fun x hx => ?_, by decide⟩
  simp only [treeL, List.mem_cons, List.not_mem_nil, or_false] at hx
  rcases hx with rfl | rfl | rfl
  · exact ⟨by decide, by decide, by decide, by decide, ⟨by simp, by decide⟩, ⟨by simp [EntOk]; decide, by decide⟩⟩
  · exact ⟨by decide, by decide, by decide, by decide, ⟨by simp, by decide⟩, ⟨by simp [EntOk]; decide, by decide⟩⟩
  · exact ⟨by decide, by decide, by decide, by decide, ⟨by simp, by decide⟩, ⟨by simp, by decide⟩⟩
theorem tree_c (w : World) : Calls Try.prog 21 #[] w fun e w' => ∃ A c, e = .returned (.slice A 3 c) ∧ 3 ≤ c ∧ Kd.C k30 w' A 3 treeL ∧ Below w.heap.size w w' := by
  refine (lockgatelaw20_Tree.calls treeL w rfl).mono ?_
  rintro e w' ⟨v, rfl, hN, hb⟩
  obtain ⟨A, c, rfl, hl, hC⟩ := Kd.N_reads hN
  exact ⟨A, c, rfl, hl, hC, hb⟩
/-- a row of strings that was made, its cells -/
theorem rows_cells {w : World} {base n : Nat} {v : Value} {xs : List ByteArray} (h : w.ownsRow base 9 1 v n (xs.map Value.string)) (hn : xs.length = n) (h0 : 0 < n) : ∃ g c, v = .slice (some ⟨g, 0, none⟩) n c ∧ ∀ i (hi : i < xs.length), w.cell? ⟨g, i, none⟩ = some (.string xs[i]) := by
  obtain ⟨g, cap, rfl, _, _⟩ := h.form h0
  refine ⟨g, cap, rfl, fun i hi => ?_⟩
  rw [h.cellAt i (by omega), List.getElem?_map, List.getElem?_eq_getElem hi]
  rfl
theorem alive_c (w : World) : Calls Try.prog 9 #[] w fun e w' => e = .returned (.bool true) ∧ Below w.heap.size w w' := by
  have HP := hide (fun (A : Option Addr) (c : Nat) (W : World) (hc : 3 ≤ c) (hC : Kd.C k30 W A 3 treeL) => walkPaths_c treeL A 3 c W rfl hc tree_ok hC)
  have HQ := hide tree_paths
  go_enter Try.func9, Try.ntmps9
  go_wp2_with (first | (go_at_call 21; refine (tree_c _).mono ?_; rintro e w1 ⟨A, c, rfl, hc, hC, hb⟩; have HC := hide hC; clear hC) | (go_at_call 19; refine (HP.out _ _ _ hc HC.out).mono ?_; rintro e w2 ⟨v, rfl, hown, hb2⟩; rw [HQ.out] at hown; obtain ⟨g, c2, rfl, hcell⟩ := rows_cells (n := 2) hown rfl (by omega); have c0 := hcell 0 (by decide); have c1 := hcell 1 (by decide); have e0 : ([⟨#[47, 97]⟩, ⟨#[47, 97, 47, 98]⟩] : List ByteArray).length = 2 := rfl; clear hown hcell; dsimp only [List.getElem_cons_zero, List.getElem_cons_succ] at c0 c1))
  go_ret
  exact ⟨by first | rfl | simp, hb.trans (hb2.mono hb.size)⟩
end Go.Proofs.Ytnmlmbbacicojaa
