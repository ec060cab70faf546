/-
  Contracts of the document's own Split, Join and of the comparison, out of their printed forms. Conditions as in the plain laws.
-/
import Derived.Test.YtbmdaeeilnghiaaF
namespace Go.Proofs.Ytbmdaeeilnghiaa
set_option linter.unusedVariables false
set_option linter.unusedSimpArgs false
open Go.RowKit Go.Proofs.YtbmdaeeilnghiaaW.PrintWords Go.Proofs.Ytbmdaeeilnghiaa.PPathJoins

theorem C_of_strs {B : Nat} {w : World} {A : Option Addr} {ss : List ByteArray} (h : Strs B w A ss) (hl : ss.length ≤ 9223372036854775807) : Kd.string.C w A ss.length ss := by
  refine Kd.C_of_reads (d := ByteArray.empty) ⟨rfl, hl, fun hn => ?_⟩
  obtain ⟨b, off, rfl, _, hc⟩ := h (List.length_pos_iff.1 hn)
  refine ⟨_, rfl, fun j hj => ?_⟩
  rw [← hc j hj]
  unfold Addr.add
  split
  · rename_i e; subst e; rfl
  · rfl
theorem splitRef_c (s : ByteArray) (w : World) (hs : s.size ≤ 140737488355328) (ps : List Bytes8) (ok : Bool) (h1 : (splitL s.data.toList).getD [] = ps) (h2 : (splitL s.data.toList).isSome = ok) :
    Calls Try.prog 10 #[.string s] w fun e w' => ∃ A c, e = .returned (.tuple #[.slice A ps.length c, .bool ok]) ∧ ps.length ≤ c ∧ Kd.string.C w' A ps.length (ps.map bs) ∧ Below w.heap.size w w' := by
  obtain ⟨k, hk⟩ := (splitR s (by omega)).rounds
  rw [h1, h2] at hk
  refine (lockgateref1_Split.calls k s _ _ w hk).mono fun e w' ⟨v, he, hR, hb⟩ => ?_
  obtain ⟨A, c, rfl, hc, hC⟩ := Kd.R_reads hR
  rw [List.length_map] at he hc hC
  exact ⟨A, c, he, hc, hC, hb⟩
theorem same_c (ss : List ByteArray) (A A' : Option Addr) (n c c' : Nat) (w : World) (hn : ss.length = n) (h1 : Kd.string.C w A n ss) (h2 : Kd.string.C w A' n ss) (hc : n ≤ c) (hc' : n ≤ c') (hl : n ≤ 1000000) :
    Calls Try.prog 11 #[.slice A n c, .slice A' n c'] w fun e w' => e = .returned (.bool true) ∧ ∃ q, w' = w.drewN q := by
  subst hn
  obtain ⟨k, hk⟩ := (sameR ss (by omega)).rounds
  exact (lockgatelaw8_same.calls k A c ss A' c' ss true w h1 hc h2 hc' hk).mono fun e w' ⟨he, hd⟩ => ⟨he, hd.out⟩
theorem joinRef_c (A : Option Addr) (n c : Nat) (ss : List ByteArray) (w : World) (hn : ss.length = n) (hs : Kd.string.C w A n ss) (hc : n ≤ c) (hl : (slashed ss).length ≤ 1000000) (hn' : n ≤ 1000000) :
    Calls Try.prog 13 #[.slice A n c] w fun e w' => e = .returned (.string (bs (47 :: joinL (ss.map (·.data.toList))))) ∧ ∃ q, w' = w.drewN q := by
  subst hn
  obtain ⟨k, hk⟩ := (joinR ss hl hn').rounds
  exact (lockgateref1_Join.calls k A c ss _ w hs hc hk).mono fun e w' ⟨he, hd⟩ => ⟨he, hd.out⟩
theorem C_below' {w w' : World} {A : Option Addr} {n : Nat} {ss : List ByteArray} (h : Kd.string.C w A n ss) (hb : Below w.heap.size w w') : Kd.string.C w' A n ss := Kd.C_below h hb
theorem below_drewN' {B : Nat} {a w : World} (h : Below B a w) (n : Nat) : Below B a (w.drewN n) := ⟨h.os, h.tape, h.output, h.size, h.block⟩
end Go.Proofs.Ytbmdaeeilnghiaa
