/-
  While something is left something is ready: plain words.
-/
import Derived.Test.YtlpdhmkcbdhelaaX2
namespace Go.Proofs.Ytlpdhmkcbdhelaa
set_option linter.unusedVariables false
set_option linter.unusedSimpArgs false
open Go.RowKit Go.Maps

/-- how many are left -/
def leftR (r : List Rc) : Nat := leftN r r.length
theorem opn_left (r : List Rc) : (Of r).opn = (leftR r : Int) := rfl
theorem leftR_le (r : List Rc) : leftR r ≤ r.length := leftN_le r _
/-- what is brought to the disk is there, in its buffer, not done, and all that it hangs on is done -/
theorem next_facts {r : List Rc} {b x : Int} (h : x ∈ nextR r b) : (0 ≤ x ∧ x < (r.length : Int)) ∧ (rd r x).buf = b ∧ (rd r x).done = false ∧ ∀ j, j < (rd r x).on.length → (rd r ((rd r x).on.getD j 0)).done = true := by
  have h1 := nextR_range h
  obtain ⟨i, rfl⟩ := Int.eq_ofNat_of_zero_le h1.1
  obtain ⟨-, h2, h3⟩ := mem_nextR.1 h
  have hrd : rd r (i : Int) = r.getD i zr := by unfold rd; rw [Int.toNat_natCast]
  rw [hrd]
  unfold openAt at h2
  obtain ⟨h4, h5⟩ := Bool.and_eq_true_iff.1 h2
  refine ⟨h1, of_decide_eq_true h5, by simpa using h4, ?_⟩
  unfold mayAt at h3
  exact cnt_zero.1 (of_decide_eq_true h3)
theorem left_first {r : List Rc} (h : 0 < leftR r) : ∃ i, i < r.length ∧ (r.getD i zr).done = false ∧ ∀ j, j < i → (r.getD j zr).done = true := by
  unfold leftR leftN at h
  obtain ⟨i, hi⟩ := List.exists_mem_of_length_pos h
  obtain ⟨h1, h2⟩ := List.mem_filter.1 hi
  have h1 := List.mem_range.1 h1
  have h2 : (r.getD i zr).done = false := by simpa using h2
  have key : ∀ N i, i ≤ N → i < r.length → (r.getD i zr).done = false → ∃ i, i < r.length ∧ (r.getD i zr).done = false ∧ ∀ j, j < i → (r.getD j zr).done = true := by
    intro N
    induction N with
    | zero => intro i hN h1 h2; exact ⟨i, h1, h2, fun j hj => by omega⟩
    | succ N ih =>
      intro i hN h1 h2
      by_cases hj : ∃ j, j < i ∧ (r.getD j zr).done = false
      · obtain ⟨j, hj1, hj2⟩ := hj
        exact ih j (by omega) (by omega) hj2
      · exact ⟨i, h1, h2, fun j hji => by
        cases hd : (r.getD j zr).done with
        | true => rfl
        | false => exact absurd ⟨j, hji, hd⟩ hj⟩
  exact key i i (Nat.le_refl _) h1 h2
/-- while something is left something is ready -/
theorem ready_some {r : List Rc} (hw : WfR r) (h : 0 < leftR r) {xs : List Int} (hx : readyR r xs) : xs ≠ [] := by
  obtain ⟨i, hi, hd, hall⟩ := left_first h
  have hm : (i : Int) ∈ nextR r (r.getD i zr).buf := mem_nextR.2 ⟨hi, by
    unfold openAt
    rw [hd]
    simp, by
    unfold mayAt
    refine decide_eq_true (cnt_zero.2 fun j hj => ?_)
    have hon := hw.on i hi ((r.getD i zr).on[j]) (List.getElem_mem hj)
    have e : (r.getD i zr).on.getD j 0 = (r.getD i zr).on[j] := by rw [List.getD_eq_getElem?_getD, List.getElem?_eq_getElem hj]; rfl
    rw [e]
    exact hall _ (by omega)⟩
  intro e
  have := (hx.2 (r.getD i zr).buf).2 (fun h0 => by rw [h0] at hm; cases hm)
  rw [e] at this; cases this
theorem left_written {r : List Rc} {b : Int} (h : nextR r b ≠ []) : leftR (writtenR r b) < leftR r := by
  unfold leftR leftN
  have hwl : (writtenR r b).length = r.length := by rw [writtenR, setD_len]
  rw [hwl]
  have := len_add (l := List.range r.length) (p := fun i => !(r.getD i zr).done) (q := fun i => !((writtenR r b).getD i zr).done) (s := fun i : Nat => decide ((i : Int) ∈ nextR r b)) (fun i hi => by
    have hi := List.mem_range.1 hi
    unfold writtenR
    rw [setD_at hi]
    by_cases hm : (i : Int) ∈ nextR r b
    · have hd := (next_facts hm).2.2.1
      unfold rd at hd
      rw [Int.toNat_natCast] at hd
      rw [hd]
      simp [hm]
    · simp [hm])
  rw [this]
  have hpos : 0 < ((List.range r.length).filter (fun i : Nat => decide ((i : Int) ∈ nextR r b))).length := by
    obtain ⟨x, hx⟩ := List.exists_mem_of_ne_nil _ h
    have h1 := (next_facts hx).1
    refine List.length_pos_of_mem (a := x.toNat) (List.mem_filter.2 ⟨List.mem_range.2 (by omega), ?_⟩)
    have e : ((x.toNat : Nat) : Int) = x := by omega
    rw [e]; simpa using hx
  omega
theorem bufs_none {r : List Rc} (h : leftR r = 0) {xs : List Int} (hx : bufsR r xs) : xs = [] := by
  refine List.eq_nil_iff_forall_not_mem.2 fun x hm => ?_
  obtain ⟨i, hi, ho⟩ := List.any_eq_true.1 ((hx.2 x).1 hm)
  unfold openAt at ho
  have hd := (Bool.and_eq_true_iff.1 ho).1
  unfold leftR leftN at h
  rw [List.length_eq_zero_iff, List.filter_eq_nil_iff] at h
  exact h i hi hd
end Go.Proofs.Ytlpdhmkcbdhelaa
