/-
  A change that hangs on many, in plain words.
-/
import Derived.Test.YtlpdhmkcbdhelaaPl
namespace Go.Proofs.Ytlpdhmkcbdhelaa
set_option linter.unusedVariables false
set_option linter.unusedSimpArgs false
open Go.RowKit Go.Maps

def diC (D : Nat → Bool) (j : Nat) : Rc := ⟨(j : Int), [], D j⟩
/-- n changes that hang on nothing, those of D done -/
def diA (n : Nat) (D : Nat → Bool) : List Rc := (List.range n).map (diC D)
/-- and one more that hangs on all of them -/
def diR (n : Nat) (D : Nat → Bool) : List Rc := diA n D ++ [⟨100, castL (List.range n), false⟩]
theorem diA_len (n : Nat) (D : Nat → Bool) : (diA n D).length = n := by simp [diA]
theorem diR_len (n : Nat) (D : Nat → Bool) : (diR n D).length = n + 1 := by simp [diR, diA]
theorem diA_at {n j : Nat} {D : Nat → Bool} (h : j < n) : (diA n D).getD j zr = diC D j := by simp [diA, h]
theorem diR_at {n j : Nat} {D : Nat → Bool} (h : j < n) : (diR n D).getD j zr = diC D j := by
  unfold diR
  rw [getD_snoc (by rw [diA_len]; exact h), diA_at h]
theorem diR_last {n : Nat} {D : Nat → Bool} : (diR n D).getD n zr = ⟨100, castL (List.range n), false⟩ := by
  have := getD_last (r := diA n D) (c := ⟨100, castL (List.range n), false⟩)
  rw [diA_len] at this
  exact this
theorem diA_snoc (n : Nat) : diA n (fun _ => false) ++ [⟨(n : Int), [], false⟩] = diA (n + 1) (fun _ => false) := by
  unfold diA
  rw [List.range_succ, List.map_append]
  simp [diC]
theorem diA_tot (n : Nat) (D : Nat → Bool) : tot (diA n D) = 0 := by
  unfold tot diA
  rw [List.map_map]
  have : ((fun c : Rc => c.on.length) ∘ diC D) = fun _ => 0 := rfl
  rw [this]
  induction List.range n with
  | nil => rfl
  | cons a l ih => simpa using ih
theorem diR_open {n j : Nat} {D : Nat → Bool} {b : Int} (h : j < n) : openAt (diR n D) b j = (!D j && decide ((j : Int) = b)) := by
  unfold openAt; rw [diR_at h]; rfl
theorem diR_openL {n : Nat} {D : Nat → Bool} {b : Int} : openAt (diR n D) b n = decide (100 = b) := by
  unfold openAt; rw [diR_last]; rfl
theorem diR_may {n j : Nat} {D : Nat → Bool} (h : j < n) : mayAt (diR n D) j = true := by
  unfold mayAt cnt; rw [diR_at h]; rfl
theorem diR_mayL {n : Nat} {D : Nat → Bool} : mayAt (diR n D) n = decide (∀ j, j < n → D j = true) := by
  unfold mayAt cnt
  rw [diR_last]
  refine decide_eq_decide.2 ?_
  show (List.filter _ (castL (List.range n))).length = 0 ↔ _
  rw [List.length_eq_zero_iff, List.filter_eq_nil_iff]
  have hrd : ∀ j, j < n → rd (diR n D) (j : Int) = diC D j := fun j hj => by unfold rd; rw [Int.toNat_natCast, diR_at hj]
  constructor
  · intro h j hj
    have := h (j : Int) (List.mem_map.2 ⟨j, List.mem_range.2 hj, rfl⟩)
    rw [hrd j hj] at this
    simpa [diC] using this
  · intro h x hx
    obtain ⟨j, hj, rfl⟩ := List.mem_map.1 hx
    have hj := List.mem_range.1 hj
    rw [hrd j hj]
    simp [diC, h j hj]
theorem diR_next {n : Nat} {D : Nat → Bool} (i : Nat) (hi : i < n) (hn : n ≤ 40) : nextR (diR n D) (i : Int) = if D i then [] else [(i : Int)] := by
  unfold nextR
  rw [diR_len, List.range_succ, List.filter_append]
  have e1 : (List.range n).filter (fun j => openAt (diR n D) (i : Int) j && mayAt (diR n D) j) = (List.range n).filter (fun j => decide (j = i) && !D i) := by
    refine List.filter_congr fun j hj => ?_
    have hj := List.mem_range.1 hj
    rw [diR_open hj, diR_may hj, Bool.and_true]
    by_cases h : j = i
    · subst h; simp
    · have : ¬ (j : Int) = (i : Int) := by omega
      simp [h, this]
  have e2 : [n].filter (fun j => openAt (diR n D) (i : Int) j && mayAt (diR n D) j) = [] := by
    rw [List.filter_cons, diR_openL]
    have : ¬ (100 : Int) = (i : Int) := by omega
    simp [this]
  rw [e1, e2, List.append_nil]
  cases hD : D i with
  | true => simp [castL]
  | false => simp only [Bool.not_false, Bool.and_true]; rw [filter_at1 hi]; rfl
theorem diR_nextL {n : Nat} {D : Nat → Bool} (hn : n ≤ 40) : nextR (diR n D) 100 = if ∀ j, j < n → D j = true then [(n : Int)] else [] := by
  unfold nextR
  rw [diR_len, List.range_succ, List.filter_append]
  have e1 : (List.range n).filter (fun j => openAt (diR n D) 100 j && mayAt (diR n D) j) = [] := by
    refine List.filter_eq_nil_iff.2 fun j hj => ?_
    have hj := List.mem_range.1 hj
    rw [diR_open hj]
    have : ¬ (j : Int) = 100 := by omega
    simp [this]
  rw [e1, List.nil_append, List.filter_cons, diR_openL, diR_mayL]
  by_cases h : ∀ j, j < n → D j = true
  · rw [if_pos h, decide_eq_true h]; rfl
  · rw [if_neg h, decide_eq_false h]; simp [castL]
theorem diR_nextO {n : Nat} {D : Nat → Bool} {x : Int} (h1 : x ≠ 100) (hd : ∀ j, j < n → D j = true) : nextR (diR n D) x = [] := by
  unfold nextR
  rw [List.filter_eq_nil_iff.2 (fun j hj => ?_)]; · rfl
  rw [diR_len] at hj
  have hj := List.mem_range.1 hj
  by_cases e : j = n
  · subst e
    rw [diR_openL]
    have : ¬ (100 : Int) = x := fun h => h1 h.symm
    simp [this]
  · rw [diR_open (by omega), hd j (by omega)]; simp
theorem diR_written {n : Nat} {D : Nat → Bool} (i : Nat) (hi : i < n) (hn : n ≤ 40) (hd : D i = false) : writtenR (diR n D) (i : Int) = diR n (fun j => D j || decide (j = i)) := by
  unfold writtenR setD
  rw [diR_next i hi hn, hd, diR_len, List.range_succ, List.map_append]
  unfold diR
  congr 1
  · unfold diA
    refine List.map_congr_left fun j hj => ?_
    have hj := List.mem_range.1 hj
    have := diR_at (D := D) hj
    unfold diR diA at this
    rw [this]
    unfold diC
    have e : decide ((j : Int) = (i : Int)) = decide (j = i) := decide_eq_decide.2 (by omega)
    simp [e]
  · have := diR_last (n := n) (D := D)
    unfold diR at this
    have h2 : ¬ (n : Int) = (i : Int) := by omega
    simp only [List.map_cons, List.map_nil, this]
    simp [h2]
theorem diR_ready {n : Nat} {D : Nat → Bool} (hn : n ≤ 40) (hd : ∀ j, j < n → D j = true) {xs : List Int} (h : readyR (diR n D) xs) : xs = [100] :=
  ready_one 100 h (fun x => by
    by_cases e : x = 100
    · subst e; rw [diR_nextL hn, if_pos hd]; simp
    · rw [diR_nextO e hd]; simp [e])
end Go.Proofs.Ytlpdhmkcbdhelaa
