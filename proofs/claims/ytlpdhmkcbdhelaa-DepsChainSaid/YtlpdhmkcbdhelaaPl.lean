/-
  A chain of changes, in plain words.
-/
import Derived.Test.YtlpdhmkcbdhelaaAl
namespace Go.Proofs.Ytlpdhmkcbdhelaa
set_option linter.unusedVariables false
set_option linter.unusedSimpArgs false
open Go.RowKit Go.Maps

def chC (bf : Nat → Int) (i j : Nat) : Rc := ⟨bf j, if j = 0 then [] else [(j : Int) - 1], decide (j < i)⟩
/-- n changes, each hanging on the one ahead, the first i done -/
def chR (bf : Nat → Int) (n i : Nat) : List Rc := (List.range n).map (chC bf i)
theorem chR_len (bf : Nat → Int) (n i : Nat) : (chR bf n i).length = n := by simp [chR]
theorem chR_at {bf : Nat → Int} {n i j : Nat} (h : j < n) : (chR bf n i).getD j zr = chC bf i j := by simp [chR, h]
theorem chR_zero (bf : Nat → Int) : chR bf 0 0 = [] := rfl
theorem chR_snoc (bf : Nat → Int) (n : Nat) : chR bf n 0 ++ [⟨bf n, if n = 0 then [] else [(n : Int) - 1], false⟩] = chR bf (n + 1) 0 := by
  unfold chR
  rw [List.range_succ, List.map_append]
  simp [chC]
theorem chR_tot (bf : Nat → Int) (n i : Nat) : tot (chR bf n i) ≤ n := by
  unfold tot chR
  rw [List.map_map]
  induction n with
  | zero => simp
  | succ n ih =>
    rw [List.range_succ, List.map_append, List.sum_append]
    have : (((fun c : Rc => c.on.length) ∘ chC bf i) n) ≤ 1 := by
      show (chC bf i n).on.length ≤ 1
      unfold chC
      by_cases h : n = 0 <;> simp [h]
    simp only [List.map_cons, List.map_nil, List.sum_cons, List.sum_nil]
    omega
theorem chR_open {bf : Nat → Int} {n i j : Nat} {b : Int} (h : j < n) : openAt (chR bf n i) b j = (decide (i ≤ j) && decide (bf j = b)) := by
  unfold openAt
  rw [chR_at h]
  unfold chC
  simp only
  by_cases h2 : j < i
  · have : ¬ i ≤ j := by omega
    simp [h2, this]
  · have : i ≤ j := by omega
    simp [h2, this]
theorem chR_may {bf : Nat → Int} {n i j : Nat} (h : j < n) : mayAt (chR bf n i) j = decide (j ≤ i) := by
  unfold mayAt cnt
  rw [chR_at h]
  unfold chC
  simp only
  by_cases h0 : j = 0
  · subst h0; simp
  · rw [if_neg h0]
    have : rd (chR bf n i) ((j : Int) - 1) = chC bf i (j - 1) := by
      unfold rd
      have e : ((j : Int) - 1).toNat = j - 1 := by omega
      rw [e]; exact chR_at (by omega)
    rw [List.filter_cons, this]
    unfold chC
    simp only [List.filter_nil]
    by_cases h2 : j - 1 < i
    · have h3 : j ≤ i := by omega
      simp [h2, h3]
    · have h3 : ¬ j ≤ i := by omega
      simp [h2, h3]
theorem filter_at1 {n i : Nat} (h : i < n) : (List.range n).filter (fun j => decide (j = i)) = [i] := by
  induction n with
  | zero => omega
  | succ n ih =>
    rw [List.range_succ, List.filter_append]
    by_cases e : i = n
    · subst e
      have : (List.range i).filter (fun j => decide (j = i)) = [] := List.filter_eq_nil_iff.2 fun j hj => by have := List.mem_range.1 hj; simp; omega
      rw [this]; simp
    · rw [ih (by omega)]
      have : ¬ n = i := fun h => e h.symm
      simp [this]
theorem chR_next (bf : Nat → Int) (n i : Nat) (b : Int) : nextR (chR bf n i) b = if i < n ∧ bf i = b then [(i : Int)] else [] := by
  unfold nextR
  rw [chR_len]
  have e : (List.range n).filter (fun j => openAt (chR bf n i) b j && mayAt (chR bf n i) j) = (List.range n).filter (fun j => decide (j = i) && decide (bf i = b)) := by
    refine List.filter_congr fun j hj => ?_
    have hj := List.mem_range.1 hj
    rw [chR_open hj, chR_may hj]
    by_cases h : j = i
    · subst h; simp
    · by_cases h2 : i ≤ j
      · have : ¬ j ≤ i := by omega
        simp [h, h2, this]
      · simp [h, h2]
  rw [e]
  by_cases hb : bf i = b
  · simp only [hb, decide_true, Bool.and_true, and_true]
    by_cases hi : i < n
    · rw [filter_at1 hi, if_pos hi]; rfl
    · rw [if_neg hi]
      have : (List.range n).filter (fun j => decide (j = i)) = [] := List.filter_eq_nil_iff.2 fun j hj => by have := List.mem_range.1 hj; simp; omega
      rw [this]; rfl
  · rw [if_neg (fun h => hb h.2)]
    simp only [hb, decide_false, Bool.and_false]
    rw [List.filter_eq_nil_iff.2 (fun _ _ => by simp)]; rfl
theorem chR_written {bf : Nat → Int} {n i : Nat} (h : i < n) : writtenR (chR bf n i) (bf i) = chR bf n (i + 1) := by
  unfold writtenR setD
  rw [chR_next, if_pos ⟨h, rfl⟩, chR_len]
  unfold chR
  refine List.map_congr_left fun j hj => ?_
  have hj := List.mem_range.1 hj
  have : ((List.range n).map (chC bf i)).getD j zr = chC bf i j := chR_at hj
  rw [this]
  unfold chC
  simp only [Rc.mk.injEq, true_and]
  by_cases h1 : j < i
  · have : j < i + 1 := by omega
    simp [h1, this]
  · by_cases h2 : j = i
    · subst h2; simp
    · have h3 : ¬ j < i + 1 := by omega
      have h4 : ¬ (j : Int) = (i : Int) := by omega
      simp [h1, h3, h4]
theorem filter_ge (n i : Nat) : ((List.range n).filter (fun j => decide (i ≤ j))).length = n - i := by
  induction n with
  | zero => simp
  | succ n ih =>
    rw [List.range_succ, List.filter_append, List.length_append, ih]
    by_cases h : i ≤ n
    · simp [h]; omega
    · simp [h]; omega
theorem chR_opn (bf : Nat → Int) (n i : Nat) : (Of (chR bf n i)).opn = ((n - i : Nat) : Int) := by
  show (((List.range (chR bf n i).length).filter (fun j => !((chR bf n i).getD j zr).done)).length : Int) = _
  rw [chR_len]
  have e : (List.range n).filter (fun j => !((chR bf n i).getD j zr).done) = (List.range n).filter (fun j => decide (i ≤ j)) := by
    refine List.filter_congr fun j hj => ?_
    rw [chR_at (List.mem_range.1 hj)]
    unfold chC
    by_cases h : j < i
    · have : ¬ i ≤ j := by omega
      simp [h, this]
    · have : i ≤ j := by omega
      simp [h, this]
  rw [e, filter_ge]
theorem chR_blocked5 (n i : Nat) : (blockedR (chR (fun _ => 5) n i) 5).length = n - (i + 1) := by
  unfold blockedR castL
  rw [List.length_map, chR_len]
  rw [← filter_ge n (i + 1)]
  congr 1
  refine List.filter_congr fun j hj => ?_
  have hj := List.mem_range.1 hj
  rw [chR_open hj, chR_may hj]
  by_cases h : i + 1 ≤ j
  · have h1 : i ≤ j := by omega
    have h2 : ¬ j ≤ i := by omega
    simp [h, h1, h2]
  · by_cases h1 : i ≤ j
    · have h2 : j ≤ i := by omega
      simp [h, h1, h2]
    · simp [h, h1]
theorem chR_ready {bf : Nat → Int} {n i : Nat} (h : i < n) {xs : List Int} (hx : readyR (chR bf n i) xs) : xs = [bf i] :=
  ready_one (bf i) hx (fun x => by
    rw [chR_next]
    by_cases e : bf i = x
    · rw [if_pos ⟨h, e⟩]; simp [e]
    · rw [if_neg (fun h => e h.2)]
      simp
      exact fun h => e h.symm)
end Go.Proofs.Ytlpdhmkcbdhelaa
