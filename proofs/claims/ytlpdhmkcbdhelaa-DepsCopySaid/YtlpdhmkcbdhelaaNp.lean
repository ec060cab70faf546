/-
  Which changes are needed for some: reached through what is not done. Plain words.
-/
import Derived.Test.YtlpdhmkcbdhelaaT
namespace Go.Proofs.Ytlpdhmkcbdhelaa
set_option linter.unusedVariables false
set_option linter.unusedSimpArgs false
open Go.RowKit Go.Maps

def good (r : List Rc) (x : Int) : Prop := 0 ≤ x ∧ x < (r.length : Int) ∧ (rd r x).done = false
inductive Reach (r : List Rc) (ids : List Int) : Int → Prop
  | id {x : Int} : x ∈ ids → good r x → Reach r ids x
  | on {x y : Int} : Reach r ids y → x ∈ (rd r y).on → good r x → Reach r ids x
theorem Reach.good {r : List Rc} {ids : List Int} {x : Int} (h : Reach r ids x) : good r x := by cases h <;> assumption
structure NInv (r : List Rc) (ids : List Int) (s : Int → Bool) (way : List Int) : Prop where
  sound : ∀ x, s x = true → Reach r ids x
  cand : ∀ x ∈ way, Go.Proofs.Ytlpdhmkcbdhelaa.good r x → Reach r ids x
  idsC : ∀ x ∈ ids, Go.Proofs.Ytlpdhmkcbdhelaa.good r x → s x = true ∨ x ∈ way
  onC : ∀ y, s y = true → ∀ x ∈ (rd r y).on, Go.Proofs.Ytlpdhmkcbdhelaa.good r x → s x = true ∨ x ∈ way
theorem NInv.start (r : List Rc) (ids : List Int) : NInv r ids (fun _ => false) ids :=
  ⟨fun x h => (by cases h), fun x hx hg => .id hx hg, fun x hx _ => .inr hx, fun y h => (by cases h)⟩
theorem NInv.final {r : List Rc} {ids : List Int} {s : Int → Bool} (h : NInv r ids s []) (x : Int) : s x = true ↔ Reach r ids x := by
  refine ⟨h.sound x, fun hr => ?_⟩
  induction hr with
  | id hx hg => rcases h.idsC _ hx hg with h | h; exact h; cases h
  | on hy hx hg ih => rcases h.onC _ ih _ hx hg with h | h; exact h; cases h
theorem NInv.skip {r : List Rc} {ids : List Int} {s : Int → Bool} {way : List Int} {id : Int} (h : NInv r ids s (way ++ [id])) (hs : ¬ good r id ∨ s id = true) : NInv r ids s way := by
  have hm : ∀ x, Go.Proofs.Ytlpdhmkcbdhelaa.good r x → s x = true ∨ x ∈ way ++ [id] → s x = true ∨ x ∈ way := fun x hg hx => by
    rcases hx with hx | hx
    · exact .inl hx
    · rcases List.mem_append.1 hx with hx | hx
      · exact .inr hx
      · rw [List.mem_singleton.1 hx] at hg ⊢
        rcases hs with hs | hs
        · exact absurd hg hs
        · exact .inl hs
  exact ⟨h.sound, fun x hx => h.cand x (List.mem_append_left _ hx), fun x hx hg => hm x hg (h.idsC x hx hg), fun y hy x hx hg => hm x hg (h.onC y hy x hx hg)⟩
theorem NInv.mark {r : List Rc} {ids : List Int} {s : Int → Bool} {way : List Int} {id : Int} (h : NInv r ids s (way ++ [id])) (hg : good r id) : NInv r ids (fun x => if x = id then true else s x) (way ++ (rd r id).on) := by
  have hr : Reach r ids id := h.cand id (by simp) hg
  have hm : ∀ x, s x = true ∨ x ∈ way ++ [id] → (if x = id then true else s x) = true ∨ x ∈ way ++ (rd r id).on := fun x hx => by
    by_cases e : x = id
    · exact .inl (by rw [if_pos e])
    · rw [if_neg e]
      rcases hx with hx | hx
      · exact .inl hx
      · rcases List.mem_append.1 hx with hx | hx
        · exact .inr (List.mem_append_left _ hx)
        · exact absurd (List.mem_singleton.1 hx) e
  refine ⟨fun x hx => ?_, fun x hx hgx => ?_, fun x hx hgx => hm x (h.idsC x hx hgx), fun y hy x hx hgx => ?_⟩
  · by_cases e : x = id
    · rw [e]; exact hr
    · rw [if_neg e] at hx; exact h.sound x hx
  · rcases List.mem_append.1 hx with hx | hx
    · exact h.cand x (List.mem_append_left _ hx) hgx
    · exact .on hr hx hgx
  · by_cases e : y = id
    · rw [e] at hx
      exact .inr (List.mem_append_right _ hx)
    · rw [if_neg e] at hy
      exact hm x (h.onC y hy x hx hgx)
/-- how much is not seen yet -/
def rest (r : List Rc) (s : Int → Bool) : Nat := ((List.range r.length).map (fun i : Nat => if s (i : Int) then 0 else (r.getD i zr).on.length + 1)).sum
theorem sum_upd {f f' : Nat → Nat} {k : Nat} : ∀ N, k < N → (∀ i, i ≠ k → f' i = f i) → ((List.range N).map f').sum + f k = ((List.range N).map f).sum + f' k := by
  intro N
  induction N with
  | zero => intro h; omega
  | succ N ih =>
    intro h he
    rw [List.range_succ, List.map_append, List.map_append, List.sum_append, List.sum_append]
    simp only [List.map_cons, List.map_nil, List.sum_cons, List.sum_nil]
    by_cases e : k = N
    · subst e
      have : (List.range k).map f' = (List.range k).map f := List.map_congr_left fun i hi => he i (by have := List.mem_range.1 hi; omega)
      rw [this]; omega
    · have := ih (by omega) he
      have := he N (fun h => e h.symm)
      omega
theorem rest_mark {r : List Rc} {s : Int → Bool} {id : Int} (h : 0 ≤ id ∧ id < (r.length : Int)) (hs : s id = false) : rest r (fun x => if x = id then true else s x) + (rd r id).on.length + 1 = rest r s := by
  unfold rest
  have := sum_upd (f := fun i => if s (i : Int) then 0 else (r.getD i zr).on.length + 1) (f' := fun i => if (if (i : Int) = id then true else s (i : Int)) then 0 else (r.getD i zr).on.length + 1) (k := id.toNat) r.length (by omega) (fun i hi => by
    have : ¬ (i : Int) = id := by omega
    simp only [this, if_false])
  have e : ((id.toNat : Nat) : Int) = id := by omega
  simp only [e, if_true, hs] at this
  unfold rd
  simp at this ⊢
  omega
theorem rest_le (r : List Rc) (s : Int → Bool) : rest r s ≤ tot r + r.length := by
  unfold rest tot
  have : ∀ N, N ≤ r.length → ((List.range N).map (fun i : Nat => if s (i : Int) then 0 else (r.getD i zr).on.length + 1)).sum ≤ ((r.take N).map (fun c => c.on.length)).sum + N := by
    intro N
    induction N with
    | zero => intro _; simp
    | succ N ih =>
      intro h
      rw [List.range_succ, List.map_append, List.sum_append, List.take_succ_eq_append_getElem (by omega), List.map_append, List.sum_append]
      have h1 := ih (by omega)
      have e : r.getD N zr = r[N]'(by omega) := by simp [show N < r.length by omega]
      simp only [List.map_cons, List.map_nil, List.sum_cons, List.sum_nil]
      rw [e]
      split <;> omega
  have h := this r.length (Nat.le_refl _)
  rwa [List.take_length] at h
/-- the changes that are needed for ids, rising -/
def needR (r : List Rc) (ids : List Int) (xs : List Int) : Prop := Rising xs ∧ ∀ x, x ∈ xs ↔ Reach r ids x
end Go.Proofs.Ytlpdhmkcbdhelaa
