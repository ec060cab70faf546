/-
  Which changes are needed, as the document's own text reckons it: from the last to the first. Plain words.
-/
import Derived.Test.YtlpdhmkcbdhelaaRb
import Derived.Test.YtlpdhmkcbdhelaaNp
namespace Go.Proofs.Ytlpdhmkcbdhelaa
set_option linter.unusedVariables false
set_option linter.unusedSimpArgs false
open Go.RowKit Go.Maps

def markS (s : Int → Bool) (x : Int) : Int → Bool := fun y => if y = x then true else s y
theorem markS_self (s : Int → Bool) (x : Int) : markS s x x = true := if_pos rfl
theorem markS_old {s : Int → Bool} {x y : Int} (h : s y = true) : markS s x y = true := by unfold markS; split; rfl; exact h
structure N1 (r : List Rc) (ids : List Int) (k : Nat) (s : Int → Bool) : Prop where
  at_ : ∀ x, s x = true ↔ x ∈ ids.take k ∧ good r x
theorem N1.start (r : List Rc) (ids : List Int) : N1 r ids 0 (fun _ => false) := ⟨fun x => ⟨(fun h => by cases h), (fun h => by simp at h)⟩⟩
theorem N1.skip {r : List Rc} {ids : List Int} {k : Nat} {s : Int → Bool} (h : N1 r ids k s) (hk : k < ids.length) (hg : ¬ good r ids[k]) : N1 r ids (k + 1) s := ⟨fun x => by
  rw [h.at_, List.take_succ_eq_append_getElem hk, List.mem_append, List.mem_singleton]
  constructor
  · rintro ⟨h1, h2⟩; exact ⟨.inl h1, h2⟩
  · rintro ⟨h1 | rfl, h2⟩
    · exact ⟨h1, h2⟩
    · exact absurd h2 hg⟩
theorem N1.mark {r : List Rc} {ids : List Int} {k : Nat} {s : Int → Bool} (h : N1 r ids k s) (hk : k < ids.length) (hg : good r ids[k]) : N1 r ids (k + 1) (markS s ids[k]) := ⟨fun x => by
  rw [List.take_succ_eq_append_getElem hk, List.mem_append, List.mem_singleton]
  unfold markS
  by_cases e : x = ids[k]
  · rw [if_pos e]
    exact ⟨fun _ => ⟨.inr e, e ▸ hg⟩, fun _ => rfl⟩
  · rw [if_neg e, h.at_]
    constructor
    · rintro ⟨h1, h2⟩; exact ⟨.inl h1, h2⟩
    · rintro ⟨h1 | h1, h2⟩
      · exact ⟨h1, h2⟩
      · exact absurd h1 e⟩
structure N2 (r : List Rc) (ids : List Int) (t : Int) (s : Int → Bool) : Prop where
  sound : ∀ x, s x = true → Reach r ids x
  idsC : ∀ x ∈ ids, good r x → s x = true
  onC : ∀ y, t < y → s y = true → ∀ x ∈ (rd r y).on, good r x → s x = true
theorem N1.final {r : List Rc} {ids : List Int} {s : Int → Bool} (h : N1 r ids ids.length s) : N2 r ids ((r.length : Int) - 1) s := by
  have h := h.at_
  rw [List.take_length] at h
  refine ⟨fun x hx => .id ((h x).1 hx).1 ((h x).1 hx).2, fun x hx hg => (h x).2 ⟨hx, hg⟩, fun y hy hs => ?_⟩
  have := ((h y).1 hs).2.2.1
  omega
theorem N2.skip {r : List Rc} {ids : List Int} {t : Int} {s : Int → Bool} (h : N2 r ids t s) (hs : s t = false) : N2 r ids (t - 1) s :=
  ⟨h.sound, h.idsC, fun y hy hsy => by
    by_cases e : y = t
    · rw [e, hs] at hsy; cases hsy
    · exact h.onC y (by omega) hsy⟩
structure N3 (r : List Rc) (ids : List Int) (t : Int) (j : Nat) (s : Int → Bool) : Prop where
  two : N2 r ids t s
  self : s t = true
  part : ∀ x ∈ (rd r t).on.take j, good r x → s x = true
theorem N3.start {r : List Rc} {ids : List Int} {t : Int} {s : Int → Bool} (h : N2 r ids t s) (hs : s t = true) : N3 r ids t 0 s := ⟨h, hs, fun x hx => by simp at hx⟩
theorem N3.skip {r : List Rc} {ids : List Int} {t : Int} {j : Nat} {s : Int → Bool} (h : N3 r ids t j s) (hj : j < (rd r t).on.length) (hg : ¬ good r (rd r t).on[j]) : N3 r ids t (j + 1) s :=
  ⟨h.two, h.self, fun x hx hgx => by
    rw [List.take_succ_eq_append_getElem hj, List.mem_append, List.mem_singleton] at hx
    rcases hx with hx | rfl
    · exact h.part x hx hgx
    · exact absurd hgx hg⟩
theorem N3.mark {r : List Rc} {ids : List Int} {t : Int} {j : Nat} {s : Int → Bool} (h : N3 r ids t j s) (hj : j < (rd r t).on.length) (hg : good r (rd r t).on[j]) (hlt : (rd r t).on[j] < t) : N3 r ids t (j + 1) (markS s (rd r t).on[j]) := by
  have hm : ∀ {x}, s x = true → markS s (rd r t).on[j] x = true := fun h => markS_old h
  refine ⟨⟨fun x hx => ?_, fun x hx hgx => hm (h.two.idsC x hx hgx), fun y hy hs x hx hgx => hm (h.two.onC y hy ?_ x hx hgx)⟩, hm h.self, fun x hx hgx => ?_⟩
  · unfold markS at hx
    by_cases e : x = (rd r t).on[j]
    · rw [e]; exact .on (h.two.sound t h.self) (List.getElem_mem hj) hg
    · rw [if_neg e] at hx; exact h.two.sound x hx
  · unfold markS at hs
    rwa [if_neg (by omega)] at hs
  · rw [List.take_succ_eq_append_getElem hj, List.mem_append, List.mem_singleton] at hx
    rcases hx with hx | rfl
    · exact hm (h.part x hx hgx)
    · exact markS_self _ _
theorem N3.final {r : List Rc} {ids : List Int} {t : Int} {s : Int → Bool} (h : N3 r ids t (rd r t).on.length s) : N2 r ids (t - 1) s :=
  ⟨h.two.sound, h.two.idsC, fun y hy hsy x hx hgx => by
    by_cases e : y = t
    · subst e
      exact h.part x (by rw [List.take_length]; exact hx) hgx
    · exact h.two.onC y (by omega) hsy x hx hgx⟩
theorem N2.final {r : List Rc} {ids : List Int} {s : Int → Bool} (h : N2 r ids (-1) s) (x : Int) : s x = true ↔ Reach r ids x := by
  refine ⟨h.sound x, fun hr => ?_⟩
  induction hr with
  | id hx hg => exact h.idsC _ hx hg
  | on hy hx hg ih => exact h.onC _ (by have := hy.good.1; omega) ih _ hx hg
theorem rising_castL {p : Nat → Bool} (N : Nat) : Rising (castL ((List.range N).filter p)) := by
  unfold castL Rising
  rw [List.pairwise_map]
  exact (List.pairwise_lt_range.filter p).imp (fun h => by omega)
theorem need_fin {r : List Rc} {ids : List Int} {s : Int → Bool} (h : N2 r ids (-1) s) : needR r ids (prefR (fun i : Nat => s (i : Int)) r.length) := by
  refine ⟨rising_castL _, fun x => ?_⟩
  rw [← h.final x]
  unfold prefR castL
  rw [List.mem_map]
  constructor
  · rintro ⟨i, hi, rfl⟩
    exact (List.mem_filter.1 hi).2
  · intro hs
    have hg := (h.sound x hs).good
    obtain ⟨i, rfl⟩ := Int.eq_ofNat_of_zero_le hg.1
    exact ⟨i, List.mem_filter.2 ⟨List.mem_range.2 (by have := hg.2.1; omega), hs⟩, rfl⟩
theorem need_one {r : List Rc} {ids xs ys : List Int} (h1 : needR r ids xs) (h2 : needR r ids ys) : xs = ys := rising_ext h1.1 h2.1 fun x => by rw [h1.2 x, h2.2 x]
/-- a row of marks -/
def wL (N : Nat) (s : Int → Bool) : List Value := (List.range N).map (fun i : Nat => Value.bool (s (i : Int)))
theorem wL_at {N : Nat} {s : Int → Bool} {i : Nat} (h : i < N) : (wL N s)[i]? = some (.bool (s (i : Int))) := by unfold wL; simp [h]
theorem wL_set {N : Nat} {s : Int → Bool} {i : Nat} (h : i < N) : (wL N s).set i (.bool true) = wL N (markS s (i : Int)) := by
  refine List.ext_getElem (by simp [wL]) fun j h1 h2 => ?_
  have hj : j < N := by simpa [wL] using h2
  rw [List.getElem_set]
  unfold wL markS
  by_cases e : i = j
  · subst e; simp
  · have e2 : ¬ (j : Int) = (i : Int) := by omega
    simp [e, e2]
theorem wL_zero (N : Nat) : wL N (fun _ => false) = List.replicate N (.bool false) := List.ext_getElem (by simp [wL]) fun j h1 h2 => by simp [wL]
end Go.Proofs.Ytlpdhmkcbdhelaa
