/-
  LocksSafe in plain words. No program.
-/
import Derived.Test.YtcmiboipgngjaaaOp
namespace Go.Proofs.Ytcmiboipgngjaaa
set_option linter.unusedVariables false
set_option linter.unusedSimpArgs false
open Go.RowKit

def SfI (H : List Lk) (a : List Bool) : Prop := ∀ k : Nat, k < 10 → a.getD k false = true → (onT (k : Int) H).length ≤ 1
/-- what a call that grants got on thing k makes of who holds -/
structure Stp (H H' got : List Lk) (k : Int) : Prop where
  other : ∀ n, n ≠ k → onT n H' = onT n H
  mem : ∀ x ∈ got, x ∈ H' ∧ x.tg = k
  nil : got = [] → (onT k H').length ≤ (onT k H).length
  last : ∀ g y, got = g ++ [y] → y.al = true → (onT k H').length = 1
theorem stp_no {H : List Lk} {k : Int} : Stp H H [] k := ⟨fun _ _ => rfl, by simp, fun _ => Nat.le_refl _, fun g y e => by simp at e⟩
theorem stp_yes {H R : List Lk} {x : Lk} (h : askB H R x = true) : Stp H (askH H R x) [x] x.tg := by
  have hf : freeP H R x = true := by
    unfold askB at h
    cases hq : freeP H R x with
    | true => rfl
    | false => rw [hq, Bool.and_false] at h; cases h
  unfold askH
  rw [if_pos h]
  refine ⟨fun n hn => by rw [onT_append, onT_one_ne (fun e => hn e.symm), List.append_nil], fun y hy => by rw [List.mem_singleton.1 hy]; exact ⟨by simp, rfl⟩, fun e => by simp at e, fun g y e hy => ?_⟩
  have : g = [] ∧ y = x := by
    cases g with
    | nil => simp at e; exact ⟨rfl, e.symm⟩
    | cons a g => simp at e
  rw [this.2] at hy
  unfold freeP at hf
  rw [Bool.and_eq_true] at hf
  have he : onT x.tg H = [] := List.eq_nil_iff_forall_not_mem.2 fun z hz => by
    have := (beside_true.1 hf.2 z hz).2
    rw [hy] at this; cases this
  rw [onT_append, he, onT_one_eq]; rfl
theorem stp_ask_no {H R : List Lk} {x : Lk} (h : askB H R x = false) : Stp H (askH H R x) [] x.tg := by
  unfold askH
  rw [h]
  exact stp_no
theorem stp_rel {H R : List Lk} (th k : Int) : Stp H (relH H R th k) (gotP H R th k) k := by
  refine ⟨fun n hn => onT_relH_ne hn, fun x hx => ⟨List.mem_append_right _ hx, (got_mem hx).2⟩, fun e => ?_, fun g y e hy => ?_⟩
  · rw [onT_relH_eq, e, List.append_nil]; exact List.length_filter_le _ _
  · have hb := grant_mem _ _ _ _ [] e
    have he : onT k (offT th k H) ++ g = [] := List.eq_nil_iff_forall_not_mem.2 fun z hz => by
      have := (beside_true.1 hb z hz).2
      rw [hy] at this; cases this
    rw [onT_relH_eq, ← onT_off_eq, e, ← List.append_assoc, he]; rfl
/-- the array behind r of those that were granted -/
def arrS (a : List Bool) (got : List Lk) (k r : Nat) (b0 : Bool) : List Bool := if r = 0 then (if b0 then a.set k false else a) else a.set k ((got[r - 1]?.map Lk.al).getD false)
theorem arrS_len (a : List Bool) (got : List Lk) (k r : Nat) (b0 : Bool) : (arrS a got k r b0).length = a.length := by
  unfold arrS
  split
  · cases b0 <;> simp
  · simp
theorem arrS_succ {a : List Bool} {got : List Lk} {k r : Nat} {b0 : Bool} (h : r < got.length) : (arrS a got k r b0).set k got[r].al = arrS a got k (r + 1) b0 := by
  unfold arrS
  rw [if_neg (Nat.succ_ne_zero r)]
  have e : (got[r + 1 - 1]?.map Lk.al).getD false = got[r].al := by simp [h]
  rw [e]
  split
  · cases b0 <;> simp
  · simp
theorem getD_set_eq {a : List Bool} {k : Nat} {v : Bool} (h : k < a.length) : (a.set k v).getD k false = v := by rw [List.getD_eq_getElem?_getD, List.getElem?_set_self h]; rfl
theorem getD_set_ne {a : List Bool} {k m : Nat} {v : Bool} (h : k ≠ m) : (a.set k v).getD m false = a.getD m false := by rw [List.getD_eq_getElem?_getD, List.getElem?_set_ne h, ← List.getD_eq_getElem?_getD]
theorem SfI.step {H H' got : List Lk} {a : List Bool} {k : Nat} (h : SfI H a) (hs : Stp H H' got k) (hk : k < 10) (ha : a.length = 10) (b0 : Bool) (hb : b0 = decide ((onT (k : Int) H').length = got.length)) : SfI H' (arrS a got k got.length b0) := by
  intro m hm hv
  by_cases e : k = m
  · subst e
    unfold arrS at hv
    by_cases hg : got = []
    · subst hg
      rw [if_pos (by simp)] at hv
      cases b0 with
      | true => rw [if_pos rfl, getD_set_eq (by omega)] at hv; cases hv
      | false => exact Nat.le_trans (hs.nil rfl) (h k hm hv)
    · have hl : got.length ≠ 0 := fun e => hg (List.eq_nil_of_length_eq_zero e)
      rw [if_neg hl, getD_set_eq (by omega)] at hv
      have e1 : got = got.dropLast ++ [got.getLast hg] := (List.dropLast_concat_getLast hg).symm
      have e2 : got[got.length - 1]? = some (got.getLast hg) := by rw [List.getLast_eq_getElem]; simp [show got.length - 1 < got.length by omega]
      rw [e2] at hv
      exact Nat.le_of_eq (hs.last _ _ e1 hv)
  · have : (arrS a got k got.length b0).getD m false = a.getD m false := by
      unfold arrS
      split
      · cases b0
        · rfl
        · exact getD_set_ne e
      · exact getD_set_ne e
    rw [this] at hv
    rw [hs.other m (by omega)]
    exact h m hm hv
theorem SfI.start : SfI [] (List.replicate 10 false) := fun k _ h => by simp [onT]
end Go.Proofs.Ytcmiboipgngjaaa
