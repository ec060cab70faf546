/-
  What is written, of a graph as a function of its rows, and that all on the way is in its bounds: plain words.
-/
import Derived.Test.YtlpdhmkcbdhelaaQ2
namespace Go.Proofs.Ytlpdhmkcbdhelaa
set_option linter.unusedVariables false
set_option linter.unusedSimpArgs false
open Go.RowKit

def clr (o : List Int) (st : St) : St := { st with l := (List.range st.l.length).map (fun i => ⟨(st.l.getD i zc).buf, (st.l.getD i zc).on, (st.l.getD i zc).left, if (i : Int) ∈ o then [] else (st.l.getD i zc).to, (st.l.getD i zc).done⟩) }
theorem clr_at {o : List Int} {st : St} {i : Nat} (hi : i < st.l.length) : (clr o st).l.getD i zc = ⟨(st.l.getD i zc).buf, (st.l.getD i zc).on, (st.l.getD i zc).left, if (i : Int) ∈ o then [] else (st.l.getD i zc).to, (st.l.getD i zc).done⟩ := by simp [clr, hi]
theorem clr_len (o : List Int) (st : St) : (clr o st).l.length = st.l.length := by simp [clr]
theorem clearTo_len (st : St) (k : Int) : (clearTo st k).l.length = st.l.length := by simp [clearTo]
theorem clearTo_at {st : St} {k : Int} {i : Nat} (hi : i < st.l.length) : (clearTo st k).l.getD i zc = if k.toNat = i then ⟨(st.l.getD i zc).buf, (st.l.getD i zc).on, (st.l.getD i zc).left, [], (st.l.getD i zc).done⟩ else st.l.getD i zc := by
  simp [clearTo, hi, List.getElem_modify]
theorem freeOne_clear (st : St) (k x : Int) (hk : 0 ≤ k ∧ k < (st.l.length : Int)) : freeOne (clearTo st x) k = clearTo (freeOne st k) x := by
  have hat : (at_ (clearTo st x) k).left = (at_ st k).left ∧ (at_ (clearTo st x) k).buf = (at_ st k).buf := by
    unfold at_
    rw [clearTo_at (by omega)]
    split <;> exact ⟨rfl, rfl⟩
  refine st_ext (list_ext_getD (by simp [freeOne, clearTo]) fun i hi => ?_) (fun _ => rfl) rfl (fun b => ?_)
  · have hi' : i < st.l.length := by simpa [freeOne, clearTo] using hi
    have hl : (freeOne st k).l.length = st.l.length := by simp [freeOne]
    rw [freeOne_at (by rw [clearTo_len]; exact hi'), clearTo_at hi', clearTo_at (by rw [hl]; exact hi'), freeOne_at hi']
    by_cases e1 : k.toNat = i <;> by_cases e2 : x.toNat = i <;> simp [e1, e2]
  · show (if (at_ (clearTo st x) k).left - 1 = 0 then upd st.next (at_ (clearTo st x) k).buf (some ((st.next (at_ (clearTo st x) k).buf).getD 0 + 1)) else st.next) b = _
    rw [hat.1, hat.2]; rfl
theorem frees_clear (es : List Int) (x : Int) : ∀ st : St, (∀ k ∈ es, 0 ≤ k ∧ k < (st.l.length : Int)) → es.foldl freeOne (clearTo st x) = clearTo (es.foldl freeOne st) x := by
  induction es with
  | nil => intro st _; rfl
  | cons k es ih =>
    intro st h
    have hl : (freeOne st k).l.length = st.l.length := by simp [freeOne]
    rw [List.foldl_cons, List.foldl_cons, freeOne_clear st k x (h k List.mem_cons_self), ih _ (fun y hy => by rw [hl]; exact h y (List.mem_cons_of_mem _ hy))]
theorem clr_clear (o : List Int) (st : St) (x : Int) (hx : 0 ≤ x) : clr o (clearTo st x) = clr (x :: o) st := by
  refine st_ext (list_ext_getD (by simp [clr, clearTo]) fun i hi => ?_) (fun _ => rfl) rfl (fun _ => rfl)
  have hi' : i < st.l.length := by simpa [clr, clearTo] using hi
  rw [clr_at (by rw [clearTo_len]; exact hi'), clr_at hi', clearTo_at hi']
  by_cases e : x.toNat = i
  · have : (i : Int) = x := by omega
    simp [e, this]
  · have : ¬ ((i : Int) = x) := by omega
    simp [e, this]
theorem clr_nil (st : St) : clr [] st = st := by
  refine st_ext (list_ext_getD (by simp [clr]) fun i hi => ?_) (fun _ => rfl) rfl (fun _ => rfl)
  have hi' : i < st.l.length := by simpa [clr] using hi
  rw [clr_at hi']; simp
/-- the rounds of the second loop in one -/
theorem freeAll_closed (o : List Int) : ∀ M : St, o.Nodup → (∀ x ∈ o, 0 ≤ x ∧ x < (M.l.length : Int)) → (∀ i, i < M.l.length → ∀ y ∈ (M.l.getD i zc).to, 0 ≤ y ∧ y < (M.l.length : Int)) →
    o.foldl freeAll M = clr o ((o.flatMap (fun id => (at_ M id).to)).foldl freeOne M) := by
  induction o with
  | nil => intro M _ _ _; exact (clr_nil M).symm
  | cons x o ih =>
    intro M hnd ho hto
    obtain ⟨hx, hnd'⟩ := List.nodup_cons.1 hnd
    have hxr := ho x List.mem_cons_self
    have hlen : (freeAll M x).l.length = M.l.length := freeAll_len1 M x
    have hF : freeAll M x = clearTo ((at_ M x).to.foldl freeOne M) x := rfl
    have hto1 : ∀ i, i < M.l.length → ((freeAll M x).l.getD i zc).to = if x.toNat = i then [] else (M.l.getD i zc).to := fun i hi => by
      rw [hF, clearTo_at (by rw [freeOne_len]; exact hi)]
      have := freeOnes_to (at_ M x).to M i
      split
      · rfl
      · exact this
    rw [List.foldl_cons, ih (freeAll M x) hnd' (fun y hy => by rw [hlen]; exact ho y (List.mem_cons_of_mem _ hy)) (fun i hi y hy => by
      rw [hlen] at hi ⊢
      rw [hto1 i hi] at hy
      split at hy
      · cases hy
      · exact hto i hi y hy)]
    have hes : o.flatMap (fun id => (at_ (freeAll M x) id).to) = o.flatMap (fun id => (at_ M id).to) := by
      have : ∀ l : List Int, (∀ y ∈ l, y ∈ o) → l.flatMap (fun id => (at_ (freeAll M x) id).to) = l.flatMap (fun id => (at_ M id).to) := by
        intro l
        induction l with
        | nil => intro _; rfl
        | cons a l ih2 =>
          intro hl
          rw [List.flatMap_cons, List.flatMap_cons, ih2 (fun y hy => hl y (List.mem_cons_of_mem _ hy))]
          congr 1
          have hao := hl a List.mem_cons_self
          have har := ho a (List.mem_cons_of_mem _ hao)
          show ((freeAll M x).l.getD a.toNat zc).to = (M.l.getD a.toNat zc).to
          rw [hto1 _ (by omega), if_neg]
          intro e
          have h3 : x = a := by omega
          exact hx (h3 ▸ hao)
      exact this o (fun y hy => hy)
    rw [hes, hF, frees_clear _ _ _ (fun k hk => by
      rw [freeOne_len]
      obtain ⟨id, hid, hk⟩ := List.mem_flatMap.1 hk
      have := ho id (List.mem_cons_of_mem _ hid)
      exact hto id.toNat (by omega) k hk), clr_clear _ _ _ hxr.1, List.flatMap_cons, List.foldl_append]
end Go.Proofs.Ytlpdhmkcbdhelaa
