/-
  What is written, of a graph as a function of its rows, and that all on the way is in its bounds: plain words.
  What is written, of a graph as a function of its rows: the whole; and that all on the way is in its bounds. Plain words.
  All graphs on the way are in their bounds, where their rows are few: plain words.
-/
import Derived.Test.YtjfejimghbohdaaMB2
namespace Go.Proofs.Ytjfejimghbohdaa
set_option linter.unusedVariables false
set_option linter.unusedSimpArgs false
open Go.RowKit

def clr (o : List Int) (st : St) : St := { st with l := (List.range st.l.length).map (fun i => ⟨(st.l.getD i zc).buf, (st.l.getD i zc).on, (st.l.getD i zc).left, if (i : Int) ∈ o then [] else (st.l.getD i zc).to, (st.l.getD i zc).done⟩) }
theorem clr_at {o : List Int} {st : St} {i : Nat} (hi : i < st.l.length) : (clr o st).l.getD i zc = ⟨(st.l.getD i zc).buf, (st.l.getD i zc).on, (st.l.getD i zc).left, if (i : Int) ∈ o then [] else (st.l.getD i zc).to, (st.l.getD i zc).done⟩ := by simp [clr, hi]
theorem clr_len (o : List Int) (st : St) : (clr o st).l.length = st.l.length := by simp [clr]
theorem clearTo_len (st : St) (k : Int) : (clearTo st k).l.length = st.l.length := by simp [clearTo]
theorem clearTo_at {st : St} {k : Int} {i : Nat} (hi : i < st.l.length) : (clearTo st k).l.getD i zc = if k.toNat = i then ⟨(st.l.getD i zc).buf, (st.l.getD i zc).on, (st.l.getD i zc).left, [], (st.l.getD i zc).done⟩ else st.l.getD i zc := by
  simp [clearTo, hi, List.getElem_modify]
theorem freeOne_clear (st : St) (k x : Int) (hk : 0 ≤ k ∧ k < (st.l.length : Int)) : freeOne (clearTo st x) k = clearTo (freeOne st k) x := by
  have hat : (at_ (clearTo st x) k).left = (at_ st k).left ∧ (at_ (clearTo st x) k).buf = (at_ st k).buf := by
    unfold at_
    rw [clearTo_at (by omega)]
    split <;> exact ⟨rfl, rfl⟩
  refine st_ext (list_ext_getD (by simp [freeOne, clearTo]) fun i hi => ?_) (fun _ => rfl) rfl (fun b => ?_)
  · have hi' : i < st.l.length := by simpa [freeOne, clearTo] using hi
    have hl : (freeOne st k).l.length = st.l.length := by simp [freeOne]
    rw [freeOne_at (by rw [clearTo_len]; exact hi'), clearTo_at hi', clearTo_at (by rw [hl]; exact hi'), freeOne_at hi']
    by_cases e1 : k.toNat = i <;> by_cases e2 : x.toNat = i <;> simp [e1, e2]
  · show (if (at_ (clearTo st x) k).left - 1 = 0 then upd st.next (at_ (clearTo st x) k).buf (some ((st.next (at_ (clearTo st x) k).buf).getD 0 + 1)) else st.next) b = _
    rw [hat.1, hat.2]; rfl
theorem frees_clear (es : List Int) (x : Int) : ∀ st : St, (∀ k ∈ es, 0 ≤ k ∧ k < (st.l.length : Int)) → es.foldl freeOne (clearTo st x) = clearTo (es.foldl freeOne st) x := by
  induction es with
  | nil => intro st _; rfl
  | cons k es ih =>
    intro st h
    have hl : (freeOne st k).l.length = st.l.length := by simp [freeOne]
    rw [List.foldl_cons, List.foldl_cons, freeOne_clear st k x (h k List.mem_cons_self), ih _ (fun y hy => by rw [hl]; exact h y (List.mem_cons_of_mem _ hy))]
theorem clr_clear (o : List Int) (st : St) (x : Int) (hx : 0 ≤ x) : clr o (clearTo st x) = clr (x :: o) st := by
  refine st_ext (list_ext_getD (by simp [clr, clearTo]) fun i hi => ?_) (fun _ => rfl) rfl (fun _ => rfl)
  have hi' : i < st.l.length := by simpa [clr, clearTo] using hi
  rw [clr_at (by rw [clearTo_len]; exact hi'), clr_at hi', clearTo_at hi']
  by_cases e : x.toNat = i
  · have : (i : Int) = x := by omega
    simp [e, this]
  · have : ¬ ((i : Int) = x) := by omega
    simp [e, this]
theorem clr_nil (st : St) : clr [] st = st := by
  refine st_ext (list_ext_getD (by simp [clr]) fun i hi => ?_) (fun _ => rfl) rfl (fun _ => rfl)
  have hi' : i < st.l.length := by simpa [clr] using hi
  rw [clr_at hi']; simp
/-- the rounds of the second loop in one -/
theorem freeAll_closed (o : List Int) : ∀ M : St, o.Nodup → (∀ x ∈ o, 0 ≤ x ∧ x < (M.l.length : Int)) → (∀ i, i < M.l.length → ∀ y ∈ (M.l.getD i zc).to, 0 ≤ y ∧ y < (M.l.length : Int)) →
    o.foldl freeAll M = clr o ((o.flatMap (fun id => (at_ M id).to)).foldl freeOne M) := by
  induction o with
  | nil => intro M _ _ _; exact (clr_nil M).symm
  | cons x o ih =>
    intro M hnd ho hto
    obtain ⟨hx, hnd'⟩ := List.nodup_cons.1 hnd
    have hxr := ho x List.mem_cons_self
    have hlen : (freeAll M x).l.length = M.l.length := freeAll_len1 M x
    have hF : freeAll M x = clearTo ((at_ M x).to.foldl freeOne M) x := rfl
    have hto1 : ∀ i, i < M.l.length → ((freeAll M x).l.getD i zc).to = if x.toNat = i then [] else (M.l.getD i zc).to := fun i hi => by
      rw [hF, clearTo_at (by rw [freeOne_len]; exact hi)]
      have := freeOnes_to (at_ M x).to M i
      split
      · rfl
      · exact this
    rw [List.foldl_cons, ih (freeAll M x) hnd' (fun y hy => by rw [hlen]; exact ho y (List.mem_cons_of_mem _ hy)) (fun i hi y hy => by
      rw [hlen] at hi ⊢
      rw [hto1 i hi] at hy
      split at hy
      · cases hy
      · exact hto i hi y hy)]
    have hes : o.flatMap (fun id => (at_ (freeAll M x) id).to) = o.flatMap (fun id => (at_ M id).to) := by
      have : ∀ l : List Int, (∀ y ∈ l, y ∈ o) → l.flatMap (fun id => (at_ (freeAll M x) id).to) = l.flatMap (fun id => (at_ M id).to) := by
        intro l
        induction l with
        | nil => intro _; rfl
        | cons a l ih2 =>
          intro hl
          rw [List.flatMap_cons, List.flatMap_cons, ih2 (fun y hy => hl y (List.mem_cons_of_mem _ hy))]
          congr 1
          have hao := hl a List.mem_cons_self
          have har := ho a (List.mem_cons_of_mem _ hao)
          show ((freeAll M x).l.getD a.toNat zc).to = (M.l.getD a.toNat zc).to
          rw [hto1 _ (by omega), if_neg]
          intro e
          have h3 : x = a := by omega
          exact hx (h3 ▸ hao)
      exact this o (fun y hy => hy)
    rw [hes, hF, frees_clear _ _ _ (fun k hk => by
      rw [freeOne_len]
      obtain ⟨id, hid, hk⟩ := List.mem_flatMap.1 hk
      have := ho id (List.mem_cons_of_mem _ hid)
      exact hto id.toNat (by omega) k hk), clr_clear _ _ _ hxr.1, List.flatMap_cons, List.foldl_append]
end Go.Proofs.Ytjfejimghbohdaa
namespace Go.Proofs.Ytjfejimghbohdaa
set_option linter.unusedVariables false
set_option linter.unusedSimpArgs false
open Go.RowKit

theorem count_range {f : Nat → Nat} {i : Nat} : ∀ N, ((List.range N).flatMap (fun id => List.replicate (f id) (id : Int))).count (i : Int) = if i < N then f i else 0 := by
  intro N
  induction N with
  | zero => simp
  | succ N ih =>
    rw [List.range_succ, List.flatMap_append, List.count_append, ih, List.flatMap_cons, List.flatMap_nil, List.append_nil, List.count_replicate]
    by_cases e : i = N
    · subst e; simp
    · have h1 : ((N : Int) == (i : Int)) = false := by rw [beq_eq_false_iff_ne]; omega
      rw [h1]
      by_cases h2 : i < N
      · simp [h2, show i < N + 1 by omega]
      · simp [h2, show ¬ i < N + 1 by omega]
theorem toL_count {r : List Rc} {k i : Nat} (hi : i < r.length) : (toL r k).count (i : Int) = (r.getD i zr).on.count (k : Int) := by
  unfold toL
  rw [count_range, if_pos hi]
theorem toL_mem {r : List Rc} {k : Nat} {x : Int} (h : x ∈ toL r k) : 0 ≤ x ∧ x < (r.length : Int) := by
  unfold toL at h
  obtain ⟨i, hi, hx⟩ := List.mem_flatMap.1 h
  have := (List.mem_replicate.1 hx).2
  have := List.mem_range.1 hi
  omega
theorem filter_mem_cons {on : List Int} {a : Int} {o : List Int} (h : a ∉ o) : (on.filter (fun x => decide (x ∈ a :: o))).length = on.count a + (on.filter (fun x => decide (x ∈ o))).length := by
  induction on with
  | nil => rfl
  | cons y on ih =>
    have e1 : decide (y ∈ a :: o) = (decide (y = a) || decide (y ∈ o)) := by rw [Bool.eq_iff_iff]; simp [List.mem_cons]
    rw [List.filter_cons, List.filter_cons, List.count_cons, e1]
    by_cases e : y = a
    · subst e
      have e2 : (y == y) = true := by simp
      rw [decide_eq_false h, decide_eq_true rfl, e2]
      simp only [Bool.true_or, if_true, Bool.false_eq_true, if_false, List.length_cons]
      rw [ih]
      omega
    · rw [decide_eq_false e, Bool.false_or, if_neg (show ¬ (y == a) = true by simp [e]), Nat.add_zero]
      by_cases h2 : y ∈ o
      · rw [decide_eq_true h2, if_pos rfl, if_pos rfl, List.length_cons, List.length_cons, ih]; omega
      · rw [decide_eq_false h2, if_neg (by simp), if_neg (by simp), ih]
theorem es_count {r : List Rc} {o : List Int} (hnd : o.Nodup) (ho : ∀ x ∈ o, 0 ≤ x) {i : Nat} (hi : i < r.length) : (o.flatMap (fun id => toL r id.toNat)).count (i : Int) = ((r.getD i zr).on.filter (fun x => decide (x ∈ o))).length := by
  induction o with
  | nil => rw [List.filter_eq_nil_iff.2 (by simp)]; rfl
  | cons a o ih =>
    obtain ⟨h1, h2⟩ := List.nodup_cons.1 hnd
    rw [List.flatMap_cons, List.count_append, ih h2 (fun x hx => ho x (List.mem_cons_of_mem _ hx)), filter_mem_cons h1, toL_count hi, Int.toNat_of_nonneg (ho a List.mem_cons_self)]
theorem cnt_setD {r : List Rc} {o : List Int} {on : List Int} (hon : ∀ x ∈ on, 0 ≤ x ∧ x < (r.length : Int)) (hd : ∀ x ∈ o, (rd r x).done = false) : cnt (setD r o) on + (on.filter (fun x => decide (x ∈ o))).length = cnt r on := by
  unfold cnt
  induction on with
  | nil => rfl
  | cons y on ih =>
    have hy := hon y List.mem_cons_self
    have := ih (fun x hx => hon x (List.mem_cons_of_mem _ hx))
    have h1 : (rd (setD r o) y).done = ((rd r y).done || decide (y ∈ o)) := by
      unfold rd
      rw [setD_at (by omega), Int.toNat_of_nonneg hy.1]
    rw [List.filter_cons, List.filter_cons, List.filter_cons, h1]
    by_cases hm : y ∈ o
    · have := hd y hm
      simp [hm, this]; omega
    · cases hdy : (rd r y).done <;> simp [hm, hdy] <;> omega
theorem openAt_setD {r : List Rc} {o : List Int} {b : Int} {i : Nat} (hi : i < r.length) : openAt (setD r o) b i = (openAt r b i && !decide ((i : Int) ∈ o)) := by
  unfold openAt
  rw [setD_at hi]
  cases (r.getD i zr).done <;> cases decide ((i : Int) ∈ o) <;> simp
theorem toL_setD {r : List Rc} {o : List Int} (k : Nat) : toL (setD r o) k = toL r k := by
  unfold toL
  rw [setD_len]
  have : ∀ l : List Nat, (∀ i ∈ l, i < r.length) → l.flatMap (fun id => List.replicate (((setD r o).getD id zr).on.count (k : Int)) (id : Int)) = l.flatMap (fun id => List.replicate ((r.getD id zr).on.count (k : Int)) (id : Int)) := by
    intro l
    induction l with
    | nil => intro _; rfl
    | cons a l ih => intro hl; rw [List.flatMap_cons, List.flatMap_cons, ih (fun i hi => hl i (List.mem_cons_of_mem _ hi)), setD_at (hl a List.mem_cons_self)]
  exact this _ (fun i hi => List.mem_range.1 hi)
/-- between the loops -/
def midR (r : List Rc) (b : Int) (o : List Int) : St := midS (DDg b (Of r) o) b
theorem midR_len (r : List Rc) (b : Int) (o : List Int) : (midR r b o).l.length = r.length := by simp [midR, midS, DDg, Of]
theorem midR_at {r : List Rc} {b : Int} {o : List Int} {i : Nat} (hi : i < r.length) : (midR r b o).l.getD i zc = ⟨(r.getD i zr).buf, (r.getD i zr).on, (cnt r (r.getD i zr).on : Int), if (r.getD i zr).done then [] else toL r i, (r.getD i zr).done || decide ((i : Int) ∈ o)⟩ := by
  have h : (midR r b o).l.getD i zc = ⟨((Of r).l.getD i zc).buf, ((Of r).l.getD i zc).on, ((Of r).l.getD i zc).left, ((Of r).l.getD i zc).to, ((Of r).l.getD i zc).done || decide ((i : Int) ∈ o)⟩ := by
    have : i < (Of r).l.length := by rw [Of_len]; exact hi
    simp [midR, midS, DDg, this]
  rw [h, Of_at hi]; rfl
def esR (r : List Rc) (o : List Int) : List Int := o.flatMap (fun id => toL r id.toNat)
theorem es_eq {r : List Rc} {b : Int} {o l : List Int} (h : ∀ x ∈ l, 0 ≤ x ∧ x < (r.length : Int) ∧ (rd r x).done = false) : l.flatMap (fun id => (at_ (midR r b o) id).to) = esR r l := by
  unfold esR
  induction l with
  | nil => rfl
  | cons a l ih =>
    rw [List.flatMap_cons, List.flatMap_cons, ih (fun x hx => h x (List.mem_cons_of_mem _ hx))]
    congr 1
    obtain ⟨h1, h2, h3⟩ := h a List.mem_cons_self
    unfold at_
    rw [midR_at (by omega)]
    unfold rd at h3
    show (if (r.getD a.toNat zr).done = true then [] else _) = _
    rw [h3]; rfl
theorem esR_mem {r : List Rc} {o : List Int} {x : Int} (h : x ∈ esR r o) : 0 ≤ x ∧ x < (r.length : Int) := by
  obtain ⟨id, _, hx⟩ := List.mem_flatMap.1 h
  exact toL_mem hx
theorem midR_to {r : List Rc} {b : Int} {o : List Int} {i : Nat} (hi : i < r.length) : ∀ y ∈ ((midR r b o).l.getD i zc).to, 0 ≤ y ∧ y < (r.length : Int) := fun y hy => by
  rw [midR_at hi] at hy
  simp only at hy
  split at hy
  · cases hy
  · exact toL_mem hy
theorem next_notdone {r : List Rc} {b x : Int} (h : x ∈ nextR r b) : (rd r x).done = false := by
  obtain ⟨h0, h1⟩ := nextR_range h
  have := (mem_nextR (i := x.toNat)).1 (by rw [Int.toNat_of_nonneg h0]; exact h)
  have h2 := this.2.1
  unfold openAt at h2
  unfold rd
  simp at h2
  simpa using h2.1
/-- the fold up to some of those that are written -/
theorem part_closed {r : List Rc} (hr : WfR r) (b : Int) {o p : List Int} (ho : ∀ x ∈ o, 0 ≤ x ∧ x < (r.length : Int) ∧ (rd r x).done = false) (hnd : p.Nodup) (hp : ∀ x ∈ p, x ∈ o) :
    p.foldl freeAll (midR r b o) = clr p (FF (midR r b o) (esR r p)) ∧ ∀ i, i < r.length → ((esR r p).count (i : Int) : Int) ≤ ((midR r b o).l.getD i zc).left := by
  have hle : ∀ i, i < r.length → ((esR r p).count (i : Int) : Int) ≤ ((midR r b o).l.getD i zc).left := fun i hi => by
    have h1 := es_count (r := r) hnd (fun x hx => (ho x (hp x hx)).1) hi
    have h2 := cnt_setD (r := r) (o := p) (hr.lt hi) (fun x hx => (ho x (hp x hx)).2.2)
    rw [midR_at hi]
    unfold esR
    rw [h1]
    show ((_ : Nat) : Int) ≤ ((cnt r (r.getD i zr).on : Nat) : Int)
    omega
  refine ⟨?_, hle⟩
  rw [freeAll_closed p (midR r b o) hnd (fun x hx => by rw [midR_len]; have := ho x (hp x hx); exact ⟨this.1, this.2.1⟩) (fun i hi => by rw [midR_len] at hi ⊢; exact midR_to hi),
    es_eq (fun x hx => ho x (hp x hx)), free_closed _ _ (fun x hx => by rw [midR_len]; exact esR_mem hx) (fun i hi => by rw [midR_len] at hi; exact hle i hi)]
theorem len_add {α : Type} {l : List α} {p q s : α → Bool} (h : ∀ x ∈ l, (p x = (q x || s x)) ∧ (q x && s x) = false) : (l.filter p).length = (l.filter q).length + (l.filter s).length := by
  induction l with
  | nil => rfl
  | cons a l ih =>
    have h1 := h a List.mem_cons_self
    have h2 := ih (fun x hx => h x (List.mem_cons_of_mem _ hx))
    rw [List.filter_cons, List.filter_cons, List.filter_cons, h1.1]
    cases hq : q a <;> cases hs : s a
    · simp [h2]
    · simp [h2]; omega
    · simp [h2]; omega
    · rw [hq, hs] at h1; exact absurd h1.2 (by simp)
/-- what is written -/
theorem written_of {r : List Rc} (hr : WfR r) (b : Int) : writtenS (Of r) b = Of (writtenR r b) := by
  unfold writtenS writtenG writtenR
  rw [next_of]
  have ho : ∀ x ∈ nextR r b, 0 ≤ x ∧ x < (r.length : Int) ∧ (rd r x).done = false := fun x hx => ⟨(nextR_range hx).1, (nextR_range hx).2, next_notdone hx⟩
  rw [done_closed b _ (Of r) (fun x hx => by rw [Of_len]; exact nextR_range hx)]
  show (nextR r b).foldl freeAll (midR r b (nextR r b)) = _
  obtain ⟨h1, hle⟩ := part_closed hr b ho (nextR_nodup r b) (fun x hx => hx)
  rw [h1]
  have hcnt : ∀ i, i < r.length → cnt (setD r (nextR r b)) (r.getD i zr).on + (esR r (nextR r b)).count (i : Int) = cnt r (r.getD i zr).on := fun i hi => by
    unfold esR
    rw [es_count (nextR_nodup r b) (fun x hx => (nextR_range hx).1) hi]
    exact cnt_setD (hr.lt hi) (fun x hx => next_notdone hx)
  have hmem : ∀ i, i < r.length → ((i : Int) ∈ nextR r b ↔ openAt r b i = true ∧ mayAt r i = true) := fun i hi => by rw [mem_nextR]; exact ⟨fun h => h.2, fun h => ⟨hi, h⟩⟩
  generalize hO : nextR r b = o at *
  have hFFl : (FF (midR r b o) (esR r o)).l.length = r.length := by simp [FF, midR_len]
  have hFFat : ∀ i, i < r.length → (FF (midR r b o) (esR r o)).l.getD i zc = ⟨(r.getD i zr).buf, (r.getD i zr).on, (cnt r (r.getD i zr).on : Int) - ((esR r o).count (i : Int) : Int), if (r.getD i zr).done then [] else toL r i, (r.getD i zr).done || decide ((i : Int) ∈ o)⟩ := fun i hi => by
    have : (FF (midR r b o) (esR r o)).l.getD i zc = ⟨((midR r b o).l.getD i zc).buf, ((midR r b o).l.getD i zc).on, ((midR r b o).l.getD i zc).left - ((esR r o).count (i : Int) : Int), ((midR r b o).l.getD i zc).to, ((midR r b o).l.getD i zc).done⟩ := by
      have h2 : i < (midR r b o).l.length := by rw [midR_len]; exact hi
      simp [FF, h2]
    rw [this, midR_at hi]
  refine st_ext (list_ext_getD (by rw [clr_len, hFFl, Of_len, setD_len]) fun i hi => ?_) (fun x => ?_) ?_ (fun x => ?_)
  · have hi' : i < r.length := by rwa [clr_len, hFFl] at hi
    rw [clr_at (by rw [hFFl]; exact hi'), hFFat i hi', Of_at (by rw [setD_len]; exact hi')]
    unfold ofC
    rw [setD_at hi', toL_setD]
    have := hcnt i hi'
    have e : (cnt r (r.getD i zr).on : Int) - ((esR r o).count (i : Int) : Int) = (cnt (setD r o) (r.getD i zr).on : Int) := by omega
    simp only [e]
    congr 1
    by_cases hm : (i : Int) ∈ o
    · simp [hm]
    · simp [hm]
  · show (midR r b o).bufs x = _
    show (if x = b then _ else (DDg b (Of r) o).bufs x) = _
    have hany : ∀ y, (List.range (setD r o).length).any (openAt (setD r o) y) = (List.range r.length).any (fun i => openAt r y i && !decide ((i : Int) ∈ o)) := fun y => by
      rw [setD_len, Bool.eq_iff_iff, List.any_eq_true, List.any_eq_true]
      constructor
      · rintro ⟨i, hi, h⟩; exact ⟨i, hi, by rwa [openAt_setD (List.mem_range.1 hi)] at h⟩
      · rintro ⟨i, hi, h⟩; exact ⟨i, hi, by rwa [openAt_setD (List.mem_range.1 hi)]⟩
    have hR : (Of (setD r o)).bufs x = if (List.range r.length).any (fun i => openAt r x i && !decide ((i : Int) ∈ o)) = true then some (fun y => (decide (0 ≤ y ∧ y < (r.length : Int)) && openAt r x y.toNat) && !decide (y ∈ o)) else none := by
      show (if (List.range (setD r o).length).any (openAt (setD r o) x) = true then _ else _) = _
      rw [hany]
      by_cases ha : (List.range r.length).any (fun i => openAt r x i && !decide ((i : Int) ∈ o)) = true
      · rw [if_pos ha, if_pos ha]
        congr 1
        funext y
        rw [setD_len]
        by_cases hin : 0 ≤ y ∧ y < (r.length : Int)
        · rw [openAt_setD (by omega), Int.toNat_of_nonneg hin.1, Bool.and_assoc]
        · rw [decide_eq_false hin]; simp
      · rw [if_neg ha, if_neg ha]
    rw [hR]
    by_cases hx : x = b
    · subst hx
      rw [if_pos rfl]
      have hD : (DDg x (Of r) o).bufs x = ((Of r).bufs x).map (fun s y => s y && !decide (y ∈ o)) := by
        show upd _ _ _ x = _
        unfold upd; rw [if_pos rfl]
      have hDl : (DDg x (Of r) o).l.length = r.length := by simp [DDg, Of]
      rw [hD, hDl]
      have hOf : (Of r).bufs x = if (List.range r.length).any (openAt r x) = true then some (fun y => decide (0 ≤ y ∧ y < (r.length : Int)) && openAt r x y.toNat) else none := rfl
      rw [hOf]
      by_cases ha : (List.range r.length).any (openAt r x) = true
      · rw [if_pos ha]
        show (if (List.range r.length).any (fun i => (decide (0 ≤ (i : Int) ∧ (i : Int) < (r.length : Int)) && openAt r x (i : Int).toNat) && !decide ((i : Int) ∈ o)) = true then _ else _) = _
        have : (List.range r.length).any (fun i => (decide (0 ≤ (i : Int) ∧ (i : Int) < (r.length : Int)) && openAt r x (i : Int).toNat) && !decide ((i : Int) ∈ o)) = (List.range r.length).any (fun i => openAt r x i && !decide ((i : Int) ∈ o)) := by
          rw [Bool.eq_iff_iff, List.any_eq_true, List.any_eq_true]
          constructor
          · rintro ⟨i, hi, h⟩
            refine ⟨i, hi, ?_⟩
            have := List.mem_range.1 hi
            rwa [decide_eq_true (show 0 ≤ (i : Int) ∧ (i : Int) < (r.length : Int) from ⟨by omega, by omega⟩), Int.toNat_natCast, Bool.true_and] at h
          · rintro ⟨i, hi, h⟩
            refine ⟨i, hi, ?_⟩
            have := List.mem_range.1 hi
            rwa [decide_eq_true (show 0 ≤ (i : Int) ∧ (i : Int) < (r.length : Int) from ⟨by omega, by omega⟩), Int.toNat_natCast, Bool.true_and]
        rw [this]
      · rw [if_neg ha, if_neg]
        · rfl
        · intro h
          obtain ⟨i, hi, h⟩ := List.any_eq_true.1 h
          exact ha (List.any_eq_true.2 ⟨i, hi, (Bool.and_eq_true_iff.1 h).1⟩)
    · rw [if_neg hx]
      show upd _ _ _ x = _
      unfold upd
      rw [if_neg hx]
      show (if (List.range r.length).any (openAt r x) = true then _ else _) = _
      have hno : ∀ i, i < r.length → openAt r x i = true → ¬ (i : Int) ∈ o := fun i hi h1 h2 => by
        have h3 := ((hmem i hi).1 h2).1
        unfold openAt at h1 h3
        simp at h1 h3
        exact hx (h1.2.symm.trans h3.2)
      have e : (List.range r.length).any (fun i => openAt r x i && !decide ((i : Int) ∈ o)) = (List.range r.length).any (openAt r x) := by
        rw [Bool.eq_iff_iff, List.any_eq_true, List.any_eq_true]
        constructor
        · rintro ⟨i, hi, h⟩; exact ⟨i, hi, (Bool.and_eq_true_iff.1 h).1⟩
        · rintro ⟨i, hi, h⟩; exact ⟨i, hi, by rw [h]; simpa using hno i (List.mem_range.1 hi) h⟩
      rw [e]
      by_cases ha : (List.range r.length).any (openAt r x) = true
      · rw [if_pos ha, if_pos ha]
        congr 1
        funext y
        by_cases hin : 0 ≤ y ∧ y < (r.length : Int)
        · cases ho2 : openAt r x y.toNat with
          | false => simp
          | true =>
            have := hno y.toNat (by omega) ho2
            rw [Int.toNat_of_nonneg hin.1] at this
            simp [this]
        · rw [decide_eq_false hin]; simp
      · rw [if_neg ha, if_neg ha]
  · show (Of r).opn - (o.length : Int) = (Of (setD r o)).opn
    show ((_ : Nat) : Int) - _ = ((_ : Nat) : Int)
    rw [setD_len]
    have h2 : ((List.range r.length).filter (fun i => !(r.getD i zr).done)).length = ((List.range r.length).filter (fun i => !((setD r o).getD i zr).done)).length + ((List.range r.length).filter (fun i => openAt r b i && mayAt r i)).length := by
      refine len_add fun i hi => ?_
      have hi := List.mem_range.1 hi
      rw [setD_at hi]
      have hm := hmem i hi
      cases hop : openAt r b i <;> cases hma : mayAt r i <;> simp [hop, hma] at hm ⊢ <;> simp [hm]
      unfold openAt at hop
      simp at hop
      simp [hop.1]
    have h3 : o.length = ((List.range r.length).filter (fun i => openAt r b i && mayAt r i)).length := by rw [← hO]; unfold nextR castL; rw [List.length_map]
    omega
  · show (if hits (midR r b o) (esR r o) x = 0 then (midR r b o).next x else some (((midR r b o).next x).getD 0 + (hits (midR r b o) (esR r o) x : Int))) = (if mayN (setD r o) x = 0 then none else some ((mayN (setD r o) x : Nat) : Int))
    have hnx : (midR r b o).next x = if x = b then none else if mayN r x = 0 then none else some ((mayN r x : Nat) : Int) := by
      show upd _ _ _ x = _
      unfold upd
      by_cases hx : x = b
      · rw [if_pos hx, if_pos hx]
      · rw [if_neg hx, if_neg hx]; rfl
    have hclosed : ∀ i, i < r.length → (r.getD i zr).done = true → cnt r (r.getD i zr).on = 0 := fun i hi hd => by
      unfold cnt
      rw [List.length_eq_zero_iff, List.filter_eq_nil_iff]
      intro y hy
      simp [hr.closed i hi hd y hy]
    have hN : mayN (setD r o) x = (if x = b then 0 else mayN r x) + hits (midR r b o) (esR r o) x := by
      unfold hits
      rw [midR_len]
      unfold mayN
      rw [setD_len]
      by_cases hx : x = b
      · subst hx
        rw [if_pos rfl, Nat.zero_add]
        congr 1
        refine List.filter_congr fun i hi => ?_
        have hi := List.mem_range.1 hi
        rw [openAt_setD hi, midR_at hi]
        unfold mayAt
        rw [setD_at hi]
        have hc := hcnt i hi
        have hm := hmem i hi
        have hcl := hclosed i hi
        unfold openAt mayAt at hm
        unfold openAt
        simp only at hc ⊢
        generalize cnt (setD r o) (r.getD i zr).on = c1 at *
        generalize cnt r (r.getD i zr).on = c2 at *
        generalize (esR r o).count (i : Int) = c3 at *
        rw [Bool.eq_iff_iff]
        simp only [Bool.and_eq_true, Bool.not_eq_true', decide_eq_true_eq, decide_eq_false_iff_not] at hm ⊢
        constructor
        · rintro ⟨⟨⟨a1, a2⟩, a3⟩, a4⟩
          refine ⟨a2, ?_, by omega⟩
          by_cases h0 : c2 = 0
          · exact absurd (hm.2 ⟨⟨a1, a2⟩, h0⟩) a3
          · omega
        · rintro ⟨a1, a2, a3⟩
          refine ⟨⟨⟨?_, a1⟩, fun h => by have := (hm.1 h).2; omega⟩, by omega⟩
          cases hd : (r.getD i zr).done with
          | false => rfl
          | true => have := hcl hd; omega
      · rw [if_neg hx]
        refine len_add fun i hi => ?_
        have hi := List.mem_range.1 hi
        rw [openAt_setD hi, midR_at hi]
        unfold mayAt
        rw [setD_at hi]
        have hc := hcnt i hi
        have hm := hmem i hi
        have hcl := hclosed i hi
        unfold openAt at hm
        unfold openAt
        simp only at hc ⊢
        generalize cnt (setD r o) (r.getD i zr).on = c1 at *
        generalize cnt r (r.getD i zr).on = c2 at *
        generalize (esR r o).count (i : Int) = c3 at *
        refine ⟨?_, ?_⟩
        · rw [Bool.eq_iff_iff]
          simp only [Bool.and_eq_true, Bool.or_eq_true, Bool.not_eq_true', decide_eq_true_eq, decide_eq_false_iff_not] at hm ⊢
          constructor
          · rintro ⟨⟨⟨a1, a2⟩, a3⟩, a4⟩
            by_cases h0 : c2 = 0
            · exact .inl ⟨⟨a1, a2⟩, h0⟩
            · exact .inr ⟨a2, by omega, by omega⟩
          · rintro (⟨⟨a1, a2⟩, a3⟩ | ⟨a1, a2, a3⟩)
            · exact ⟨⟨⟨a1, a2⟩, fun h => hx ((a2.symm).trans (hm.1 h).1.2)⟩, by omega⟩
            · refine ⟨⟨⟨?_, a1⟩, fun h => hx ((a1.symm).trans (hm.1 h).1.2)⟩, by omega⟩
              cases hd : (r.getD i zr).done with
              | false => rfl
              | true => have := hcl hd; omega
        · rw [Bool.and_eq_false_iff]
          by_cases h0 : c2 = 0
          · right; simp [h0]
          · left; simp [h0]
    by_cases hx : x = b
    · have hN' : mayN (setD r o) x = hits (midR r b o) (esR r o) x := by rw [hN, if_pos hx, Nat.zero_add]
      have hnx' : (midR r b o).next x = none := by rw [hnx, if_pos hx]
      rw [hnx', hN']
      by_cases h0 : hits (midR r b o) (esR r o) x = 0
      · rw [if_pos h0, if_pos h0]
      · rw [if_neg h0, if_neg h0]; simp
    · have hN' : mayN (setD r o) x = mayN r x + hits (midR r b o) (esR r o) x := by rw [hN, if_neg hx]
      have hnx' : (midR r b o).next x = if mayN r x = 0 then none else some ((mayN r x : Nat) : Int) := by rw [hnx, if_neg hx]
      rw [hnx', hN']
      by_cases h0 : hits (midR r b o) (esR r o) x = 0
      · rw [if_pos h0, h0, Nat.add_zero]
      · rw [if_neg h0, if_neg (show ¬ mayN r x + hits (midR r b o) (esR r o) x = 0 by omega)]
        by_cases h1 : mayN r x = 0
        · rw [if_pos h1, h1]; simp
        · rw [if_neg h1]; simp
end Go.Proofs.Ytjfejimghbohdaa
namespace Go.Proofs.Ytjfejimghbohdaa
set_option linter.unusedVariables false
set_option linter.unusedSimpArgs false
open Go.RowKit

/-- rows that are few -/
structure Sm (r : List Rc) : Prop where
  len : r.length < 274877906944
  on : ∀ i, i < r.length → (r.getD i zr).on.length < 274877906944
  to : ∀ k, (toL r k).length < 274877906944
  buf : ∀ i, i < r.length → I64 (r.getD i zr).buf
theorem fit_shape {r : List Rc} (hs : Sm r) (st : St) (hl : st.l.length = r.length)
    (hc : ∀ i, i < r.length → (st.l.getD i zc).buf = (r.getD i zr).buf ∧ (st.l.getD i zc).on = (r.getD i zr).on ∧ ((st.l.getD i zc).to = [] ∨ (st.l.getD i zc).to = toL r i) ∧ 0 ≤ (st.l.getD i zc).left ∧ (st.l.getD i zc).left ≤ (cnt r (r.getD i zr).on : Int))
    (ho : -(r.length : Int) ≤ st.opn ∧ st.opn ≤ (r.length : Int)) (hn : ∀ b v, st.next b = some v → 0 ≤ v ∧ v ≤ 3 * (r.length : Int))
    (hni : ∀ b, (st.next b).isSome = true → ∃ i, i < r.length ∧ (r.getD i zr).buf = b) (hbi : ∀ b, (st.bufs b).isSome = true → ∃ i, i < r.length ∧ (r.getD i zr).buf = b)
    (hset : ∀ b s, st.bufs b = some s → ∀ x, s x = true → 0 ≤ x ∧ x < (r.length : Int)) : Fit st := by
  have hlen := hs.len
  refine ⟨by omega, fun c hcm => ?_, by omega, fun b v hv => by have := hn b v hv; omega, fun b hb => ?_, fun b hb => ?_, fun b s hb x hx => by rw [hl]; exact hset b s hb x hx⟩
  · obtain ⟨i, hi, rfl⟩ := List.getElem_of_mem hcm
    have hi' : i < r.length := by omega
    have h1 := hc i hi'
    have e : st.l.getD i zc = st.l[i] := by simp [hi]
    rw [e] at h1
    obtain ⟨a1, a2, a3, a4, a5⟩ := h1
    have hon := hs.on i hi'
    have hto := hs.to i
    have hcl : cnt r (r.getD i zr).on ≤ (r.getD i zr).on.length := List.length_filter_le _ _
    refine ⟨by rw [a1]; exact hs.buf i hi', by rw [a2]; omega, ?_, by omega, by omega, fun x hx => ?_⟩
    · rcases a3 with h | h
      · rw [h]; simp
      · rw [h]; omega
    · rcases a3 with h | h
      · rw [h] at hx; cases hx
      · rw [h] at hx; rw [hl]; exact toL_mem hx
  · obtain ⟨i, hi, h⟩ := hni b hb
    exact ⟨st.l[i]'(by omega), List.getElem_mem _, by have := (hc i hi).1; simp [show i < st.l.length by omega] at this; rw [this]; simpa using h⟩
  · obtain ⟨i, hi, h⟩ := hbi b hb
    exact ⟨st.l[i]'(by omega), List.getElem_mem _, by have := (hc i hi).1; simp [show i < st.l.length by omega] at this; rw [this]; simpa using h⟩
theorem mayN_le (r : List Rc) (b : Int) : mayN r b ≤ r.length := by
  unfold mayN
  refine Nat.le_trans (List.length_filter_le _ _) ?_
  simp
theorem Of_next_in {r : List Rc} {b : Int} (h : ((Of r).next b).isSome = true) : ∃ i, i < r.length ∧ (r.getD i zr).buf = b := by
  have h1 : mayN r b ≠ 0 := fun e => by
    have : (Of r).next b = none := by show (if _ then _ else _) = _; rw [if_pos e]
    rw [this] at h; cases h
  unfold mayN at h1
  obtain ⟨i, hi⟩ := List.exists_mem_of_length_pos (Nat.pos_of_ne_zero h1)
  obtain ⟨h2, h3⟩ := List.mem_filter.1 hi
  have h4 := (Bool.and_eq_true_iff.1 h3).1
  unfold openAt at h4
  exact ⟨i, List.mem_range.1 h2, by simpa using (Bool.and_eq_true_iff.1 h4).2⟩
theorem Of_bufs_in {r : List Rc} {b : Int} (h : ((Of r).bufs b).isSome = true) : ∃ i, i < r.length ∧ (r.getD i zr).buf = b := by
  by_cases ha : (List.range r.length).any (openAt r b) = true
  · obtain ⟨i, hi, h4⟩ := List.any_eq_true.1 ha
    unfold openAt at h4
    exact ⟨i, List.mem_range.1 hi, by simpa using (Bool.and_eq_true_iff.1 h4).2⟩
  · have : (Of r).bufs b = none := by show (if _ then _ else _) = _; rw [if_neg ha]
    rw [this] at h; cases h
theorem Of_set {r : List Rc} {b : Int} {s : Int → Bool} (h : (Of r).bufs b = some s) (x : Int) (hx : s x = true) : 0 ≤ x ∧ x < (r.length : Int) := by
  have := Of_bufs (r := r) (b := b) (x := x)
  rw [h] at this
  have h2 : s x = _ := this
  rw [hx] at h2
  have := (Bool.and_eq_true_iff.1 h2.symm).1
  simpa using this
theorem Of_next_le {r : List Rc} {b v : Int} (h : (Of r).next b = some v) : 0 ≤ v ∧ v ≤ (r.length : Int) := by
  have h1 : (if mayN r b = 0 then none else some ((mayN r b : Nat) : Int)) = some v := h
  by_cases e : mayN r b = 0
  · rw [if_pos e] at h1; cases h1
  · rw [if_neg e] at h1
    injection h1 with h1
    have := mayN_le r b
    omega
theorem Of_opn (r : List Rc) : 0 ≤ (Of r).opn ∧ (Of r).opn ≤ (r.length : Int) := by
  show 0 ≤ ((_ : Nat) : Int) ∧ ((_ : Nat) : Int) ≤ _
  have : ((List.range r.length).filter (fun i => !(r.getD i zr).done)).length ≤ (List.range r.length).length := List.length_filter_le _ _
  rw [List.length_range] at this
  omega
theorem fit_of {r : List Rc} (hs : Sm r) : Fit (Of r) := by
  have h0 := Of_opn r
  refine fit_shape hs _ (Of_len r) (fun i hi => ?_) ⟨by omega, h0.2⟩ (fun b v hv => by have := Of_next_le hv; omega) (fun b => Of_next_in) (fun b => Of_bufs_in) (fun b s hb => Of_set hb)
  rw [Of_at hi]
  unfold ofC
  refine ⟨rfl, rfl, ?_, by simp, by simp⟩
  cases (r.getD i zr).done <;> simp
theorem hits_le (st : St) (es : List Int) (b : Int) : hits st es b ≤ st.l.length := by
  unfold hits
  refine Nat.le_trans (List.length_filter_le _ _) ?_
  simp
theorem hits_in {st : St} {es : List Int} {b : Int} (h : hits st es b ≠ 0) : ∃ i, i < st.l.length ∧ (st.l.getD i zc).buf = b := by
  unfold hits at h
  obtain ⟨i, hi⟩ := List.exists_mem_of_length_pos (Nat.pos_of_ne_zero h)
  obtain ⟨h2, h3⟩ := List.mem_filter.1 hi
  exact ⟨i, List.mem_range.1 h2, by simpa using (Bool.and_eq_true_iff.1 h3).1⟩
theorem FF_next {st : St} {es : List Int} {b v : Int} {N : Int} (hN : ∀ b v, st.next b = some v → 0 ≤ v ∧ v ≤ N) (h0 : 0 ≤ N) (h : (FF st es).next b = some v) : 0 ≤ v ∧ v ≤ N + st.l.length := by
  have h1 : (if hits st es b = 0 then st.next b else some ((st.next b).getD 0 + (hits st es b : Int))) = some v := h
  have h2 := hits_le st es b
  by_cases e : hits st es b = 0
  · rw [if_pos e] at h1; have := hN b v h1; omega
  · rw [if_neg e] at h1
    injection h1 with h1
    cases hq : st.next b with
    | none => rw [hq] at h1; simp at h1; omega
    | some u => rw [hq] at h1; have := hN b u hq; simp at h1; omega
theorem FF_next_in {st : St} {es : List Int} {b : Int} (h : ((FF st es).next b).isSome = true) : (st.next b).isSome = true ∨ ∃ i, i < st.l.length ∧ (st.l.getD i zc).buf = b := by
  by_cases e : hits st es b = 0
  · have : (FF st es).next b = st.next b := by show (if _ then _ else _) = _; rw [if_pos e]
    rw [this] at h; exact .inl h
  · exact .inr (hits_in e)
theorem FF_len (st : St) (es : List Int) : (FF st es).l.length = st.l.length := by simp [FF]
theorem FF_at {st : St} {es : List Int} {i : Nat} (h : i < st.l.length) : (FF st es).l.getD i zc = ⟨(st.l.getD i zc).buf, (st.l.getD i zc).on, (st.l.getD i zc).left - (es.count (i : Int) : Int), (st.l.getD i zc).to, (st.l.getD i zc).done⟩ := by simp [FF, h]
theorem midR_next {r : List Rc} {b x v : Int} {o : List Int} (h : (midR r b o).next x = some v) : (Of r).next x = some v := by
  have h1 : upd (Of r).next b none x = some v := h
  unfold upd at h1
  by_cases e : x = b
  · rw [if_pos e] at h1; cases h1
  · rwa [if_neg e] at h1
theorem midR_bufs {r : List Rc} {b x : Int} {o : List Int} {s : Int → Bool} (h : (midR r b o).bufs x = some s) : ∃ s', (Of r).bufs x = some s' ∧ ∀ y, s y = true → s' y = true := by
  have h1 : (if x = b then (match (DDg b (Of r) o).bufs b with | some s => if (List.range (DDg b (Of r) o).l.length).any (fun i => s (i : Int)) then some s else none | none => none) else (DDg b (Of r) o).bufs x) = some s := h
  have hD : ∀ y, (DDg b (Of r) o).bufs y = if y = b then ((Of r).bufs b).map (fun s x => s x && !decide (x ∈ o)) else (Of r).bufs y := fun y => rfl
  rw [hD, hD] at h1
  by_cases e : x = b
  · subst e
    rw [if_pos rfl, if_pos rfl] at h1
    cases hq : (Of r).bufs x with
    | none => rw [hq] at h1; cases h1
    | some s' =>
      rw [hq] at h1
      simp only [Option.map_some] at h1
      split at h1
      · injection h1 with h1
        exact ⟨s', rfl, fun y hy => by rw [← h1] at hy; exact (Bool.and_eq_true_iff.1 hy).1⟩
      · cases h1
  · rw [if_neg e, if_neg e] at h1
    exact ⟨s, h1, fun y hy => hy⟩
theorem fitAll_of {r : List Rc} (hr : WfR r) (hs : Sm r) (b : Int) : FitAll (Of r) b (nextS (Of r) b) := by
  rw [next_of]
  have hout : ∀ x ∈ nextR r b, 0 ≤ x ∧ x < (r.length : Int) ∧ (rd r x).done = false := fun x hx => ⟨(nextR_range hx).1, (nextR_range hx).2, next_notdone hx⟩
  have hnd := nextR_nodup r b
  have hol : (nextR r b).length ≤ r.length := by unfold nextR castL; rw [List.length_map]; exact Nat.le_trans (List.length_filter_le _ _) (by simp)
  have hop := Of_opn r
  have hmid : midS ((nextR r b).foldl (doneOne b) (Of r)) b = midR r b (nextR r b) := by rw [done_closed b _ (Of r) (fun x hx => by rw [Of_len]; exact nextR_range hx)]; rfl
  rw [FitAll, hmid]
  have hpart : ∀ k, ((nextR r b).take k).Nodup ∧ ∀ x ∈ (nextR r b).take k, x ∈ nextR r b := fun k => ⟨hnd.sublist (List.take_sublist _ _), fun x hx => List.mem_of_mem_take hx⟩
  have hmidop : -(r.length : Int) ≤ (midR r b (nextR r b)).opn ∧ (midR r b (nextR r b)).opn ≤ (r.length : Int) := by
    show -(r.length : Int) ≤ (Of r).opn - ((nextR r b).length : Int) ∧ (Of r).opn - ((nextR r b).length : Int) ≤ (r.length : Int)
    omega
  have hmidbuf : ∀ i, i < r.length → ((midR r b (nextR r b)).l.getD i zc).buf = (r.getD i zr).buf := fun i hi => by rw [midR_at hi]
  refine ⟨fun k hk => ?_, fun k hk => ?_, fun k hk j hj => ?_⟩
  · rw [done_closed b _ (Of r) (fun x hx => by rw [Of_len]; exact nextR_range (List.mem_of_mem_take hx))]
    refine fit_shape hs _ (by simp [DDg, Of]) (fun i hi => ?_) ?_ (fun c v hv => by have := Of_next_le (b := c) hv; omega) (fun c => Of_next_in) (fun c hc => ?_) (fun c s hc x hx => ?_)
    · have : (DDg b (Of r) ((nextR r b).take k)).l.getD i zc = ⟨((Of r).l.getD i zc).buf, ((Of r).l.getD i zc).on, ((Of r).l.getD i zc).left, ((Of r).l.getD i zc).to, ((Of r).l.getD i zc).done || decide ((i : Int) ∈ (nextR r b).take k)⟩ := by
        have : i < (Of r).l.length := by rw [Of_len]; exact hi
        simp [DDg, this]
      rw [this, Of_at hi]
      unfold ofC
      refine ⟨rfl, rfl, ?_, by simp, by simp⟩
      cases (r.getD i zr).done <;> simp
    · have : ((nextR r b).take k).length ≤ (nextR r b).length := by rw [List.length_take]; omega
      show -(r.length : Int) ≤ (Of r).opn - _ ∧ (Of r).opn - _ ≤ (r.length : Int)
      omega
    · have hc' : (upd (Of r).bufs b (((Of r).bufs b).map (fun s x => s x && !decide (x ∈ (nextR r b).take k))) c).isSome = true := hc
      unfold upd at hc'
      by_cases e : c = b
      · rw [if_pos e, Option.isSome_map] at hc'
        rw [e]; exact Of_bufs_in hc'
      · rw [if_neg e] at hc'; exact Of_bufs_in hc'
    · have hc' : upd (Of r).bufs b (((Of r).bufs b).map (fun s x => s x && !decide (x ∈ (nextR r b).take k))) c = some s := hc
      unfold upd at hc'
      by_cases e : c = b
      · rw [if_pos e] at hc'
        cases hq : (Of r).bufs b with
        | none => rw [hq] at hc'; cases hc'
        | some s' =>
          rw [hq] at hc'
          injection hc' with hc'
          rw [← hc'] at hx
          exact Of_set hq x (Bool.and_eq_true_iff.1 hx).1
      · rw [if_neg e] at hc'; exact Of_set hc' x hx
  · obtain ⟨h1, hle⟩ := part_closed hr b hout (hpart k).1 (hpart k).2
    rw [h1]
    have hFl : (FF (midR r b (nextR r b)) (esR r ((nextR r b).take k))).l.length = r.length := by rw [FF_len, midR_len]
    refine fit_shape hs _ (by rw [clr_len, hFl]) (fun i hi => ?_) hmidop (fun c v hv => ?_) (fun c hc => ?_) (fun c hc => ?_) (fun c s hc x hx => ?_)
    · rw [clr_at (by rw [hFl]; exact hi), FF_at (by rw [midR_len]; exact hi)]
      have := hle i hi
      rw [midR_at hi] at this ⊢
      refine ⟨rfl, rfl, ?_, ?_, ?_⟩
      · simp only
        split
        · exact .inl rfl
        · cases (r.getD i zr).done <;> simp
      · simp only at this ⊢; omega
      · simp only at this ⊢; omega
    · have := FF_next (N := (r.length : Int)) (fun b v hv => Of_next_le (midR_next hv)) (by omega) hv
      rw [midR_len] at this
      omega
    · rcases FF_next_in hc with h | ⟨i, hi, h⟩
      · obtain ⟨v, hv⟩ := Option.isSome_iff_exists.1 h
        exact Of_next_in (by rw [midR_next hv]; rfl)
      · rw [midR_len] at hi
        exact ⟨i, hi, by rw [← hmidbuf i hi]; exact h⟩
    · obtain ⟨s, hs2⟩ := Option.isSome_iff_exists.1 hc
      obtain ⟨s', h2, _⟩ := midR_bufs (show (midR r b (nextR r b)).bufs c = some s from hs2)
      exact Of_bufs_in (by rw [h2]; rfl)
    · obtain ⟨s', h2, h3⟩ := midR_bufs (show (midR r b (nextR r b)).bufs c = some s from hc)
      exact Of_set h2 x (h3 x hx)
  · obtain ⟨h1, hle⟩ := part_closed hr b hout (hpart k).1 (hpart k).2
    obtain ⟨h1', hle'⟩ := part_closed hr b hout (hpart (k + 1)).1 (hpart (k + 1)).2
    rw [h1] at hj ⊢
    have hFl : (FF (midR r b (nextR r b)) (esR r ((nextR r b).take k))).l.length = r.length := by rw [FF_len, midR_len]
    have hmk := List.getElem_mem hk
    have hr1 := hout _ hmk
    have hTK := List.take_succ_eq_append_getElem hk
    have hnk : (nextR r b)[k] ∉ (nextR r b).take k := fun h => by
      have := (hpart (k + 1)).1
      rw [hTK] at this
      exact (List.nodup_append.1 this).2.2 _ h _ (by simp) rfl
    have hto : (at_ (clr ((nextR r b).take k) (FF (midR r b (nextR r b)) (esR r ((nextR r b).take k)))) (nextR r b)[k]).to = toL r (nextR r b)[k].toNat := by
      unfold at_
      rw [clr_at (by rw [hFl]; omega), FF_at (by rw [midR_len]; omega), midR_at (by omega), Int.toNat_of_nonneg hr1.1, if_neg hnk]
      have := hr1.2.2
      unfold rd at this
      show (if (r.getD (nextR r b)[k].toNat zr).done = true then [] else _) = _
      rw [this]; rfl
    rw [hto] at hj ⊢
    have hes : esR r ((nextR r b).take (k + 1)) = esR r ((nextR r b).take k) ++ toL r (nextR r b)[k].toNat := by
      unfold esR
      rw [hTK, List.flatMap_append, List.flatMap_cons, List.flatMap_nil, List.append_nil]
    generalize hT : (toL r (nextR r b)[k].toNat).take j = T
    have hTc : ∀ i : Nat, T.count (i : Int) ≤ (toL r (nextR r b)[k].toNat).count (i : Int) := fun i => by rw [← hT]; exact (List.take_sublist _ _).count_le _
    have hTm : ∀ x ∈ T, 0 ≤ x ∧ x < (r.length : Int) := fun x hx => by rw [← hT] at hx; exact toL_mem (List.mem_of_mem_take hx)
    generalize hK : clr ((nextR r b).take k) (FF (midR r b (nextR r b)) (esR r ((nextR r b).take k))) = K
    have hKl : K.l.length = r.length := by rw [← hK, clr_len, hFl]
    have hKat : ∀ i, i < r.length → K.l.getD i zc = ⟨(r.getD i zr).buf, (r.getD i zr).on, (cnt r (r.getD i zr).on : Int) - ((esR r ((nextR r b).take k)).count (i : Int) : Int), if (i : Int) ∈ (nextR r b).take k then [] else if (r.getD i zr).done then [] else toL r i, (r.getD i zr).done || decide ((i : Int) ∈ nextR r b)⟩ := fun i hi => by
      rw [← hK, clr_at (by rw [hFl]; exact hi), FF_at (by rw [midR_len]; exact hi), midR_at hi]
    have hTl : ∀ i, i < r.length → (T.count (i : Int) : Int) ≤ (K.l.getD i zc).left := fun i hi => by
      rw [hKat i hi]
      have h2 := hle' i hi
      rw [hes, List.count_append, midR_at hi] at h2
      have h3 := hTc i
      simp only at h2 ⊢
      omega
    rw [free_closed T K (fun x hx => by rw [hKl]; exact hTm x hx) (fun i hi => by rw [hKl] at hi; exact hTl i hi)]
    have hKn : ∀ b v, K.next b = some v → 0 ≤ v ∧ v ≤ 2 * (r.length : Int) := fun c v hv => by
      rw [← hK] at hv
      have := FF_next (N := (r.length : Int)) (fun b v hv => Of_next_le (midR_next hv)) (by omega) (show (FF (midR r b (nextR r b)) (esR r ((nextR r b).take k))).next c = some v from hv)
      rw [midR_len] at this
      omega
    refine fit_shape hs _ (by rw [FF_len, hKl]) (fun i hi => ?_) ?_ (fun c v hv => ?_) (fun c hc => ?_) (fun c hc => ?_) (fun c s hc x hx => ?_)
    · have h2 := hTl i hi
      have h3 := hle i hi
      rw [FF_at (by rw [hKl]; exact hi), hKat i hi]
      rw [hKat i hi] at h2
      rw [midR_at hi] at h3
      simp only at h2 h3 ⊢
      refine ⟨trivial, trivial, ?_, by omega, by omega⟩
      split
      · exact .inl rfl
      · cases (r.getD i zr).done <;> simp
    · show -(r.length : Int) ≤ K.opn ∧ K.opn ≤ (r.length : Int)
      rw [← hK]; exact hmidop
    · have := FF_next hKn (by omega) hv
      rw [hKl] at this
      omega
    · rcases FF_next_in hc with h | ⟨i, hi, h⟩
      · rw [← hK] at h
        rcases FF_next_in (show ((FF (midR r b (nextR r b)) (esR r ((nextR r b).take k))).next c).isSome = true from h) with h | ⟨i, hi, h⟩
        · obtain ⟨v, hv⟩ := Option.isSome_iff_exists.1 h
          exact Of_next_in (by rw [midR_next hv]; rfl)
        · rw [midR_len] at hi
          exact ⟨i, hi, by rw [← hmidbuf i hi]; exact h⟩
      · rw [hKl] at hi
        exact ⟨i, hi, by rw [hKat i hi] at h; exact h⟩
    · obtain ⟨s, hs2⟩ := Option.isSome_iff_exists.1 hc
      have : (midR r b (nextR r b)).bufs c = some s := by rw [← hK] at hs2; exact hs2
      obtain ⟨s', h2, _⟩ := midR_bufs this
      exact Of_bufs_in (by rw [h2]; rfl)
    · have : (midR r b (nextR r b)).bufs c = some s := by rw [← hK] at hc; exact hc
      obtain ⟨s', h2, h3⟩ := midR_bufs this
      exact Of_set h2 x (h3 x hx)
theorem wf_add {r : List Rc} (hr : WfR r) (buf : Int) {on : List Int} (hon : ∀ x ∈ on, 0 ≤ x ∧ x < (r.length : Int)) : WfR (r ++ [⟨buf, on, false⟩]) := by
  refine ⟨fun i hi x hx => ?_, fun i hi hd x hx => ?_⟩
  · rw [List.length_append, List.length_singleton] at hi
    by_cases h : i < r.length
    · rw [getD_snoc h] at hx; exact hr.on i h x hx
    · obtain rfl : i = r.length := by omega
      rw [getD_last] at hx; exact hon x hx
  · rw [List.length_append, List.length_singleton] at hi
    by_cases h : i < r.length
    · rw [getD_snoc h] at hx hd
      rw [rd_snoc (hr.lt h x hx)]
      exact hr.closed i h hd x hx
    · obtain rfl : i = r.length := by omega
      rw [getD_last] at hd; cases hd
theorem wf_written {r : List Rc} (hr : WfR r) (b : Int) : WfR (writtenR r b) := by
  unfold writtenR
  refine ⟨fun i hi x hx => ?_, fun i hi hd x hx => ?_⟩
  · rw [setD_len] at hi
    rw [setD_at hi] at hx
    exact hr.on i hi x hx
  · rw [setD_len] at hi
    rw [setD_at hi] at hx hd
    have hxr := hr.lt hi x hx
    unfold rd
    rw [setD_at (by omega)]
    simp only [Bool.or_eq_true] at hd ⊢
    rcases hd with hd | hd
    · exact .inl (hr.closed i hi hd x hx)
    · have h2 := (mem_nextR.1 (by simpa using hd)).2.2
      unfold mayAt cnt at h2
      have h3 : ((r.getD i zr).on.filter (fun k => !(rd r k).done)) = [] := List.length_eq_zero_iff.1 (by simpa using h2)
      have := List.filter_eq_nil_iff.1 h3 x hx
      exact .inl (by simpa [rd] using this)
theorem sm_written {r : List Rc} (hs : Sm r) (b : Int) : Sm (writtenR r b) := by
  unfold writtenR
  refine ⟨by rw [setD_len]; exact hs.len, fun i hi => ?_, fun k => by rw [toL_setD]; exact hs.to k, fun i hi => ?_⟩
  · rw [setD_len] at hi; rw [setD_at hi]; exact hs.on i hi
  · rw [setD_len] at hi; rw [setD_at hi]; exact hs.buf i hi
/-- how much there is in rows -/
def tot (r : List Rc) : Nat := (r.map (fun c => c.on.length)).sum
theorem tot_snoc (r : List Rc) (c : Rc) : tot (r ++ [c]) = tot r + c.on.length := by simp [tot]
theorem toL_len_le (r : List Rc) (k : Nat) : (toL r k).length ≤ tot r := by
  unfold toL tot
  have : ∀ N, N ≤ r.length → ((List.range N).flatMap (fun id => List.replicate ((r.getD id zr).on.count (k : Int)) (id : Int))).length ≤ ((r.take N).map (fun c => c.on.length)).sum := by
    intro N
    induction N with
    | zero => intro _; simp
    | succ N ih =>
      intro h
      rw [List.range_succ, List.flatMap_append, List.length_append, List.flatMap_cons, List.flatMap_nil, List.append_nil, List.length_replicate, List.take_succ_eq_append_getElem (by omega), List.map_append, List.sum_append]
      have h1 := ih (by omega)
      have h2 : (r.getD N zr).on.count (k : Int) ≤ (r[N]'(by omega)).on.length := by
        have : r.getD N zr = r[N]'(by omega) := by simp [show N < r.length by omega]
        rw [this]; exact List.count_le_length
      simp only [List.map_cons, List.map_nil, List.sum_cons, List.sum_nil]
      omega
  have h := this r.length (Nat.le_refl _)
  rwa [List.take_length] at h
theorem on_le_tot {r : List Rc} {i : Nat} (hi : i < r.length) : (r.getD i zr).on.length ≤ tot r := by
  unfold tot
  have e : r.getD i zr = r[i] := by simp [hi]
  rw [e]
  induction r generalizing i with
  | nil => simp at hi
  | cons c r ih =>
    cases i with
    | zero => simp
    | succ i => simp only [List.map_cons, List.sum_cons, List.getElem_cons_succ]; have := ih (i := i) (by simpa using hi) (by simp at hi; simp [hi]); omega
theorem sm_of_tot {r : List Rc} (h1 : r.length < 274877906944) (h2 : tot r < 274877906944) (h3 : ∀ i, i < r.length → I64 (r.getD i zr).buf) : Sm r :=
  ⟨h1, fun i hi => by have := on_le_tot hi; omega, fun k => by have := toL_len_le r k; omega, h3⟩
theorem tot_setD (r : List Rc) (o : List Int) : tot (setD r o) = tot r := by
  unfold tot setD
  rw [List.map_map]
  congr 1
  refine List.ext_getElem (by simp) fun i h1 h2 => ?_
  have : i < r.length := by simpa using h2
  simp [this]
end Go.Proofs.Ytjfejimghbohdaa
