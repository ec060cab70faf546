/-
  What is written, of a graph as a function of its rows: the whole; and that all on the way is in its bounds. Plain words.
-/
import Derived.Test.YtlpdhmkcbdhelaaQ3
namespace Go.Proofs.Ytlpdhmkcbdhelaa
set_option linter.unusedVariables false
set_option linter.unusedSimpArgs false
open Go.RowKit

theorem count_range {f : Nat → Nat} {i : Nat} : ∀ N, ((List.range N).flatMap (fun id => List.replicate (f id) (id : Int))).count (i : Int) = if i < N then f i else 0 := by
  intro N
  induction N with
  | zero => simp
  | succ N ih =>
    rw [List.range_succ, List.flatMap_append, List.count_append, ih, List.flatMap_cons, List.flatMap_nil, List.append_nil, List.count_replicate]
    by_cases e : i = N
    · subst e; simp
    · have h1 : ((N : Int) == (i : Int)) = false := by rw [beq_eq_false_iff_ne]; omega
      rw [h1]
      by_cases h2 : i < N
      · simp [h2, show i < N + 1 by omega]
      · simp [h2, show ¬ i < N + 1 by omega]
theorem toL_count {r : List Rc} {k i : Nat} (hi : i < r.length) : (toL r k).count (i : Int) = (r.getD i zr).on.count (k : Int) := by
  unfold toL
  rw [count_range, if_pos hi]
theorem toL_mem {r : List Rc} {k : Nat} {x : Int} (h : x ∈ toL r k) : 0 ≤ x ∧ x < (r.length : Int) := by
  unfold toL at h
  obtain ⟨i, hi, hx⟩ := List.mem_flatMap.1 h
  have := (List.mem_replicate.1 hx).2
  have := List.mem_range.1 hi
  omega
theorem filter_mem_cons {on : List Int} {a : Int} {o : List Int} (h : a ∉ o) : (on.filter (fun x => decide (x ∈ a :: o))).length = on.count a + (on.filter (fun x => decide (x ∈ o))).length := by
  induction on with
  | nil => rfl
  | cons y on ih =>
    have e1 : decide (y ∈ a :: o) = (decide (y = a) || decide (y ∈ o)) := by rw [Bool.eq_iff_iff]; simp [List.mem_cons]
    rw [List.filter_cons, List.filter_cons, List.count_cons, e1]
    by_cases e : y = a
    · subst e
      have e2 : (y == y) = true := by simp
      rw [decide_eq_false h, decide_eq_true rfl, e2]
      simp only [Bool.true_or, if_true, Bool.false_eq_true, if_false, List.length_cons]
      rw [ih]
      omega
    · rw [decide_eq_false e, Bool.false_or, if_neg (show ¬ (y == a) = true by simp [e]), Nat.add_zero]
      by_cases h2 : y ∈ o
      · rw [decide_eq_true h2, if_pos rfl, if_pos rfl, List.length_cons, List.length_cons, ih]; omega
      · rw [decide_eq_false h2, if_neg (by simp), if_neg (by simp), ih]
theorem es_count {r : List Rc} {o : List Int} (hnd : o.Nodup) (ho : ∀ x ∈ o, 0 ≤ x) {i : Nat} (hi : i < r.length) : (o.flatMap (fun id => toL r id.toNat)).count (i : Int) = ((r.getD i zr).on.filter (fun x => decide (x ∈ o))).length := by
  induction o with
  | nil => rw [List.filter_eq_nil_iff.2 (by simp)]; rfl
  | cons a o ih =>
    obtain ⟨h1, h2⟩ := List.nodup_cons.1 hnd
    rw [List.flatMap_cons, List.count_append, ih h2 (fun x hx => ho x (List.mem_cons_of_mem _ hx)), filter_mem_cons h1, toL_count hi, Int.toNat_of_nonneg (ho a List.mem_cons_self)]
theorem cnt_setD {r : List Rc} {o : List Int} {on : List Int} (hon : ∀ x ∈ on, 0 ≤ x ∧ x < (r.length : Int)) (hd : ∀ x ∈ o, (rd r x).done = false) : cnt (setD r o) on + (on.filter (fun x => decide (x ∈ o))).length = cnt r on := by
  unfold cnt
  induction on with
  | nil => rfl
  | cons y on ih =>
    have hy := hon y List.mem_cons_self
    have := ih (fun x hx => hon x (List.mem_cons_of_mem _ hx))
    have h1 : (rd (setD r o) y).done = ((rd r y).done || decide (y ∈ o)) := by
      unfold rd
      rw [setD_at (by omega), Int.toNat_of_nonneg hy.1]
    rw [List.filter_cons, List.filter_cons, List.filter_cons, h1]
    by_cases hm : y ∈ o
    · have := hd y hm
      simp [hm, this]; omega
    · cases hdy : (rd r y).done <;> simp [hm, hdy] <;> omega
theorem openAt_setD {r : List Rc} {o : List Int} {b : Int} {i : Nat} (hi : i < r.length) : openAt (setD r o) b i = (openAt r b i && !decide ((i : Int) ∈ o)) := by
  unfold openAt
  rw [setD_at hi]
  cases (r.getD i zr).done <;> cases decide ((i : Int) ∈ o) <;> simp
theorem toL_setD {r : List Rc} {o : List Int} (k : Nat) : toL (setD r o) k = toL r k := by
  unfold toL
  rw [setD_len]
  have : ∀ l : List Nat, (∀ i ∈ l, i < r.length) → l.flatMap (fun id => List.replicate (((setD r o).getD id zr).on.count (k : Int)) (id : Int)) = l.flatMap (fun id => List.replicate ((r.getD id zr).on.count (k : Int)) (id : Int)) := by
    intro l
    induction l with
    | nil => intro _; rfl
    | cons a l ih => intro hl; rw [List.flatMap_cons, List.flatMap_cons, ih (fun i hi => hl i (List.mem_cons_of_mem _ hi)), setD_at (hl a List.mem_cons_self)]
  exact this _ (fun i hi => List.mem_range.1 hi)
/-- between the loops -/
def midR (r : List Rc) (b : Int) (o : List Int) : St := midS (DDg b (Of r) o) b
theorem midR_len (r : List Rc) (b : Int) (o : List Int) : (midR r b o).l.length = r.length := by simp [midR, midS, DDg, Of]
theorem midR_at {r : List Rc} {b : Int} {o : List Int} {i : Nat} (hi : i < r.length) : (midR r b o).l.getD i zc = ⟨(r.getD i zr).buf, (r.getD i zr).on, (cnt r (r.getD i zr).on : Int), if (r.getD i zr).done then [] else toL r i, (r.getD i zr).done || decide ((i : Int) ∈ o)⟩ := by
  have h : (midR r b o).l.getD i zc = ⟨((Of r).l.getD i zc).buf, ((Of r).l.getD i zc).on, ((Of r).l.getD i zc).left, ((Of r).l.getD i zc).to, ((Of r).l.getD i zc).done || decide ((i : Int) ∈ o)⟩ := by
    have : i < (Of r).l.length := by rw [Of_len]; exact hi
    simp [midR, midS, DDg, this]
  rw [h, Of_at hi]; rfl
def esR (r : List Rc) (o : List Int) : List Int := o.flatMap (fun id => toL r id.toNat)
theorem es_eq {r : List Rc} {b : Int} {o l : List Int} (h : ∀ x ∈ l, 0 ≤ x ∧ x < (r.length : Int) ∧ (rd r x).done = false) : l.flatMap (fun id => (at_ (midR r b o) id).to) = esR r l := by
  unfold esR
  induction l with
  | nil => rfl
  | cons a l ih =>
    rw [List.flatMap_cons, List.flatMap_cons, ih (fun x hx => h x (List.mem_cons_of_mem _ hx))]
    congr 1
    obtain ⟨h1, h2, h3⟩ := h a List.mem_cons_self
    unfold at_
    rw [midR_at (by omega)]
    unfold rd at h3
    show (if (r.getD a.toNat zr).done = true then [] else _) = _
    rw [h3]; rfl
theorem esR_mem {r : List Rc} {o : List Int} {x : Int} (h : x ∈ esR r o) : 0 ≤ x ∧ x < (r.length : Int) := by
  obtain ⟨id, _, hx⟩ := List.mem_flatMap.1 h
  exact toL_mem hx
theorem midR_to {r : List Rc} {b : Int} {o : List Int} {i : Nat} (hi : i < r.length) : ∀ y ∈ ((midR r b o).l.getD i zc).to, 0 ≤ y ∧ y < (r.length : Int) := fun y hy => by
  rw [midR_at hi] at hy
  simp only at hy
  split at hy
  · cases hy
  · exact toL_mem hy
theorem next_notdone {r : List Rc} {b x : Int} (h : x ∈ nextR r b) : (rd r x).done = false := by
  obtain ⟨h0, h1⟩ := nextR_range h
  have := (mem_nextR (i := x.toNat)).1 (by rw [Int.toNat_of_nonneg h0]; exact h)
  have h2 := this.2.1
  unfold openAt at h2
  unfold rd
  simp at h2
  simpa using h2.1
/-- the fold up to some of those that are written -/
theorem part_closed {r : List Rc} (hr : WfR r) (b : Int) {o p : List Int} (ho : ∀ x ∈ o, 0 ≤ x ∧ x < (r.length : Int) ∧ (rd r x).done = false) (hnd : p.Nodup) (hp : ∀ x ∈ p, x ∈ o) :
    p.foldl freeAll (midR r b o) = clr p (FF (midR r b o) (esR r p)) ∧ ∀ i, i < r.length → ((esR r p).count (i : Int) : Int) ≤ ((midR r b o).l.getD i zc).left := by
  have hle : ∀ i, i < r.length → ((esR r p).count (i : Int) : Int) ≤ ((midR r b o).l.getD i zc).left := fun i hi => by
    have h1 := es_count (r := r) hnd (fun x hx => (ho x (hp x hx)).1) hi
    have h2 := cnt_setD (r := r) (o := p) (hr.lt hi) (fun x hx => (ho x (hp x hx)).2.2)
    rw [midR_at hi]
    unfold esR
    rw [h1]
    show ((_ : Nat) : Int) ≤ ((cnt r (r.getD i zr).on : Nat) : Int)
    omega
  refine ⟨?_, hle⟩
  rw [freeAll_closed p (midR r b o) hnd (fun x hx => by rw [midR_len]; have := ho x (hp x hx); exact ⟨this.1, this.2.1⟩) (fun i hi => by rw [midR_len] at hi ⊢; exact midR_to hi),
    es_eq (fun x hx => ho x (hp x hx)), free_closed _ _ (fun x hx => by rw [midR_len]; exact esR_mem hx) (fun i hi => by rw [midR_len] at hi; exact hle i hi)]
theorem len_add {α : Type} {l : List α} {p q s : α → Bool} (h : ∀ x ∈ l, (p x = (q x || s x)) ∧ (q x && s x) = false) : (l.filter p).length = (l.filter q).length + (l.filter s).length := by
  induction l with
  | nil => rfl
  | cons a l ih =>
    have h1 := h a List.mem_cons_self
    have h2 := ih (fun x hx => h x (List.mem_cons_of_mem _ hx))
    rw [List.filter_cons, List.filter_cons, List.filter_cons, h1.1]
    cases hq : q a <;> cases hs : s a
    · simp [h2]
    · simp [h2]; omega
    · simp [h2]; omega
    · rw [hq, hs] at h1; exact absurd h1.2 (by simp)
/-- what is written -/
theorem written_of {r : List Rc} (hr : WfR r) (b : Int) : writtenS (Of r) b = Of (writtenR r b) := by
  unfold writtenS writtenG writtenR
  rw [next_of]
  have ho : ∀ x ∈ nextR r b, 0 ≤ x ∧ x < (r.length : Int) ∧ (rd r x).done = false := fun x hx => ⟨(nextR_range hx).1, (nextR_range hx).2, next_notdone hx⟩
  rw [done_closed b _ (Of r) (fun x hx => by rw [Of_len]; exact nextR_range hx)]
  show (nextR r b).foldl freeAll (midR r b (nextR r b)) = _
  obtain ⟨h1, hle⟩ := part_closed hr b ho (nextR_nodup r b) (fun x hx => hx)
  rw [h1]
  have hcnt : ∀ i, i < r.length → cnt (setD r (nextR r b)) (r.getD i zr).on + (esR r (nextR r b)).count (i : Int) = cnt r (r.getD i zr).on := fun i hi => by
    unfold esR
    rw [es_count (nextR_nodup r b) (fun x hx => (nextR_range hx).1) hi]
    exact cnt_setD (hr.lt hi) (fun x hx => next_notdone hx)
  have hmem : ∀ i, i < r.length → ((i : Int) ∈ nextR r b ↔ openAt r b i = true ∧ mayAt r i = true) := fun i hi => by rw [mem_nextR]; exact ⟨fun h => h.2, fun h => ⟨hi, h⟩⟩
  generalize hO : nextR r b = o at *
  have hFFl : (FF (midR r b o) (esR r o)).l.length = r.length := by simp [FF, midR_len]
  have hFFat : ∀ i, i < r.length → (FF (midR r b o) (esR r o)).l.getD i zc = ⟨(r.getD i zr).buf, (r.getD i zr).on, (cnt r (r.getD i zr).on : Int) - ((esR r o).count (i : Int) : Int), if (r.getD i zr).done then [] else toL r i, (r.getD i zr).done || decide ((i : Int) ∈ o)⟩ := fun i hi => by
    have : (FF (midR r b o) (esR r o)).l.getD i zc = ⟨((midR r b o).l.getD i zc).buf, ((midR r b o).l.getD i zc).on, ((midR r b o).l.getD i zc).left - ((esR r o).count (i : Int) : Int), ((midR r b o).l.getD i zc).to, ((midR r b o).l.getD i zc).done⟩ := by
      have h2 : i < (midR r b o).l.length := by rw [midR_len]; exact hi
      simp [FF, h2]
    rw [this, midR_at hi]
  refine st_ext (list_ext_getD (by rw [clr_len, hFFl, Of_len, setD_len]) fun i hi => ?_) (fun x => ?_) ?_ (fun x => ?_)
  · have hi' : i < r.length := by rwa [clr_len, hFFl] at hi
    rw [clr_at (by rw [hFFl]; exact hi'), hFFat i hi', Of_at (by rw [setD_len]; exact hi')]
    unfold ofC
    rw [setD_at hi', toL_setD]
    have := hcnt i hi'
    have e : (cnt r (r.getD i zr).on : Int) - ((esR r o).count (i : Int) : Int) = (cnt (setD r o) (r.getD i zr).on : Int) := by omega
    simp only [e]
    congr 1
    by_cases hm : (i : Int) ∈ o
    · simp [hm]
    · simp [hm]
  · show (midR r b o).bufs x = _
    show (if x = b then _ else (DDg b (Of r) o).bufs x) = _
    have hany : ∀ y, (List.range (setD r o).length).any (openAt (setD r o) y) = (List.range r.length).any (fun i => openAt r y i && !decide ((i : Int) ∈ o)) := fun y => by
      rw [setD_len, Bool.eq_iff_iff, List.any_eq_true, List.any_eq_true]
      constructor
      · rintro ⟨i, hi, h⟩; exact ⟨i, hi, by rwa [openAt_setD (List.mem_range.1 hi)] at h⟩
      · rintro ⟨i, hi, h⟩; exact ⟨i, hi, by rwa [openAt_setD (List.mem_range.1 hi)]⟩
    have hR : (Of (setD r o)).bufs x = if (List.range r.length).any (fun i => openAt r x i && !decide ((i : Int) ∈ o)) = true then some (fun y => (decide (0 ≤ y ∧ y < (r.length : Int)) && openAt r x y.toNat) && !decide (y ∈ o)) else none := by
      show (if (List.range (setD r o).length).any (openAt (setD r o) x) = true then _ else _) = _
      rw [hany]
      by_cases ha : (List.range r.length).any (fun i => openAt r x i && !decide ((i : Int) ∈ o)) = true
      · rw [if_pos ha, if_pos ha]
        congr 1
        funext y
        rw [setD_len]
        by_cases hin : 0 ≤ y ∧ y < (r.length : Int)
        · rw [openAt_setD (by omega), Int.toNat_of_nonneg hin.1, Bool.and_assoc]
        · rw [decide_eq_false hin]; simp
      · rw [if_neg ha, if_neg ha]
    rw [hR]
    by_cases hx : x = b
    · subst hx
      rw [if_pos rfl]
      have hD : (DDg x (Of r) o).bufs x = ((Of r).bufs x).map (fun s y => s y && !decide (y ∈ o)) := by
        show upd _ _ _ x = _
        unfold upd; rw [if_pos rfl]
      have hDl : (DDg x (Of r) o).l.length = r.length := by simp [DDg, Of]
      rw [hD, hDl]
      have hOf : (Of r).bufs x = if (List.range r.length).any (openAt r x) = true then some (fun y => decide (0 ≤ y ∧ y < (r.length : Int)) && openAt r x y.toNat) else none := rfl
      rw [hOf]
      by_cases ha : (List.range r.length).any (openAt r x) = true
      · rw [if_pos ha]
        show (if (List.range r.length).any (fun i => (decide (0 ≤ (i : Int) ∧ (i : Int) < (r.length : Int)) && openAt r x (i : Int).toNat) && !decide ((i : Int) ∈ o)) = true then _ else _) = _
        have : (List.range r.length).any (fun i => (decide (0 ≤ (i : Int) ∧ (i : Int) < (r.length : Int)) && openAt r x (i : Int).toNat) && !decide ((i : Int) ∈ o)) = (List.range r.length).any (fun i => openAt r x i && !decide ((i : Int) ∈ o)) := by
          rw [Bool.eq_iff_iff, List.any_eq_true, List.any_eq_true]
          constructor
          · rintro ⟨i, hi, h⟩
            refine ⟨i, hi, ?_⟩
            have := List.mem_range.1 hi
            rwa [decide_eq_true (show 0 ≤ (i : Int) ∧ (i : Int) < (r.length : Int) from ⟨by omega, by omega⟩), Int.toNat_natCast, Bool.true_and] at h
          · rintro ⟨i, hi, h⟩
            refine ⟨i, hi, ?_⟩
            have := List.mem_range.1 hi
            rwa [decide_eq_true (show 0 ≤ (i : Int) ∧ (i : Int) < (r.length : Int) from ⟨by omega, by omega⟩), Int.toNat_natCast, Bool.true_and]
        rw [this]
      · rw [if_neg ha, if_neg]
        · rfl
        · intro h
          obtain ⟨i, hi, h⟩ := List.any_eq_true.1 h
          exact ha (List.any_eq_true.2 ⟨i, hi, (Bool.and_eq_true_iff.1 h).1⟩)
    · rw [if_neg hx]
      show upd _ _ _ x = _
      unfold upd
      rw [if_neg hx]
      show (if (List.range r.length).any (openAt r x) = true then _ else _) = _
      have hno : ∀ i, i < r.length → openAt r x i = true → ¬ (i : Int) ∈ o := fun i hi h1 h2 => by
        have h3 := ((hmem i hi).1 h2).1
        unfold openAt at h1 h3
        simp at h1 h3
        exact hx (h1.2.symm.trans h3.2)
      have e : (List.range r.length).any (fun i => openAt r x i && !decide ((i : Int) ∈ o)) = (List.range r.length).any (openAt r x) := by
        rw [Bool.eq_iff_iff, List.any_eq_true, List.any_eq_true]
        constructor
        · rintro ⟨i, hi, h⟩; exact ⟨i, hi, (Bool.and_eq_true_iff.1 h).1⟩
        · rintro ⟨i, hi, h⟩; exact ⟨i, hi, by rw [h]; simpa using hno i (List.mem_range.1 hi) h⟩
      rw [e]
      by_cases ha : (List.range r.length).any (openAt r x) = true
      · rw [if_pos ha, if_pos ha]
        congr 1
        funext y
        by_cases hin : 0 ≤ y ∧ y < (r.length : Int)
        · cases ho2 : openAt r x y.toNat with
          | false => simp
          | true =>
            have := hno y.toNat (by omega) ho2
            rw [Int.toNat_of_nonneg hin.1] at this
            simp [this]
        · rw [decide_eq_false hin]; simp
      · rw [if_neg ha, if_neg ha]
  · show (Of r).opn - (o.length : Int) = (Of (setD r o)).opn
    show ((_ : Nat) : Int) - _ = ((_ : Nat) : Int)
    rw [setD_len]
    have h2 : ((List.range r.length).filter (fun i => !(r.getD i zr).done)).length = ((List.range r.length).filter (fun i => !((setD r o).getD i zr).done)).length + ((List.range r.length).filter (fun i => openAt r b i && mayAt r i)).length := by
      refine len_add fun i hi => ?_
      have hi := List.mem_range.1 hi
      rw [setD_at hi]
      have hm := hmem i hi
      cases hop : openAt r b i <;> cases hma : mayAt r i <;> simp [hop, hma] at hm ⊢ <;> simp [hm]
      unfold openAt at hop
      simp at hop
      simp [hop.1]
    have h3 : o.length = ((List.range r.length).filter (fun i => openAt r b i && mayAt r i)).length := by rw [← hO]; unfold nextR castL; rw [List.length_map]
    omega
  · show (if hits (midR r b o) (esR r o) x = 0 then (midR r b o).next x else some (((midR r b o).next x).getD 0 + (hits (midR r b o) (esR r o) x : Int))) = (if mayN (setD r o) x = 0 then none else some ((mayN (setD r o) x : Nat) : Int))
    have hnx : (midR r b o).next x = if x = b then none else if mayN r x = 0 then none else some ((mayN r x : Nat) : Int) := by
      show upd _ _ _ x = _
      unfold upd
      by_cases hx : x = b
      · rw [if_pos hx, if_pos hx]
      · rw [if_neg hx, if_neg hx]; rfl
    have hclosed : ∀ i, i < r.length → (r.getD i zr).done = true → cnt r (r.getD i zr).on = 0 := fun i hi hd => by
      unfold cnt
      rw [List.length_eq_zero_iff, List.filter_eq_nil_iff]
      intro y hy
      simp [hr.closed i hi hd y hy]
    have hN : mayN (setD r o) x = (if x = b then 0 else mayN r x) + hits (midR r b o) (esR r o) x := by
      unfold hits
      rw [midR_len]
      unfold mayN
      rw [setD_len]
      by_cases hx : x = b
      · subst hx
        rw [if_pos rfl, Nat.zero_add]
        congr 1
        refine List.filter_congr fun i hi => ?_
        have hi := List.mem_range.1 hi
        rw [openAt_setD hi, midR_at hi]
        unfold mayAt
        rw [setD_at hi]
        have hc := hcnt i hi
        have hm := hmem i hi
        have hcl := hclosed i hi
        unfold openAt mayAt at hm
        unfold openAt
        simp only at hc ⊢
        generalize cnt (setD r o) (r.getD i zr).on = c1 at *
        generalize cnt r (r.getD i zr).on = c2 at *
        generalize (esR r o).count (i : Int) = c3 at *
        rw [Bool.eq_iff_iff]
        simp only [Bool.and_eq_true, Bool.not_eq_true', decide_eq_true_eq, decide_eq_false_iff_not] at hm ⊢
        constructor
        · rintro ⟨⟨⟨a1, a2⟩, a3⟩, a4⟩
          refine ⟨a2, ?_, by omega⟩
          by_cases h0 : c2 = 0
          · exact absurd (hm.2 ⟨⟨a1, a2⟩, h0⟩) a3
          · omega
        · rintro ⟨a1, a2, a3⟩
          refine ⟨⟨⟨?_, a1⟩, fun h => by have := (hm.1 h).2; omega⟩, by omega⟩
          cases hd : (r.getD i zr).done with
          | false => rfl
          | true => have := hcl hd; omega
      · rw [if_neg hx]
        refine len_add fun i hi => ?_
        have hi := List.mem_range.1 hi
        rw [openAt_setD hi, midR_at hi]
        unfold mayAt
        rw [setD_at hi]
        have hc := hcnt i hi
        have hm := hmem i hi
        have hcl := hclosed i hi
        unfold openAt at hm
        unfold openAt
        simp only at hc ⊢
        generalize cnt (setD r o) (r.getD i zr).on = c1 at *
        generalize cnt r (r.getD i zr).on = c2 at *
        generalize (esR r o).count (i : Int) = c3 at *
        refine ⟨?_, ?_⟩
        · rw [Bool.eq_iff_iff]
          simp only [Bool.and_eq_true, Bool.or_eq_true, Bool.not_eq_true', decide_eq_true_eq, decide_eq_false_iff_not] at hm ⊢
          constructor
          · rintro ⟨⟨⟨a1, a2⟩, a3⟩, a4⟩
            by_cases h0 : c2 = 0
            · exact .inl ⟨⟨a1, a2⟩, h0⟩
            · exact .inr ⟨a2, by omega, by omega⟩
          · rintro (⟨⟨a1, a2⟩, a3⟩ | ⟨a1, a2, a3⟩)
            · exact ⟨⟨⟨a1, a2⟩, fun h => hx ((a2.symm).trans (hm.1 h).1.2)⟩, by omega⟩
            · refine ⟨⟨⟨?_, a1⟩, fun h => hx ((a1.symm).trans (hm.1 h).1.2)⟩, by omega⟩
              cases hd : (r.getD i zr).done with
              | false => rfl
              | true => have := hcl hd; omega
        · rw [Bool.and_eq_false_iff]
          by_cases h0 : c2 = 0
          · right; simp [h0]
          · left; simp [h0]
    by_cases hx : x = b
    · have hN' : mayN (setD r o) x = hits (midR r b o) (esR r o) x := by rw [hN, if_pos hx, Nat.zero_add]
      have hnx' : (midR r b o).next x = none := by rw [hnx, if_pos hx]
      rw [hnx', hN']
      by_cases h0 : hits (midR r b o) (esR r o) x = 0
      · rw [if_pos h0, if_pos h0]
      · rw [if_neg h0, if_neg h0]; simp
    · have hN' : mayN (setD r o) x = mayN r x + hits (midR r b o) (esR r o) x := by rw [hN, if_neg hx]
      have hnx' : (midR r b o).next x = if mayN r x = 0 then none else some ((mayN r x : Nat) : Int) := by rw [hnx, if_neg hx]
      rw [hnx', hN']
      by_cases h0 : hits (midR r b o) (esR r o) x = 0
      · rw [if_pos h0, h0, Nat.add_zero]
      · rw [if_neg h0, if_neg (show ¬ mayN r x + hits (midR r b o) (esR r o) x = 0 by omega)]
        by_cases h1 : mayN r x = 0
        · rw [if_pos h1, h1]; simp
        · rw [if_neg h1]; simp
end Go.Proofs.Ytlpdhmkcbdhelaa
