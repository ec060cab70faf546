/-
  A graph as a function of its rows of changes: what is added, written, and asked, in plain words.
-/
import Derived.Test.YtlpdhmkcbdhelaaWr0
namespace Go.Proofs.Ytlpdhmkcbdhelaa
set_option linter.unusedVariables false
set_option linter.unusedSimpArgs false
open Go.RowKit

/-- a change of the reference -/
structure Rc where
  buf : Int
  on : List Int
  done : Bool
def zr : Rc := ⟨0, [], false⟩
def rd (r : List Rc) (k : Int) : Rc := r.getD k.toNat zr
def cnt (r : List Rc) (on : List Int) : Nat := (on.filter (fun k => !(rd r k).done)).length
def toL (r : List Rc) (k : Nat) : List Int := (List.range r.length).flatMap (fun id => List.replicate ((r.getD id zr).on.count (k : Int)) (id : Int))
def ofC (r : List Rc) (k : Nat) : Chg := ⟨(r.getD k zr).buf, (r.getD k zr).on, (cnt r (r.getD k zr).on : Int), if (r.getD k zr).done then [] else toL r k, (r.getD k zr).done⟩
def openAt (r : List Rc) (b : Int) (i : Nat) : Bool := !(r.getD i zr).done && decide ((r.getD i zr).buf = b)
def mayAt (r : List Rc) (i : Nat) : Bool := decide (cnt r (r.getD i zr).on = 0)
def mayN (r : List Rc) (b : Int) : Nat := ((List.range r.length).filter (fun i => openAt r b i && mayAt r i)).length
def Of (r : List Rc) : St where
  l := (List.range r.length).map (ofC r)
  bufs := fun b => if (List.range r.length).any (openAt r b) then some (fun x => decide (0 ≤ x ∧ x < (r.length : Int)) && openAt r b x.toNat) else none
  opn := (((List.range r.length).filter (fun i => !(r.getD i zr).done)).length : Int)
  next := fun b => if mayN r b = 0 then none else some (mayN r b : Int)
structure WfR (r : List Rc) : Prop where
  on : ∀ i, i < r.length → ∀ x ∈ (r.getD i zr).on, 0 ≤ x ∧ x < (i : Int)
  closed : ∀ i, i < r.length → (r.getD i zr).done = true → ∀ x ∈ (r.getD i zr).on, (rd r x).done = true
theorem Of_len (r : List Rc) : (Of r).l.length = r.length := by simp [Of]
theorem Of_at {r : List Rc} {i : Nat} (h : i < r.length) : (Of r).l.getD i zc = ofC r i := by simp [Of, h]
theorem Of_nil : Of [] = zst := by
  unfold Of zst
  congr 1
theorem getD_app1 {α : Type} {a b : List α} {i : Nat} {z : α} (h : i < a.length) : (a ++ b).getD i z = a.getD i z := by
  rw [List.getD_eq_getElem?_getD, List.getD_eq_getElem?_getD, List.getElem?_append_left h]
theorem getD_app2 {α : Type} {a b : List α} {i : Nat} {z : α} (h : a.length ≤ i) : (a ++ b).getD i z = b.getD (i - a.length) z := by
  rw [List.getD_eq_getElem?_getD, List.getD_eq_getElem?_getD, List.getElem?_append_right h]
theorem getD_snoc {r : List Rc} {c : Rc} {i : Nat} (h : i < r.length) : (r ++ [c]).getD i zr = r.getD i zr := getD_app1 h
theorem getD_last {r : List Rc} {c : Rc} : (r ++ [c]).getD r.length zr = c := by simp
theorem rd_snoc {r : List Rc} {c : Rc} {x : Int} (h : 0 ≤ x ∧ x < (r.length : Int)) : rd (r ++ [c]) x = rd r x := getD_snoc (by omega)
theorem cnt_snoc {r : List Rc} {c : Rc} {on : List Int} (h : ∀ x ∈ on, 0 ≤ x ∧ x < (r.length : Int)) : cnt (r ++ [c]) on = cnt r on := by
  unfold cnt
  congr 1
  exact List.filter_congr fun x hx => by rw [rd_snoc (h x hx)]
theorem count_none {on : List Int} {k : Int} (h : ∀ x ∈ on, x < k) : on.count k = 0 := List.count_eq_zero.2 fun hk => by have := h k hk; omega
theorem WfR.lt {r : List Rc} (h : WfR r) {i : Nat} (hi : i < r.length) : ∀ x ∈ (r.getD i zr).on, 0 ≤ x ∧ x < (r.length : Int) := fun x hx => by have := h.on i hi x hx; omega
theorem toL_snoc {r : List Rc} {c : Rc} (h : WfR r) (k : Nat) : toL (r ++ [c]) k = toL r k ++ List.replicate (c.on.count (k : Int)) (r.length : Int) := by
  unfold toL
  rw [List.length_append, List.length_singleton, List.range_succ, List.flatMap_append]
  congr 1
  · have : ∀ (l : List Nat), (∀ i ∈ l, i < r.length) → l.flatMap (fun id => List.replicate (((r ++ [c]).getD id zr).on.count (k : Int)) (id : Int)) = l.flatMap (fun id => List.replicate ((r.getD id zr).on.count (k : Int)) (id : Int)) := by
      intro l
      induction l with
      | nil => intro _; rfl
      | cons a l ih =>
        intro hl
        rw [List.flatMap_cons, List.flatMap_cons, ih (fun i hi => hl i (List.mem_cons_of_mem _ hi)), getD_snoc (hl a List.mem_cons_self)]
    exact this _ (fun i hi => List.mem_range.1 hi)
  · simp
theorem toL_new {r : List Rc} {c : Rc} (h : WfR r) (hc : ∀ x ∈ c.on, 0 ≤ x ∧ x < (r.length : Int)) : toL (r ++ [c]) r.length = [] := by
  rw [toL_snoc h, count_none (fun x hx => (hc x hx).2)]
  unfold toL
  simp only [List.replicate_zero, List.append_nil]
  rw [List.flatMap_eq_nil_iff]
  intro i hi
  rw [count_none (fun x hx => ?_)]
  · rfl
  · have := h.on i (List.mem_range.1 hi) x hx
    have := List.mem_range.1 hi
    omega
theorem hangF_at (id : Int) (on : List Int) : ∀ (L : List Chg) (j : Nat), (∀ x ∈ on, 0 ≤ x ∧ x < (L.length : Int)) → j < L.length →
    (on.foldl (hangL id) L).getD j zc = if (L.getD j zc).done then L.getD j zc else ⟨(L.getD j zc).buf, (L.getD j zc).on, (L.getD j zc).left, (L.getD j zc).to ++ List.replicate (on.count (j : Int)) id, (L.getD j zc).done⟩ := by
  induction on with
  | nil =>
    intro L j _ hj
    simp only [List.foldl_nil, List.count_nil, List.replicate_zero, List.append_nil]
    split <;> rfl
  | cons k on ih =>
    intro L j hon hj
    rw [List.foldl_cons, ih (hangL id L k) j (fun x hx => by rw [hangL_len]; exact hon x (List.mem_cons_of_mem _ hx)) (by rw [hangL_len]; exact hj), hangL_done]
    have hk := hon k List.mem_cons_self
    by_cases hd : (L.getD j zc).done = true
    · rw [if_pos hd, if_pos hd]
      unfold hangL
      split
      · rfl
      · rename_i hkd
        have : k.toNat ≠ j := fun e => hkd (by rw [e]; exact hd)
        simp [List.getElem?_modify, this]
    · rw [if_neg hd, if_neg hd]
      by_cases e : k.toNat = j
      · have ek : k = (j : Int) := by omega
        have : (hangL id L k).getD j zc = ⟨(L.getD j zc).buf, (L.getD j zc).on, (L.getD j zc).left, (L.getD j zc).to ++ [id], (L.getD j zc).done⟩ := by
          unfold hangL
          rw [if_neg (by rw [e]; exact hd), e]
          simp [hj]
        rw [this, ek]
        simp [List.count_cons, List.replicate_succ]
      · have : (hangL id L k).getD j zc = L.getD j zc := by
          unfold hangL
          split
          · rfl
          · simp [List.getElem?_modify, e]
        rw [this, List.count_cons, if_neg (by simp; omega), Nat.add_zero]
theorem cntL_of {r : List Rc} {on : List Int} (h : ∀ x ∈ on, 0 ≤ x ∧ x < (r.length : Int)) : cntL (Of r).l on = cnt r on := by
  unfold cntL cnt
  congr 1
  refine List.filter_congr fun x hx => ?_
  rw [Of_at (by have := h x hx; omega)]
  rfl
theorem list_ext_getD {a b : List Chg} (hl : a.length = b.length) (h : ∀ i, i < a.length → a.getD i zc = b.getD i zc) : a = b := by
  refine List.ext_getElem hl fun i h1 h2 => ?_
  have := h i h1
  simpa [h1, h2] using this
theorem openAt_snoc {r : List Rc} {c : Rc} {b : Int} {i : Nat} (h : i < r.length) : openAt (r ++ [c]) b i = openAt r b i := by unfold openAt; rw [getD_snoc h]
theorem mayAt_snoc {r : List Rc} {c : Rc} (hr : WfR r) {i : Nat} (h : i < r.length) : mayAt (r ++ [c]) i = mayAt r i := by unfold mayAt; rw [getD_snoc h, cnt_snoc (hr.lt h)]
theorem mayN_snoc {r : List Rc} {c : Rc} (hr : WfR r) (hc : ∀ x ∈ c.on, 0 ≤ x ∧ x < (r.length : Int)) (hd : c.done = false) (b : Int) : mayN (r ++ [c]) b = mayN r b + if c.buf = b ∧ cnt r c.on = 0 then 1 else 0 := by
  unfold mayN
  rw [List.length_append, List.length_singleton, List.range_succ, List.filter_append, List.length_append]
  congr 1
  · congr 1
    exact List.filter_congr fun i hi => by rw [openAt_snoc (List.mem_range.1 hi), mayAt_snoc hr (List.mem_range.1 hi)]
  · rw [List.filter_cons]
    have e1 : openAt (r ++ [c]) b r.length = decide (c.buf = b) := by unfold openAt; rw [getD_last, hd]; rfl
    have e2 : mayAt (r ++ [c]) r.length = decide (cnt r c.on = 0) := by unfold mayAt; rw [getD_last, cnt_snoc hc]
    rw [e1, e2]
    by_cases h1 : c.buf = b <;> by_cases h2 : cnt r c.on = 0 <;> simp [h1, h2]
/-- what is added -/
theorem add_of {r : List Rc} (hr : WfR r) (buf : Int) (on : List Int) (hon : ∀ x ∈ on, 0 ≤ x ∧ x < (r.length : Int)) : addS (Of r) buf on = Of (r ++ [⟨buf, on, false⟩]) := by
  have hm := mayN_snoc (c := ⟨buf, on, false⟩) hr hon rfl
  unfold addS
  rw [cntL_of hon, Of_len]
  have e1 : (on.foldl (hangL (r.length : Int)) (Of r).l ++ [⟨buf, on, (cnt r on : Int), [], false⟩] : List Chg) = (Of (r ++ [⟨buf, on, false⟩])).l := by
    refine list_ext_getD (by simp [hangF_len, Of_len]) fun i hi => ?_
    rw [List.length_append, hangF_len, Of_len, List.length_singleton] at hi
    rw [Of_at (by simp; omega)]
    by_cases h : i < r.length
    · rw [getD_app1 (by rw [hangF_len, Of_len]; exact h), hangF_at _ _ _ _ (by rw [Of_len]; exact hon) (by rw [Of_len]; exact h), Of_at h]
      unfold ofC
      rw [getD_snoc h, cnt_snoc (hr.lt h), toL_snoc hr]
      generalize r.getD i zr = c
      obtain ⟨cb, co, cd⟩ := c
      cases cd <;> simp
    · obtain rfl : i = r.length := by omega
      rw [getD_app2 (by rw [hangF_len, Of_len]; omega), hangF_len, Of_len]
      unfold ofC
      rw [getD_last, toL_new hr hon, cnt_snoc hon]
      simp
  rw [e1]
  have e2 : upd (Of r).bufs buf (some (fun x => if x = (r.length : Int) then true else setOr ((Of r).bufs buf) x)) = (Of (r ++ [⟨buf, on, false⟩])).bufs := by
    funext b
    unfold upd
    have hany : (List.range (r ++ [(⟨buf, on, false⟩ : Rc)]).length).any (openAt (r ++ [⟨buf, on, false⟩]) b) = ((List.range r.length).any (openAt r b) || decide (buf = b)) := by
      rw [List.length_append, List.length_singleton, List.range_succ, List.any_append]
      congr 1
      · rw [Bool.eq_iff_iff, List.any_eq_true, List.any_eq_true]
        constructor
        · rintro ⟨i, hi, h⟩; exact ⟨i, hi, by rwa [openAt_snoc (List.mem_range.1 hi)] at h⟩
        · rintro ⟨i, hi, h⟩; exact ⟨i, hi, by rwa [openAt_snoc (List.mem_range.1 hi)]⟩
      · simp [openAt]
    by_cases hb : b = buf
    · subst hb
      rw [if_pos rfl]
      show _ = (if (List.range (r ++ [(⟨b, on, false⟩ : Rc)]).length).any (openAt (r ++ [⟨b, on, false⟩]) b) = true then _ else _)
      rw [hany, if_pos (by simp)]
      congr 1
      funext x
      by_cases hx : x = (r.length : Int)
      · subst hx
        rw [if_pos rfl, Int.toNat_natCast]
        simp [openAt]
        omega
      · rw [if_neg hx]
        show setOr (if (List.range r.length).any (openAt r b) = true then _ else _) x = _
        by_cases hin : 0 ≤ x ∧ x < (r.length : Int)
        · have h2 : 0 ≤ x ∧ x < ((r ++ [(⟨b, on, false⟩ : Rc)]).length : Int) := ⟨hin.1, by simp; omega⟩
          rw [openAt_snoc (by omega)]
          by_cases ha : (List.range r.length).any (openAt r b) = true
          · rw [if_pos ha]; simp only [setOr, hin, h2]
          · rw [if_neg ha]
            have : openAt r b x.toNat = false := by
              have ha' : (List.range r.length).any (openAt r b) = false := by simpa using ha
              have := List.any_eq_false.1 ha' x.toNat (List.mem_range.2 (by omega))
              simpa using this
            simp [setOr, this]
        · have h2 : ¬ (0 ≤ x ∧ x < ((r ++ [(⟨b, on, false⟩ : Rc)]).length : Int)) := by rw [List.length_append, List.length_singleton]; omega
          have e3 : decide (0 ≤ x ∧ x < (r.length : Int)) = false := by simpa using hin
          have e4 : decide (0 ≤ x ∧ x < ((r ++ [(⟨b, on, false⟩ : Rc)]).length : Int)) = false := by rw [decide_eq_false_iff_not]; exact h2
          rw [e4]
          split
          · simp only [setOr, e3, Bool.false_and]
          · rfl
    · rw [if_neg hb]
      show (if (List.range r.length).any (openAt r b) = true then _ else _) = (if (List.range (r ++ [(⟨buf, on, false⟩ : Rc)]).length).any (openAt (r ++ [⟨buf, on, false⟩]) b) = true then _ else _)
      rw [hany, show decide (buf = b) = false from by simp; exact fun h => hb h.symm, Bool.or_false]
      by_cases ha : (List.range r.length).any (openAt r b) = true
      · rw [if_pos ha, if_pos ha]
        congr 1
        funext x
        by_cases hin : 0 ≤ x ∧ x < (r.length : Int)
        · have h2 : 0 ≤ x ∧ x < ((r ++ [(⟨buf, on, false⟩ : Rc)]).length : Int) := ⟨hin.1, by simp; omega⟩
          rw [openAt_snoc (by omega)]
          simp only [hin, h2]
        · by_cases hx : x = (r.length : Int)
          · subst hx
            have : openAt (r ++ [(⟨buf, on, false⟩ : Rc)]) b (r.length : Int).toNat = false := by
              rw [Int.toNat_natCast]; unfold openAt; rw [getD_last]; simp; exact fun h => hb h.symm
            rw [this]; simp
          · have e3 : decide (0 ≤ x ∧ x < (r.length : Int)) = false := by simpa using hin
            have e4 : decide (0 ≤ x ∧ x < ((r ++ [(⟨buf, on, false⟩ : Rc)]).length : Int)) = false := by rw [decide_eq_false_iff_not, List.length_append, List.length_singleton]; omega
            rw [e3, e4, Bool.false_and, Bool.false_and]
      · rw [if_neg ha, if_neg ha]
  rw [e2]
  have e3 : (Of r).opn + 1 = (Of (r ++ [⟨buf, on, false⟩])).opn := by
    show ((_ : Nat) : Int) + 1 = ((_ : Nat) : Int)
    rw [List.length_append, List.length_singleton, List.range_succ, List.filter_append, List.length_append]
    have h1 : (List.range r.length).filter (fun i => !((r ++ [(⟨buf, on, false⟩ : Rc)]).getD i zr).done) = (List.range r.length).filter (fun i => !(r.getD i zr).done) := List.filter_congr fun i hi => by rw [getD_snoc (List.mem_range.1 hi)]
    rw [h1]
    simp
  rw [e3]
  have e4 : (if cnt r on = 0 then upd (Of r).next buf (some (((Of r).next buf).getD 0 + 1)) else (Of r).next) = (Of (r ++ [⟨buf, on, false⟩])).next := by
    funext b
    have hmb := hm b
    simp only at hmb
    show _ = (if mayN (r ++ [⟨buf, on, false⟩]) b = 0 then none else some ((mayN (r ++ [⟨buf, on, false⟩]) b : Nat) : Int))
    by_cases hc : cnt r on = 0
    · rw [if_pos hc]
      unfold upd
      by_cases hb : b = buf
      · subst hb
        rw [if_pos ⟨rfl, hc⟩] at hmb
        rw [if_pos rfl, hmb, if_neg (by omega)]
        show some ((if mayN r b = 0 then none else some ((mayN r b : Nat) : Int)).getD 0 + 1) = _
        by_cases h0 : mayN r b = 0
        · rw [if_pos h0, h0]; rfl
        · rw [if_neg h0]; simp
      · rw [if_neg (fun h => hb h.1.symm), Nat.add_zero] at hmb
        rw [if_neg hb, hmb]; rfl
    · rw [if_neg (fun h => hc h.2), Nat.add_zero] at hmb
      rw [if_neg hc, hmb]; rfl
  rw [e4]
end Go.Proofs.Ytlpdhmkcbdhelaa
