/-
  The contracts of a graph by its rows. Conditions: the rows are few.
-/
import Derived.Test.YtlpdhmkcbdhelaaS
namespace Go.Proofs.Ytlpdhmkcbdhelaa
set_option linter.unusedVariables false
set_option linter.unusedSimpArgs false
open Go.RowKit Go.Maps

/-- the graph of the rows r lies behind g as the parts ps -/
structure Gr (g : Nat) (r : List Rc) (ps : List Atom) : Prop where
  is : IsG g (Of r) ps
  wf : WfR r
  buf : ∀ i, i < r.length → I64 (r.getD i zr).buf
  len : r.length < 274877906944
  tot : tot r < 274877906944
section
variable {n g : Nat} {w W : World} {F ps : List Atom} {r : List Rc}
theorem Gr.sm (h : Gr g r ps) : Sm r := sm_of_tot h.len h.tot h.buf
theorem Gr.fit (h : Gr g r ps) : Fit (Of r) := fit_of h.sm
theorem isB_of (r : List Rc) (id : Int) : isB (Of r) id = (decide (0 ≤ id) && decide (id < (r.length : Int))) := by
  unfold isB; rw [Of_len]
theorem same_c (A : Option Addr) (c : Nat) (l1 : List Int) (B : Option Addr) (d : Nat) (l2 : List Int) (hl1 : l1.length < 1099511627776) (hl2 : l2.length < 1099511627776) (h1 : Reads n w F A l1) (h2 : Reads n w F B l2) (ho : Own n w W F) :
    Calls Try.prog 15 #[.slice A l1.length c, .slice B l2.length d] W fun e W' => e = .returned (.bool (sameI l1 l2)) ∧ Own n w W' F :=
  (same_w W A c l1 B d l2 hl1 hl2 _ _ (h1 W ho) (h2 W ho)).mono fun e W' ⟨he, q, hq⟩ => ⟨he, by rw [hq]; exact ho.drewN q⟩
theorem gnew_c (h : Own n w W F) : Calls Try.prog 10 #[] W fun e W' => ∃ g ps, e = .returned (.pointer (some ⟨g, 0, none⟩)) ∧ Gr g [] ps ∧ Own n w W' (ps ++ F) :=
  (new_c h).mono fun e W' ⟨g, ps, he, hg, ho⟩ => ⟨g, ps, he, ⟨by rw [Of_nil]; exact hg, ⟨by intro i hi; simp at hi, by intro i hi; simp at hi⟩, by intro i hi; simp at hi, by simp, by simp [Go.Proofs.Ytlpdhmkcbdhelaa.tot]⟩, ho⟩
theorem gleft_c (hg : Gr g r ps) (h : Own n w W (ps ++ F)) : Calls Try.prog 18 #[.pointer (some ⟨g, 0, none⟩)] W fun e W' => e = .returned (.int .i64 (Of r).opn) ∧ W = W' := left_c hg.is h
theorem gadd_c (hg : Gr g r ps) (ho : Own n w W (ps ++ F)) (buf : Int) (hb : I64 buf) (A : Option Addr) (c : Nat) (on : List Int) (hl : r.length + 1 < 274877906944) (ht : tot r + on.length < 274877906944) (hr : Reads n w F A on) (hon : ∀ x ∈ on, 0 ≤ x ∧ x < (r.length : Int)) :
    Calls Try.prog 11 #[.pointer (some ⟨g, 0, none⟩), .int .i64 buf, .slice A on.length c] W fun e W' => ∃ ps', e = .returned (.tuple #[.int .i64 (r.length : Int), .int .i64 0]) ∧ Gr g (r ++ [⟨buf, on, false⟩]) ps' ∧ Own n w W' (ps' ++ F) := by
  refine (add_yes hg.is hg.fit ho buf (wf64 hb) A c on (by omega) hr (fun x hx => by rw [isB_of]; simpa using hon x hx)).mono ?_
  rintro e W' ⟨ps', he, hg', ho'⟩
  rw [add_of hg.wf buf on hon] at hg'
  rw [Of_len] at he
  refine ⟨ps', he, ⟨hg', wf_add hg.wf buf hon, fun i hi => ?_, by simpa using hl, by rw [tot_snoc]; exact ht⟩, ho'⟩
  by_cases h : i < r.length
  · rw [getD_snoc h]; exact hg.buf i h
  · rw [List.length_append, List.length_singleton] at hi
    obtain rfl : i = r.length := by omega
    rw [getD_last]; exact hb
theorem gadd_no (hg : Gr g r ps) (ho : Own n w W (ps ++ F)) (buf : Int) (A : Option Addr) (c : Nat) (on : List Int) (hl : on.length < 1099511627776) (hr : Reads n w F A on) (hon : ¬ ∀ x ∈ on, 0 ≤ x ∧ x < (r.length : Int)) :
    Calls Try.prog 11 #[.pointer (some ⟨g, 0, none⟩), .int .i64 buf, .slice A on.length c] W fun e W' => e = .returned (.tuple #[.int .i64 0, .int .i64 1]) ∧ W = W' :=
  add_no hg.is hg.fit ho buf A c on hl hr (fun h => hon fun x hx => by have := h x hx; rw [isB_of] at this; simpa using this)
theorem gnext_c (hg : Gr g r ps) (buf : Int) (hb : I64 buf) (ho : Own n w W (ps ++ F)) :
    Calls Try.prog 13 #[.pointer (some ⟨g, 0, none⟩), .int .i64 buf] W fun e W' => ∃ v, e = .returned v ∧ Own n w W' (rowA 3 1 v (nextR r buf).length (ints (nextR r buf)) :: (ps ++ F)) := by
  have := next_c hg.is hg.fit buf (wf64 hb) W ho
  rwa [next_of] at this
theorem gblocked_c (hg : Gr g r ps) (buf : Int) (hb : I64 buf) (ho : Own n w W (ps ++ F)) :
    Calls Try.prog 17 #[.pointer (some ⟨g, 0, none⟩), .int .i64 buf] W fun e W' => ∃ v, e = .returned v ∧ Own n w W' (rowA 3 1 v (blockedR r buf).length (ints (blockedR r buf)) :: (ps ++ F)) := by
  have := blocked_c hg.is hg.fit buf (wf64 hb) W ho
  rwa [blocked_of] at this
theorem gwritten_c (hg : Gr g r ps) (buf : Int) (hb : I64 buf) (ho : Own n w W (ps ++ F)) :
    Calls Try.prog 12 #[.pointer (some ⟨g, 0, none⟩), .int .i64 buf] W fun e W' => ∃ v ps', e = .returned v ∧ Gr g (writtenR r buf) ps' ∧ Own n w W' (rowA 3 1 v (nextR r buf).length (ints (nextR r buf)) :: (ps' ++ F)) := by
  refine (written_c buf hg.is hg.fit (fitAll_of hg.wf hg.sm buf) ho (wf64 hb)).mono ?_
  rintro e W' ⟨v, ps', he, hg', ho'⟩
  rw [written_of hg.wf] at hg'
  rw [next_of] at ho'
  exact ⟨v, ps', he, ⟨hg', wf_written hg.wf buf, (sm_written hg.sm buf).buf, by rw [writtenR, setD_len]; exact hg.len, by rw [writtenR, tot_setD]; exact hg.tot⟩, ho'⟩
def doneR (r : List Rc) (id : Int) : Bool := (decide (0 ≤ id) && decide (id < (r.length : Int))) && (rd r id).done
theorem gdone_c (hg : Gr g r ps) (ho : ∀ a ∈ ps, a.Q W) (id : Int) : Calls Try.prog 24 #[.pointer (some ⟨g, 0, none⟩), .int .i64 id] W fun e W' => e = .returned (.bool (doneR r id)) ∧ W = W' := by
  refine (done_c hg.is ho hg.fit id).mono ?_
  rintro e W' ⟨he, hw⟩
  refine ⟨?_, hw⟩
  rw [he]
  unfold doneS doneR
  rw [isB_of]
  by_cases h : 0 ≤ id ∧ id < (r.length : Int)
  · have : at_ (Of r) id = ofC r id.toNat := Of_at (by omega)
    rw [this]; rfl
  · by_cases h1 : 0 ≤ id
    · have : ¬ id < (r.length : Int) := fun h2 => h ⟨h1, h2⟩
      simp [this]
    · simp [h1]
theorem Rising.nodup {xs : List Int} (h : Rising xs) : xs.Nodup := h.imp (fun {a b} hab => by omega)
/-- the buffers in which one is not done, or may be written, rising -/
def bufsR (r : List Rc) (xs : List Int) : Prop := Rising xs ∧ ∀ x, x ∈ xs ↔ (List.range r.length).any (openAt r x) = true
def readyR (r : List Rc) (xs : List Int) : Prop := Rising xs ∧ ∀ x, x ∈ xs ↔ nextR r x ≠ []
theorem gbufs_c (hg : Gr g r ps) (ho : Own n w W (ps ++ F)) : Calls Try.prog 22 #[.pointer (some ⟨g, 0, none⟩)] W fun e W' => ∃ v xs, e = .returned v ∧ bufsR r xs ∧ Own n w W' (rowA 3 1 v xs.length (ints xs) :: (ps ++ F)) := by
  refine (bufs_c hg.is ho hg.fit).mono ?_
  rintro e W' ⟨v, xs, he, hr, hx, ho'⟩
  refine ⟨v, xs, he, ⟨hr, fun x => (hx x).trans ?_⟩, ho'⟩
  show ((if (List.range r.length).any (openAt r x) then _ else none : Option (Int → Bool))).isSome = true ↔ _
  by_cases h : (List.range r.length).any (openAt r x) = true
  · rw [if_pos h]; simp [h]
  · rw [if_neg h]; simp [h]
theorem gready_c (hg : Gr g r ps) (ho : Own n w W (ps ++ F)) : Calls Try.prog 16 #[.pointer (some ⟨g, 0, none⟩)] W fun e W' => ∃ v xs, e = .returned v ∧ readyR r xs ∧ Own n w W' (rowA 3 1 v xs.length (ints xs) :: (ps ++ F)) := by
  refine (ready_c hg.is ho hg.fit).mono ?_
  rintro e W' ⟨v, xs, he, hr, hx, ho'⟩
  refine ⟨v, xs, he, ⟨hr, fun x => (hx x).trans ?_⟩, ho'⟩
  show ((if mayN r x = 0 then none else some (mayN r x : Int) : Option Int)).isSome = true ↔ _
  have e : mayN r x = (nextR r x).length := by simp [mayN, nextR, castL]
  by_cases h : mayN r x = 0
  · rw [if_pos h]
    rw [e] at h
    simp [List.length_eq_zero_iff.1 h]
  · rw [if_neg h]
    rw [e] at h
    simp only [Option.isSome_some, true_iff]
    exact fun h2 => h (by rw [h2]; rfl)
end
end Go.Proofs.Ytlpdhmkcbdhelaa
