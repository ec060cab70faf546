/-
  Both: both graphs of a row of calls. Conditions: the calls are few.
-/
import Derived.Test.YtlpdhmkcbdhelaaBg
import Derived.Test.YtlpdhmkcbdhelaaAl
namespace Go.Proofs.Ytlpdhmkcbdhelaa
set_option linter.unusedVariables false
set_option linter.unusedSimpArgs false
open Go.RowKit Go.Maps

section
variable {n : Nat} {w W : World} {F p q : List Atom} {a : Atom}
theorem Own.pull (h : Own n w W (p ++ (q ++ (a :: F)))) : Own n w W (a :: (p ++ (q ++ F))) := by
  rw [← List.append_assoc] at h ⊢; exact h.front
theorem Own.push (h : Own n w W (a :: (p ++ (q ++ F)))) : Own n w W (p ++ (q ++ (a :: F))) := by
  rw [← List.append_assoc] at h ⊢; exact h.back
theorem Own.swp (h : Own n w W (p ++ (q ++ F))) : Own n w W (q ++ (p ++ F)) := h.perm (List.perm_append_comm_assoc p q F)
end
/-- both graphs of the rows r -/
def BP (n : Nat) (w : World) (g b : Nat) (r : List Rc) (F : List Atom) (W : World) : Prop := ∃ pg pr, Gr g r pg ∧ IsR b r pr ∧ Own n w W (pg ++ (pr ++ F))
section
variable {n g b : Nat} {w W : World} {F : List Atom} {r : List Rc} {a : Atom}
theorem BP.add (h : BP n w g b r (a :: F) W) : BP n w g b r (a :: F) W := h
theorem BP.cons (h : BP n w g b r F W) {W' : World} (hb : ∀ X, Own n w W X → Own n w W' (a :: X)) : BP n w g b r (a :: F) W' := by
  obtain ⟨pg, pr, hg, hr, ho⟩ := h
  exact ⟨pg, pr, hg, hr, (hb _ ho).push⟩
theorem BP.tail (h : BP n w g b r (a :: F) W) : BP n w g b r F W := by
  obtain ⟨pg, pr, hg, hr, ho⟩ := h
  exact ⟨pg, pr, hg, hr, ho.pull.tail⟩
theorem BP.hold (h : BP n w g b r F W) {x : Atom} (hx : x ∈ F) : x.Q W := by
  obtain ⟨pg, pr, hg, hr, ho⟩ := h
  exact ho.hold x (List.mem_append_right _ (List.mem_append_right _ hx))
theorem BP.below (h : BP n w g b r F W) : Below n w W := by obtain ⟨pg, pr, hg, hr, ho⟩ := h; exact ho.below
theorem BP.sz (h : BP n w g b r F W) : n ≤ W.heap.size := by obtain ⟨pg, pr, hg, hr, ho⟩ := h; exact ho.sz
/-- the own graph has one more, or not; the document's waits -/
def HP (n : Nat) (w : World) (g b : Nat) (r r' : List Rc) (F : List Atom) (W : World) : Prop := ∃ pg pr, Gr g r pg ∧ IsR b r' pr ∧ Own n w W (pg ++ (pr ++ F))
theorem HP.cons {r' : List Rc} (h : HP n w g b r r' F W) {W' : World} (hb : ∀ X, Own n w W X → Own n w W' (a :: X)) : HP n w g b r r' (a :: F) W' := by
  obtain ⟨pg, pr, hg, hr, ho⟩ := h
  exact ⟨pg, pr, hg, hr, (hb _ ho).push⟩
theorem HP.turn {r' : List Rc} {a' : Atom} (h : HP n w g b r r' (a :: F) W) {W' : World} (hb : ∀ X, Own n w W (a :: X) → Own n w W' (a' :: X)) : HP n w g b r r' (a' :: F) W' := by
  obtain ⟨pg, pr, hg, hr, ho⟩ := h
  exact ⟨pg, pr, hg, hr, (hb _ ho.pull).push⟩
theorem HP.tail {r' : List Rc} (h : HP n w g b r r' (a :: F) W) : HP n w g b r r' F W := by
  obtain ⟨pg, pr, hg, hr, ho⟩ := h
  exact ⟨pg, pr, hg, hr, ho.pull.tail⟩
theorem HP.hold {r' : List Rc} (h : HP n w g b r r' F W) {x : Atom} (hx : x ∈ F) : x.Q W := by
  obtain ⟨pg, pr, hg, hr, ho⟩ := h
  exact ho.hold x (List.mem_append_right _ (List.mem_append_right _ hx))
theorem HP.head {r' : List Rc} (h : HP n w g b r r' (a :: F) W) : ∃ X, Own n w W (a :: X) := by
  obtain ⟨pg, pr, hg, hr, ho⟩ := h
  exact ⟨_, ho.pull⟩
/-- what a call of Add does to rows -/
def addR (r : List Rc) (buf : Int) (on : List Int) : List Rc := if ∀ x ∈ on, 0 ≤ x ∧ x < (r.length : Int) then r ++ [⟨buf, on, false⟩] else r
def addV (r : List Rc) (on : List Int) : Int × Int := if ∀ x ∈ on, 0 ≤ x ∧ x < (r.length : Int) then ((r.length : Int), 0) else (0, 1)
theorem BP.gadd (h : BP n w g b r F W) (buf : Int) (hb : I64 buf) (A : Option Addr) (c : Nat) (on : List Int) (hl : r.length + 1 < 274877906944) (ht : tot r + on.length < 274877906944) (hr : Reads n w F A on) :
    Calls Try.prog 11 #[.pointer (some ⟨g, 0, none⟩), .int .i64 buf, .slice A on.length c] W fun e W' => e = .returned (.tuple #[.int .i64 (addV r on).1, .int .i64 (addV r on).2]) ∧ HP n w g b (addR r buf on) r F W' := by
  obtain ⟨pg, pr, hg, hrr, ho⟩ := h
  unfold addR addV
  by_cases hon : ∀ x ∈ on, 0 ≤ x ∧ x < (r.length : Int)
  · rw [if_pos hon, if_pos hon]
    refine (gadd_c hg ho buf hb A c on hl ht hr.app hon).mono ?_
    rintro e W' ⟨ps', he, hg', ho'⟩
    exact ⟨he, ps', pr, hg', hrr, ho'⟩
  · rw [if_neg hon, if_neg hon]
    refine (gadd_no hg ho buf A c on (by omega) hr.app hon).mono ?_
    rintro e W' ⟨he, rfl⟩
    exact ⟨he, pg, pr, hg, hrr, ho⟩
theorem HP.radd {on : List Int} {buf : Int} (h : HP n w g b (addR r buf on) r F W) (hs : Sm r) (A : Option Addr) (c : Nat) (hl : on.length < 274877906944) (hr : Reads n w F A on) :
    Calls Try.prog 36 #[.pointer (some ⟨b, 0, none⟩), .int .i64 buf, .slice A on.length c] W fun e W' => e = .returned (.tuple #[.int .i64 (addV r on).1, .int .i64 (addV r on).2]) ∧ BP n w g b (addR r buf on) F W' := by
  obtain ⟨pg, pr, hg, hrr, ho⟩ := h
  unfold addR at hg ⊢
  unfold addV
  by_cases hon : ∀ x ∈ on, 0 ≤ x ∧ x < (r.length : Int)
  · rw [if_pos hon] at hg ⊢
    rw [if_pos hon]
    refine (radd_yes hrr hs ho.swp buf A c on hl hr.app hon).mono ?_
    rintro e W' ⟨ps', he, hg', ho'⟩
    exact ⟨he, pg, ps', hg, hg', ho'.swp⟩
  · rw [if_neg hon] at hg ⊢
    rw [if_neg hon]
    refine (radd_no hrr hs ho.swp buf A c on hl hr.app hon).mono ?_
    rintro e W' ⟨he, ho'⟩
    exact ⟨he, pg, pr, hg, hrr, ho'.swp⟩
theorem BP.gwr (h : BP n w g b r F W) (buf : Int) (hb : I64 buf) :
    Calls Try.prog 12 #[.pointer (some ⟨g, 0, none⟩), .int .i64 buf] W fun e W' => ∃ A c, e = .returned (.slice A (nextR r buf).length c) ∧ HP n w g b (writtenR r buf) r (rowA 3 1 (.slice A (nextR r buf).length c) (nextR r buf).length (ints (nextR r buf)) :: F) W' := by
  obtain ⟨pg, pr, hg, hrr, ho⟩ := h
  refine (gwritten_c hg buf hb ho).mono ?_
  rintro e W' ⟨v, ps', rfl, hg', ho'⟩
  obtain ⟨A, c, rfl⟩ := own_slice ho'.row
  exact ⟨A, c, rfl, ps', pr, hg', hrr, ho'.push⟩
theorem HP.rwr {buf : Int} (h : HP n w g b (writtenR r buf) r F W) (hw : WfR r) (hs : Sm r) :
    Calls Try.prog 37 #[.pointer (some ⟨b, 0, none⟩), .int .i64 buf] W fun e W' => ∃ A c, e = .returned (.slice A (nextR r buf).length c) ∧ BP n w g b (writtenR r buf) (rowA 3 1 (.slice A (nextR r buf).length c) (nextR r buf).length (ints (nextR r buf)) :: F) W' := by
  obtain ⟨pg, pr, hg, hrr, ho⟩ := h
  refine (rwritten_c hrr hw hs ho.swp buf).mono ?_
  rintro e W' ⟨v, ps', rfl, hg', ho'⟩
  obtain ⟨A, c, rfl⟩ := own_slice ho'.row
  refine ⟨A, c, rfl, pg, ps', hg, hg', ?_⟩
  exact ho'.push.swp
theorem BP.same {A B : Option Addr} {c d : Nat} {l : List Int} (h : BP n w g b r (rowA 3 1 (.slice B l.length d) l.length (ints l) :: rowA 3 1 (.slice A l.length c) l.length (ints l) :: F) W) (hl : l.length < 1099511627776) :
    Calls Try.prog 15 #[.slice A l.length c, .slice B l.length d] W fun e W' => e = .returned (.bool true) ∧ BP n w g b r F W' := by
  obtain ⟨pg, pr, hg, hrr, ho⟩ := h
  have h1 : Reads n w (pg ++ (pr ++ (rowA 3 1 (.slice B l.length d) l.length (ints l) :: rowA 3 1 (.slice A l.length c) l.length (ints l) :: F))) A l := Reads.row (c := c) (k := l.length) (by simp)
  have h2 : Reads n w (pg ++ (pr ++ (rowA 3 1 (.slice B l.length d) l.length (ints l) :: rowA 3 1 (.slice A l.length c) l.length (ints l) :: F))) B l := Reads.row (c := d) (k := l.length) (by simp)
  refine (same_c A c l B d l hl hl h1 h2 ho).mono ?_
  rintro e W' ⟨he, ho'⟩
  have he2 : e = .returned (.bool true) := he.trans (congrArg (fun x => Ending.returned (.bool x)) (sameI_self l))
  have h3 : BP n w g b r (rowA 3 1 (.slice B l.length d) l.length (ints l) :: rowA 3 1 (.slice A l.length c) l.length (ints l) :: F) W' := ⟨pg, pr, hg, hrr, ho'⟩
  exact ⟨he2, h3.tail.tail⟩
end
theorem stepR_eq (r : List Rc) (a : Ac) : stepR r a = if a.way = 0 then addR r a.buf a.on else writtenR r a.buf := rfl
end Go.Proofs.Ytlpdhmkcbdhelaa
