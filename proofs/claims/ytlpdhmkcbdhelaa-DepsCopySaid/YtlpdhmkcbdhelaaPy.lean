/-
  What both graphs answer, over the rows. No condition but that the rows are few.
-/
import Derived.Test.YtlpdhmkcbdhelaaLr
import Derived.Test.YtlpdhmkcbdhelaaRn
import Derived.Test.YtlpdhmkcbdhelaaNe
namespace Go.Proofs.Ytlpdhmkcbdhelaa
set_option linter.unusedVariables false
set_option linter.unusedSimpArgs false
open Go.RowKit Go.Maps

section
variable {n g b : Nat} {w W : World} {F : List Atom} {r : List Rc}
theorem BP.drewN (h : BP n w g b r F W) (q : Nat) : BP n w g b r F (W.drewN q) := by
  obtain ⟨pg, pr, hg, hr, ho⟩ := h
  exact ⟨pg, pr, hg, hr, ho.drewN q⟩
theorem BP.drew (h : BP n w g b r F W) : BP n w g b r F W.drew := by
  obtain ⟨pg, pr, hg, hr, ho⟩ := h
  exact ⟨pg, pr, hg, hr, ho.drew⟩
theorem BP.done (h : BP n w g b r F W) (id : Int) : Calls Try.prog 24 #[.pointer (some ⟨g, 0, none⟩), .int .i64 id] W fun e W' => e = .returned (.bool (doneR r id)) ∧ W = W' := by
  obtain ⟨pg, pr, hg, hr, ho⟩ := h
  exact gdone_c hg (fun a ha => ho.hold a (List.mem_append_left _ ha)) id
theorem BP.next (h : BP n w g b r F W) (buf : Int) (hb : I64 buf) : Calls Try.prog 13 #[.pointer (some ⟨g, 0, none⟩), .int .i64 buf] W fun e W' => ∃ A c, e = .returned (.slice A (nextR r buf).length c) ∧ BP n w g b r (rowA 3 1 (.slice A (nextR r buf).length c) (nextR r buf).length (ints (nextR r buf)) :: F) W' := by
  obtain ⟨pg, pr, hg, hr, ho⟩ := h
  refine (gnext_c hg buf hb ho).mono ?_
  rintro e W' ⟨v, rfl, h1⟩
  obtain ⟨A, c, rfl⟩ := own_slice h1.row
  exact ⟨A, c, rfl, pg, pr, hg, hr, h1.push⟩
theorem BP.blocked (h : BP n w g b r F W) (buf : Int) (hb : I64 buf) : Calls Try.prog 17 #[.pointer (some ⟨g, 0, none⟩), .int .i64 buf] W fun e W' => ∃ A c, e = .returned (.slice A (blockedR r buf).length c) ∧ BP n w g b r (rowA 3 1 (.slice A (blockedR r buf).length c) (blockedR r buf).length (ints (blockedR r buf)) :: F) W' := by
  obtain ⟨pg, pr, hg, hr, ho⟩ := h
  refine (gblocked_c hg buf hb ho).mono ?_
  rintro e W' ⟨v, rfl, h1⟩
  obtain ⟨A, c, rfl⟩ := own_slice h1.row
  exact ⟨A, c, rfl, pg, pr, hg, hr, h1.push⟩
theorem BP.rnext (h : BP n w g b r F W) (buf : Int) : Calls Try.prog 25 #[.pointer (some ⟨b, 0, none⟩), .int .i64 buf] W fun e W' => ∃ A c, e = .returned (.slice A (nextR r buf).length c) ∧ BP n w g b r (rowA 3 1 (.slice A (nextR r buf).length c) (nextR r buf).length (ints (nextR r buf)) :: F) W' := by
  obtain ⟨pg, pr, hg, hr, ho⟩ := h
  refine (rnext_c hr hg.wf hg.sm ho.swp buf).mono ?_
  rintro e W' ⟨v, rfl, h1⟩
  obtain ⟨A, c, rfl⟩ := own_slice h1.row
  exact ⟨A, c, rfl, pg, pr, hg, hr, h1.push.swp⟩
theorem BP.rblocked (h : BP n w g b r F W) (buf : Int) : Calls Try.prog 26 #[.pointer (some ⟨b, 0, none⟩), .int .i64 buf] W fun e W' => ∃ A c, e = .returned (.slice A (blockedR r buf).length c) ∧ BP n w g b r (rowA 3 1 (.slice A (blockedR r buf).length c) (blockedR r buf).length (ints (blockedR r buf)) :: F) W' := by
  obtain ⟨pg, pr, hg, hr, ho⟩ := h
  refine (rblocked_c hr hg.wf hg.sm ho.swp buf).mono ?_
  rintro e W' ⟨v, rfl, h1⟩
  obtain ⟨A, c, rfl⟩ := own_slice h1.row
  exact ⟨A, c, rfl, pg, pr, hg, hr, h1.push.swp⟩
theorem BP.gbufs (h : BP n w g b r F W) : Calls Try.prog 22 #[.pointer (some ⟨g, 0, none⟩)] W fun e W' => ∃ A c, e = .returned (.slice A (bufsL r false r.length).length c) ∧ BP n w g b r (rowA 3 1 (.slice A (bufsL r false r.length).length c) (bufsL r false r.length).length (ints (bufsL r false r.length)) :: F) W' := by
  obtain ⟨pg, pr, hg, hr, ho⟩ := h
  refine (gbufs_c hg ho).mono ?_
  rintro e W' ⟨v, xs, rfl, hx, h1⟩
  obtain rfl := bufsL_bufs hx
  obtain ⟨A, c, rfl⟩ := own_slice h1.row
  exact ⟨A, c, rfl, pg, pr, hg, hr, h1.push⟩
theorem BP.gready (h : BP n w g b r F W) : Calls Try.prog 16 #[.pointer (some ⟨g, 0, none⟩)] W fun e W' => ∃ A c, e = .returned (.slice A (bufsL r true r.length).length c) ∧ BP n w g b r (rowA 3 1 (.slice A (bufsL r true r.length).length c) (bufsL r true r.length).length (ints (bufsL r true r.length)) :: F) W' := by
  obtain ⟨pg, pr, hg, hr, ho⟩ := h
  refine (gready_c hg ho).mono ?_
  rintro e W' ⟨v, xs, rfl, hx, h1⟩
  obtain rfl := bufsL_ready hx
  obtain ⟨A, c, rfl⟩ := own_slice h1.row
  exact ⟨A, c, rfl, pg, pr, hg, hr, h1.push⟩
theorem BP.rbufs (h : BP n w g b r F W) (rdy : Bool) : Calls Try.prog 27 #[.pointer (some ⟨b, 0, none⟩), .bool rdy] W fun e W' => ∃ A c, e = .returned (.slice A (bufsL r rdy r.length).length c) ∧ BP n w g b r (rowA 3 1 (.slice A (bufsL r rdy r.length).length c) (bufsL r rdy r.length).length (ints (bufsL r rdy r.length)) :: F) W' := by
  obtain ⟨pg, pr, hg, hr, ho⟩ := h
  refine (rbufs_c hr hg.wf hg.sm ho.swp rdy).mono ?_
  rintro e W' ⟨v, rfl, h1⟩
  obtain ⟨A, c, rfl⟩ := own_slice h1.row
  exact ⟨A, c, rfl, pg, pr, hg, hr, h1.push.swp⟩
theorem BP.need (h : BP n w g b r F W) (A : Option Addr) (c : Nat) (ids : List Int) (hl : ids.length < 274877906944) (hr : Reads n w F A ids) : Calls Try.prog 23 #[.pointer (some ⟨g, 0, none⟩), .slice A ids.length c] W fun e W' => ∃ xs A c, e = .returned (.slice A xs.length c) ∧ needR r ids xs ∧ BP n w g b r (rowA 3 1 (.slice A xs.length c) xs.length (ints xs) :: F) W' := by
  obtain ⟨pg, pr, hg, hrr, ho⟩ := h
  refine (need_c hg ho A c ids hl hr.app).mono ?_
  rintro e W' ⟨v, xs, rfl, hx, h1⟩
  obtain ⟨A, c, rfl⟩ := own_slice h1.row
  exact ⟨xs, A, c, rfl, hx, pg, pr, hg, hrr, h1.push⟩
theorem BP.rneed (h : BP n w g b r F W) (A : Option Addr) (c : Nat) (ids : List Int) (hl : ids.length < 274877906944) (hr : Reads n w F A ids) : Calls Try.prog 28 #[.pointer (some ⟨b, 0, none⟩), .slice A ids.length c] W fun e W' => ∃ xs A c, e = .returned (.slice A xs.length c) ∧ needR r ids xs ∧ BP n w g b r (rowA 3 1 (.slice A xs.length c) xs.length (ints xs) :: F) W' := by
  obtain ⟨pg, pr, hg, hrr, ho⟩ := h
  refine (rneed_c hrr hg.wf hg.sm ho.swp A c ids hl hr.app).mono ?_
  rintro e W' ⟨v, xs, rfl, hx, h1⟩
  obtain ⟨A, c, rfl⟩ := own_slice h1.row
  exact ⟨xs, A, c, rfl, hx, pg, pr, hg, hrr, h1.push.swp⟩
theorem BP.sameK {A B : Option Addr} {c d : Nat} {l : List Int} (h : BP n w g b r F W) (hA : rowA 3 1 (.slice A l.length c) l.length (ints l) ∈ F) (hB : rowA 3 1 (.slice B l.length d) l.length (ints l) ∈ F) (hl : l.length < 1099511627776) :
    Calls Try.prog 15 #[.slice A l.length c, .slice B l.length d] W fun e W' => e = .returned (.bool true) ∧ BP n w g b r F W' := by
  obtain ⟨pg, pr, hg, hrr, ho⟩ := h
  have h1 : Reads n w (pg ++ (pr ++ F)) A l := Reads.row (c := c) (k := l.length) (by simp [hA])
  have h2 : Reads n w (pg ++ (pr ++ F)) B l := Reads.row (c := d) (k := l.length) (by simp [hB])
  refine (same_c A c l B d l hl hl h1 h2 ho).mono ?_
  rintro e W' ⟨he, ho'⟩
  exact ⟨he.trans (congrArg (fun x => Ending.returned (.bool x)) (sameI_self l)), pg, pr, hg, hrr, ho'⟩
theorem nextR_len (r : List Rc) (x : Int) : (nextR r x).length ≤ r.length := by
  unfold nextR castL; rw [List.length_map]; exact Nat.le_trans (List.length_filter_le _ _) (by simp)
theorem blockedR_len (r : List Rc) (x : Int) : (blockedR r x).length ≤ r.length := by
  unfold blockedR castL; rw [List.length_map]; exact Nat.le_trans (List.length_filter_le _ _) (by simp)
theorem rising_len : ∀ (xs : List Int) (a N : Int), Rising xs → (∀ x ∈ xs, a ≤ x ∧ x < N) → xs.length ≤ (N - a).toNat := by
  intro xs
  induction xs with
  | nil => intro a N _ _; exact Nat.zero_le _
  | cons x xs ih =>
    intro a N hr hx
    obtain ⟨h1, h2⟩ := List.pairwise_cons.1 hr
    have := ih (x + 1) N h2 (fun y hy => ⟨by have := h1 y hy; omega, (hx y (List.mem_cons_of_mem _ hy)).2⟩)
    have := hx x List.mem_cons_self
    rw [List.length_cons]
    omega
theorem needR_len {r : List Rc} {ids xs : List Int} (h : needR r ids xs) : xs.length ≤ r.length := by
  have := rising_len xs 0 (r.length : Int) h.1 (fun x hx => by have hg := ((h.2 x).1 hx).good; exact ⟨hg.1, hg.2.1⟩)
  omega
theorem bufsL_i64 {r : List Rc} {rdy : Bool} (hs : Sm r) {x : Int} (hx : x ∈ bufsL r rdy r.length) : I64 x := by
  obtain ⟨i, hi, -, rfl⟩ := (bufsL_mem r.length).1 hx
  exact hs.buf i hi
end
end Go.Proofs.Ytlpdhmkcbdhelaa
