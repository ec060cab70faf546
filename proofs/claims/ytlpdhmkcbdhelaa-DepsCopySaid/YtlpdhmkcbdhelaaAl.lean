/-
  The document's example: alive. No condition.
-/
import Derived.Test.YtlpdhmkcbdhelaaT
namespace Go.Proofs.Ytlpdhmkcbdhelaa
set_option linter.unusedVariables false
set_option linter.unusedSimpArgs false
open Go.RowKit Go.Maps

theorem Reads.nil {n : Nat} {w : World} {F : List Atom} {A : Option Addr} : Reads n w F A [] := fun W _ hne => absurd rfl hne
section
variable {n g : Nat} {w W : World} {F ps : List Atom} {r : List Rc}
theorem Own.newInts (h : Own n w W F) (x : Int) : Own n w (W.alloc (.cells #[.int .i64 x] 3)) (rowA 3 1 (.slice (some ⟨W.heap.size, 0, none⟩) 1 1) 1 (ints [x]) :: F) :=
  h.newRow #[.int .i64 x] 1 (by unfold maxLen; omega) rfl
theorem gadd0_c (hg : Gr g r ps) (ho : Own n w W (ps ++ F)) (buf : Int) (hb : I64 buf) (hl : r.length + 1 < 274877906944) (ht : tot r < 274877906944) :
    Calls Try.prog 11 #[.pointer (some ⟨g, 0, none⟩), .int .i64 buf, .slice none 0 0] W fun e W' => ∃ ps', e = .returned (.tuple #[.int .i64 (r.length : Int), .int .i64 0]) ∧ Gr g (r ++ [⟨buf, [], false⟩]) ps' ∧ Own n w W' (ps' ++ F) :=
  gadd_c hg ho buf hb none 0 [] hl ht Reads.nil (fun x hx => by cases hx)
theorem gadd1_c (hg : Gr g r ps) (ho : Own n w W (ps ++ F)) (buf : Int) (hb : I64 buf) (x : Int) (hl : r.length + 1 < 274877906944) (ht : tot r + 1 < 274877906944) (hx : 0 ≤ x ∧ x < (r.length : Int)) :
    Calls Try.prog 11 #[.pointer (some ⟨g, 0, none⟩), .int .i64 buf, .slice (some ⟨W.heap.size, 0, none⟩) 1 1] (W.alloc (.cells #[.int .i64 x] 3)) fun e W' => ∃ ps', e = .returned (.tuple #[.int .i64 (r.length : Int), .int .i64 0]) ∧ Gr g (r ++ [⟨buf, [x], false⟩]) ps' ∧ Own n w W' (ps' ++ F) := by
  have h1 : Own n w (W.alloc (.cells #[.int .i64 x] 3)) (ps ++ (rowA 3 1 (.slice (some ⟨W.heap.size, 0, none⟩) 1 1) 1 (ints [x]) :: F)) := (ho.newInts x).back
  have h2 : Reads n w (rowA 3 1 (.slice (some ⟨W.heap.size, 0, none⟩) 1 1) 1 (ints [x]) :: F) (some ⟨W.heap.size, 0, none⟩) [x] := Reads.row (c := 1) (k := 1) List.mem_cons_self
  refine (gadd_c hg h1 buf hb _ 1 [x] hl ht h2 (fun y hy => by rw [List.mem_singleton.1 hy]; exact hx)).mono ?_
  rintro e W' ⟨ps', he, hg', ho'⟩
  exact ⟨ps', he, hg', ho'.sub ((List.Sublist.refl _).append (List.sublist_cons_self _ _))⟩
theorem same1_c {A : Option Addr} {k c : Nat} {l : List Int} (ho : Own n w W (rowA 3 1 (.slice A k c) k (ints l) :: F)) (hk : k = l.length) (hl : l.length < 1099511627776) (x : Int) :
    Calls Try.prog 15 #[.slice A k c, .slice (some ⟨W.heap.size, 0, none⟩) 1 1] (W.alloc (.cells #[.int .i64 x] 3)) fun e W' => e = .returned (.bool (sameI l [x])) ∧ Own n w W' F := by
  subst hk
  have h1 : Reads n w (rowA 3 1 (.slice (some ⟨W.heap.size, 0, none⟩) 1 1) 1 (ints [x]) :: rowA 3 1 (.slice A l.length c) l.length (ints l) :: F) A l := Reads.row (c := c) (k := l.length) (List.mem_cons_of_mem _ List.mem_cons_self)
  have h2 : Reads n w (rowA 3 1 (.slice (some ⟨W.heap.size, 0, none⟩) 1 1) 1 (ints [x]) :: rowA 3 1 (.slice A l.length c) l.length (ints l) :: F) (some ⟨W.heap.size, 0, none⟩) [x] := Reads.row (c := 1) (k := 1) List.mem_cons_self
  exact (same_c A c l _ 1 [x] hl (by simp) h1 h2 (ho.newInts x)).mono fun e W' ⟨he, h⟩ => ⟨he, h.tail.tail⟩
end
theorem ready_one {r : List Rc} {xs : List Int} (a : Int) (h : readyR r xs) (ha : ∀ x, nextR r x ≠ [] ↔ x = a) : xs = [a] := by
  obtain ⟨h1, h2⟩ := h
  have hm : ∀ x, x ∈ xs ↔ x = a := fun x => (h2 x).trans (ha x)
  match xs, h1, hm with
  | [], _, hm => exact absurd ((hm a).2 rfl) (by simp)
  | [b], _, hm => rw [(hm b).1 List.mem_cons_self]
  | b :: c :: l, h1, hm =>
    have e1 := (hm b).1 List.mem_cons_self
    have e2 := (hm c).1 (List.mem_cons_of_mem _ List.mem_cons_self)
    have := (List.pairwise_cons.1 h1).1 c List.mem_cons_self
    omega
def rA : List Rc := [⟨7, [], false⟩, ⟨8, [0], false⟩]
theorem rA_next (x : Int) : nextR rA x ≠ [] ↔ x = 7 := by
  constructor
  · intro h
    by_cases e : x = 7
    · exact e
    · refine absurd ?_ h
      have : ¬ (7 : Int) = x := fun h => e h.symm
      simp [nextR, castL, rA, openAt, mayAt, cnt, rd, List.range_succ, this]
  · rintro rfl
    decide
theorem rA_blocked : blockedR rA 8 = [1] := by decide
theorem sameI_self (l : List Int) : sameI l l = true := decide_eq_true rfl
theorem small1 : (([] : List Rc)).length + 1 < 274877906944 := by simp
theorem small2 : tot [] < 274877906944 := by simp [tot]
theorem small3 : [(⟨7, [], false⟩ : Rc)].length + 1 < 274877906944 := by simp
theorem small4 : tot [(⟨7, [], false⟩ : Rc)] + 1 < 274877906944 := by simp [tot]
theorem small5 : (0 : Int) ≤ 0 ∧ (0 : Int) < ([(⟨7, [], false⟩ : Rc)].length : Int) := by simp
theorem i7 : I64 7 := by unfold I64; omega
theorem i8 : I64 8 := by unfold I64; omega
theorem alive_c (W : World) : Calls Try.prog 9 #[] W fun e W' => e = .returned (.bool true) ∧ Below W.heap.size W W' := by
  have H0 := hide (Own.start W)
  go_enter Try.func9, Try.ntmps9
  go_wp2_with (first
    | (go_at_call 10; refine (gnew_c H0.out).mono ?_; rintro e W1 ⟨g, ps1, rfl, hg1, ho1⟩; have H1 := hide (gadd0_c hg1 ho1 7 i7 small1 small2); clear hg1 ho1)
    | (go_at_call 11; refine H1.out.mono ?_; rintro e W2 ⟨ps2, he, hg2, ho2⟩; obtain rfl : e = .returned (.tuple #[.int .i64 0, .int .i64 0]) := he; have H2 := hide (gadd1_c (show Gr g [⟨7, [], false⟩] ps2 from hg2) ho2 8 i8 0 small3 small4 small5); clear H1 hg2 ho2)
    | (go_at_call 11; refine H2.out.mono ?_; rintro e W3 ⟨ps3, he, hg3, ho3⟩; obtain rfl : e = .returned (.tuple #[.int .i64 1, .int .i64 0]) := he; have HG := hide (show Gr g rA ps3 from hg3); have H3 := hide ho3; clear H2 hg3 ho3)
    | (go_at_call 14; refine (num_c _ _).mono ?_; rintro e w' ⟨rfl, rfl⟩)
    | (go_at_call 16; refine (gready_c HG.out H3.out).mono ?_; rintro e W4 ⟨v, xs, rfl, hx, ho4⟩; obtain rfl := ready_one 7 hx rA_next; obtain ⟨A4, c4, rfl⟩ := own_slice ho4.row; have H4 := hide (same1_c ho4 rfl (by simp) 7); clear H3 hx ho4)
    | (go_at_call 15; refine H4.out.mono ?_; rintro e W5 ⟨he, ho5⟩; rw [sameI_self] at he; subst he; have H5 := hide ho5; clear H4 ho5)
    | (go_at_call 17; refine (gblocked_c HG.out 8 i8 H5.out).mono ?_; rintro e W6 ⟨v, rfl, ho6⟩; rw [rA_blocked] at ho6; obtain ⟨A6, c6, rfl⟩ := own_slice ho6.row; have H6 := hide (same1_c ho6 rfl (by simp) 1); clear H5 ho6)
    | (go_at_call 15; refine H6.out.mono ?_; rintro e W7 ⟨he, ho7⟩; rw [sameI_self] at he; subst he; have H7 := hide ho7; clear H6 ho7))
  go_ret
  exact ⟨rfl, H7.out.below⟩
end Go.Proofs.Ytlpdhmkcbdhelaa
