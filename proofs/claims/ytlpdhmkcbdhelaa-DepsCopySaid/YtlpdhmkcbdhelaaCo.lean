/-
  Contracts of slices.Clone: a row of the call's own with the same cells. Conditions: none but memory's bound.
-/
import Derived.Test.YtlpdhmkcbdhelaaH
import Derived.WalkSpells
import Derived.Test.YtlpdhmkcbdhelaaProg
import Derived.KernelRfl
namespace Go.Proofs.Ytlpdhmkcbdhelaa
set_option linter.unusedVariables false
set_option linter.unusedSimpArgs false
open Go.RowKit
theorem cells_none {B : Nat} {w : World} {cs : List Value} (h : Cells B w none cs) : cs = [] := by
  by_cases e : cs = []
  · exact e
  · obtain ⟨b, off, h, _⟩ := h e; cases h

theorem infoCl3 : (Try.prog.info? 3).map (fun i => (i.zero, i.size, i.bytes)) = some (some (.int .i64 0), 1, 8) := by kernel_rfl
set_option maxHeartbeats 1000000 in
theorem clone31_c (A : Option Addr) (n c : Nat) (cs : List Value) (w : World) (hl : cs.length = n * 1) (hA : Cells w.heap.size w A cs) (h1 : ∀ u ∈ cs, u.oneCell' = true) (hn : n * 8 ≤ 140737488355328) :
    Calls Try.prog 31 #[.slice A n c] w fun e w' => ∃ v, e = .returned v ∧ w'.ownsRow w.heap.size 3 1 v n cs ∧ Below w.heap.size w w' := by
  have hq := Lib.run_eql_slice_nil (P := Try.prog) w 25 3 A n c 0 0 Try.underlying25
  cases A with
  | none =>
    obtain rfl := cells_none hA
    have hn0 : n = 0 := by simp at hl; omega
    subst hn0
    clear hA h1 hl
    simp only [Option.isNone_none] at hq
    go_enter Try.func31, Try.ntmps31
    go_wp2
    go_ret
    exact ⟨_, rfl, World.ownsRow_nil _ _ _ _, Below.refl _ _⟩
  | some ad =>
    have H := hide (And.intro hA (And.intro h1 hl))
    clear hA h1 hl
    simp only [Option.isNone_some] at hq
    obtain ⟨i0, hi, hz0, hz1, hz2⟩ := info_parts infoCl3
    have ho0 : (w.alloc (.cells #[] 3)).ownsRow w.heap.size 3 1 (.slice (some ⟨w.heap.size, 0, none⟩) 0 0) 0 [] := World.ownsRow_lit (base := w.heap.size) (e := 3) (size := 1) w #[] 0 (Nat.le_refl _) (by unfold maxLen; omega) (by simp)
    have hs0 : (w.alloc (.cells #[] 3)).heap.size = w.heap.size + 1 := by simp
    go_enter Try.func31, Try.ntmps31
    go_wp2_with (at_builtin; go_must (refine wpList_append_src _ rfl _ _ 25 rfl w.heap.size 3 i0 (.int .i64 0) 1 8 Try.underlying25 hi hz0 hz1 hz2 rfl (by decide) _ 0 [] rfl ho0 w.heap.size (some ad) n c cs rfl H.out.2.2 (fun hne => by obtain ⟨b, off, e1, e2, e3⟩ := H.out.1 hne; exact ⟨b, off, e1, by omega, fun i u hu => ((Below.heap_cell_alloc w _ ⟨b, off + i, none⟩ e2).trans (e3 i u hu))⟩) H.out.2.1 (by unfold maxLen; omega) (by omega) (by omega) ?_); intro v' w1 hown hg hat; rw [Nat.zero_add, List.nil_append] at hown; have H2 := hide (And.intro hown hg); obtain ⟨A', c', rfl⟩ := own_slice hown; clear hown hg hat)
    go_ret
    exact ⟨_, rfl, H2.out.1, ((Below.refl _ w).alloc (Nat.le_refl _) _).grown H2.out.2 (by rw [hs0]; exact Nat.le_succ _) (fun k hk => Nat.le_of_eq (Option.some.inj hk))⟩

theorem infoCl60 : (Try.prog.info? 60).map (fun i => (i.zero, i.size, i.bytes)) = some (some (.agg #[.int .i64 0, .slice none 0 0, .int .i64 0, .slice none 0 0, .bool false]), 5, 72) := by kernel_rfl
set_option maxHeartbeats 1000000 in
theorem clone42_c (A : Option Addr) (n c : Nat) (cs : List Value) (w : World) (hl : cs.length = n * 5) (hA : Cells w.heap.size w A cs) (h1 : ∀ u ∈ cs, u.oneCell' = true) (hn : n * 72 ≤ 140737488355328) :
    Calls Try.prog 42 #[.slice A n c] w fun e w' => ∃ v, e = .returned v ∧ w'.ownsRow w.heap.size 60 5 v n cs ∧ Below w.heap.size w w' := by
  have hq := Lib.run_eql_slice_nil (P := Try.prog) w 56 60 A n c 0 0 Try.underlying56
  cases A with
  | none =>
    obtain rfl := cells_none hA
    have hn0 : n = 0 := by simp at hl; omega
    subst hn0
    clear hA h1 hl
    simp only [Option.isNone_none] at hq
    go_enter Try.func42, Try.ntmps42
    go_wp2
    go_ret
    exact ⟨_, rfl, World.ownsRow_nil _ _ _ _, Below.refl _ _⟩
  | some ad =>
    have H := hide (And.intro hA (And.intro h1 hl))
    clear hA h1 hl
    simp only [Option.isNone_some] at hq
    obtain ⟨i0, hi, hz0, hz1, hz2⟩ := info_parts infoCl60
    have ho0 : (w.alloc (.cells #[] 60)).ownsRow w.heap.size 60 5 (.slice (some ⟨w.heap.size, 0, none⟩) 0 0) 0 [] := World.ownsRow_lit (base := w.heap.size) (e := 60) (size := 5) w #[] 0 (Nat.le_refl _) (by unfold maxLen; omega) (by simp)
    have hs0 : (w.alloc (.cells #[] 60)).heap.size = w.heap.size + 1 := by simp
    go_enter Try.func42, Try.ntmps42
    go_wp2_with (at_builtin; go_must (refine wpList_append_src _ rfl _ _ 56 rfl w.heap.size 60 i0 (.agg #[.int .i64 0, .slice none 0 0, .int .i64 0, .slice none 0 0, .bool false]) 5 72 Try.underlying56 hi hz0 hz1 hz2 rfl (by decide) _ 0 [] rfl ho0 w.heap.size (some ad) n c cs rfl H.out.2.2 (fun hne => by obtain ⟨b, off, e1, e2, e3⟩ := H.out.1 hne; exact ⟨b, off, e1, by omega, fun i u hu => ((Below.heap_cell_alloc w _ ⟨b, off + i, none⟩ e2).trans (e3 i u hu))⟩) H.out.2.1 (by unfold maxLen; omega) (by omega) (by omega) ?_); intro v' w1 hown hg hat; rw [Nat.zero_add, List.nil_append] at hown; have H2 := hide (And.intro hown hg); obtain ⟨A', c', rfl⟩ := own_slice hown; clear hown hg hat)
    go_ret
    exact ⟨_, rfl, H2.out.1, ((Below.refl _ w).alloc (Nat.le_refl _) _).grown H2.out.2 (by rw [hs0]; exact Nat.le_succ _) (fun k hk => Nat.le_of_eq (Option.some.inj hk))⟩

end Go.Proofs.Ytlpdhmkcbdhelaa
