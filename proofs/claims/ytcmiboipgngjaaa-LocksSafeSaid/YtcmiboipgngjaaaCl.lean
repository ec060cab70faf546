/-
  Contracts of slices.Clone: a row of the call's own with the same cells. Conditions: none but memory's bound.
-/
import Derived.Test.YtcmiboipgngjaaaE
import Derived.WalkSpells
import Derived.Test.YtcmiboipgngjaaaProg
import Derived.KernelRfl
namespace Go.Proofs.Ytcmiboipgngjaaa
set_option linter.unusedVariables false
set_option linter.unusedSimpArgs false
open Go.RowKit Go.Maps
theorem cells_none {B : Nat} {w : World} {cs : List Value} (h : Cells B w none cs) : cs = [] := by
  by_cases e : cs = []
  · exact e
  · obtain ⟨b, off, h, _⟩ := h e; cases h

set_option maxHeartbeats 1000000 in
theorem clone29_c (A : Option Addr) (n c : Nat) (cs : List Value) (w : World) (hl : cs.length = n * 3) (hA : Cells w.heap.size w A cs) (h1 : ∀ u ∈ cs, u.oneCell' = true) (hn : n * 24 ≤ 140737488355328) :
    Calls Try.prog 29 #[.slice A n c] w fun e w' => ∃ v, e = .returned v ∧ w'.ownsRow w.heap.size 27 3 v n cs ∧ Below w.heap.size w w' := by
  have hq := Lib.run_eql_slice_nil (P := Try.prog) w 38 27 A n c 0 0 Try.underlying38
  cases A with
  | none =>
    obtain rfl := cells_none hA
    have hn0 : n = 0 := by simp at hl; omega
    subst hn0
    clear hA h1 hl
    simp only [Option.isNone_none] at hq
    go_enter Try.func29, Try.ntmps29
    go_wp2
    go_ret
    exact ⟨_, rfl, World.ownsRow_nil _ _ _ _, Below.refl _ _⟩
  | some ad =>
    have H := hide (And.intro hA (And.intro h1 hl))
    clear hA h1 hl
    simp only [Option.isNone_some] at hq
    obtain ⟨i0, hi, hz0, hz1, hz2⟩ := info_parts info27
    have ho0 : (w.alloc (.cells #[] 27)).ownsRow w.heap.size 27 3 (.slice (some ⟨w.heap.size, 0, none⟩) 0 0) 0 [] := World.ownsRow_lit (base := w.heap.size) (e := 27) (size := 3) w #[] 0 (Nat.le_refl _) (by unfold maxLen; omega) (by simp)
    have hs0 : (w.alloc (.cells #[] 27)).heap.size = w.heap.size + 1 := by simp
    go_enter Try.func29, Try.ntmps29
    go_wp2_with (at_builtin; go_must (refine wpList_append_src _ rfl _ _ 38 rfl w.heap.size 27 i0 (.agg #[.int .i64 0, .int .i64 0, .bool false]) 3 24 Try.underlying38 hi hz0 hz1 hz2 rfl (by decide) _ 0 [] rfl ho0 w.heap.size (some ad) n c cs rfl H.out.2.2 (fun hne => by obtain ⟨b, off, e1, e2, e3⟩ := H.out.1 hne; exact ⟨b, off, e1, by omega, fun i u hu => ((Below.heap_cell_alloc w _ ⟨b, off + i, none⟩ e2).trans (e3 i u hu))⟩) H.out.2.1 (by unfold maxLen; omega) (by omega) (by omega) ?_); intro v' w1 hown hg hat; rw [Nat.zero_add, List.nil_append] at hown; have H2 := hide (And.intro hown hg); obtain ⟨A', c', rfl⟩ := own_slice hown; clear hown hg hat)
    go_ret
    exact ⟨_, rfl, H2.out.1, ((Below.refl _ w).alloc (Nat.le_refl _) _).grown H2.out.2 (by rw [hs0]; exact Nat.le_succ _) (fun k hk => Nat.le_of_eq (Option.some.inj hk))⟩


theorem clone40_c {W : World} {b : Nat} {es : Array MapEntry} {clock : Nat} (hb : W.heap[b]? = some (.map es clock)) :
    Calls Try.prog 40 #[.map (some b)] W fun e W' => e = .returned (.map (some W.heap.size)) ∧ W' = W.alloc (.map es clock) := by
  have hq := fun w => run_eql_map_nilV (P := Try.prog) w 51 _ _ (some b) Try.underlying51
  go_enter Try.func40, Try.ntmps40
  go_wp2
  rw [run_callFunc_extern Try.func46 (by kernel_rfl) (by kernel_rfl) (by kernel_rfl) (e := Extern.MapsClone.clone) (by kernel_rfl), run_maps_cloneV W 51 hb]
  simp only [Result.andThen]
  rw [Oper.upon_value]
  clear hq hb

  have hta := fun v w => run_typeAssert_mapV (P := Try.prog) w 51 20 _ _ v Try.underlying51
  go_wp2
  go_ret
  exact ⟨rfl, rfl⟩
/-- a row is a slice of the call's own that begins at its block's head -/
theorem off_of_row {W : World} {base n : Nat} {e : TypeId} {sz : Nat} {v : Value} {xs : List Value} (h : W.ownsRow base e sz v n xs) : offRow W sz v n xs := by
  refine ⟨h.1, ?_⟩
  have hh := h
  rcases h.2 with ⟨h2, h3⟩ | ⟨g, cap, cur, rfl, hb, hg, h1, h2, h3, h4⟩
  · exact .inl ⟨h2, h3⟩
  · refine .inr ⟨g, 0, cap, rfl, (Array.getElem?_eq_some_iff.1 hg).1, h1, h2, fun j u hu => ?_, fun j hj => ⟨?_, ?_⟩⟩
    · have hj := (List.getElem?_eq_some_iff.1 hu).1
      rw [Nat.zero_add, hh.cellAt j (by rw [← h.1]; exact hj)]; exact hu
    · simp only [World.cell?, hg, Nat.zero_add]
      simp [show j < cur.size by omega]
    · simp [World.frozen?, hg]
theorem clone29_off {n : Nat} {w W : World} {X : List Atom} {A : Option Addr} {c : Nat} {l : List Lk} (h : Own n w W X) (hm : offA 3 (.slice A l.length c) l.length (cellsK l) ∈ X) (hl : l.length < 1099511627776) :
    Calls Try.prog 29 #[.slice A l.length c] W fun e W' => ∃ v, e = .returned v ∧ Own n w W' (offA 3 v l.length (cellsK l) :: X) ∧ Below W.heap.size W W' := by
  have ho : offRow W 3 (.slice A l.length c) l.length (cellsK l) := h.hold _ hm
  refine (clone29_c A l.length c (cellsK l) W (cellsK_len l) (fun hne => ?_) (fun u hu => ?_) (by omega)).mono ?_
  · rcases ho.2 with ⟨h2, h3⟩ | ⟨g, off, cap, h2, hlt, h3, h4, h5, h6⟩
    · exact absurd (by rw [List.length_eq_zero_iff.1 h3]; rfl) hne
    · cases h2; exact ⟨g, off, rfl, hlt, fun i u hu => h5 i u hu⟩
  · obtain ⟨x, _, hx⟩ := List.mem_flatMap.1 hu
    exact x.cells_one u hx
  · rintro e W' ⟨v, rfl, hr, hb⟩
    exact ⟨v, rfl, h.more (a := offA 3 v l.length (cellsK l)) hb (off_of_row hr) (fun k hk => (hr.lt k hk).1), hb⟩
end Go.Proofs.Ytcmiboipgngjaaa
