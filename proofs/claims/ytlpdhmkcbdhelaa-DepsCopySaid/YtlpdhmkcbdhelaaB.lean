/-
  The contracts of deps.New, is, Left, Done. Conditions: the graph's numbers are in their bounds.
-/
import Derived.Test.YtlpdhmkcbdhelaaKs
namespace Go.Proofs.Ytlpdhmkcbdhelaa
set_option linter.unusedVariables false
set_option linter.unusedSimpArgs false
open Go.RowKit Go.Maps

section
variable {n : Nat} {w W : World} {F ps : List Atom} {st : St} {g : Nat}
theorem new_c (h : Own n w W F) : Calls Try.prog 10 #[] W fun e W' => ∃ g ps, e = .returned (.pointer (some ⟨g, 0, none⟩)) ∧ IsG g zst ps ∧ Own n w W' (ps ++ F) := by
  have H := hide h
  clear h
  have hmm := @run_makeMap Try.prog
  go_enter Try.func10, Try.ntmps10
  go_wp2
  go_ret
  have h1 := H.out.new (.map #[] 0) (mpA W.heap.size (locF [])) rfl ⟨0, OwnV.made W Try.prog 3⟩
  have h2 := h1.new (.map #[] 0) (mpA (W.alloc (.map #[] 0)).heap.size (intF zst.next)) rfl ⟨0, OwnV.made _ Try.prog 3⟩
  have h3 := h2.nilRow 60 5
  have h4 := h3.newBlk #[.slice none 0 0, .map (some W.heap.size), .int .i64 0, .map (some (W.alloc (.map #[] 0)).heap.size)] 58
  refine ⟨_, _, rfl, ⟨.slice none 0 0, [], W.heap.size, (W.alloc (.map #[] 0)).heap.size, [], rfl, rfl, fun x => rfl, by simp⟩, ?_⟩
  have h5 := h4.perm (bs := gParts (((W.alloc (.map #[] 0)).alloc (.map #[] 0)).heap.size) (.slice none 0 0) [] W.heap.size (W.alloc (.map #[] 0)).heap.size zst.opn [] zst.next ++ F) (by
    unfold gParts
    simp only [List.map_nil, List.append_nil, List.nil_append, List.cons_append, List.length_nil]
    exact ((List.Perm.swap _ _ _).cons _).cons _)
  simpa using h5
/-- the graph's cells -/
theorem IsG.open {ps : List Atom} (h : IsG g st ps) (ho : Own n w W (ps ++ F)) : ∃ vl bb nb, Blk W g #[vl, .map (some bb), .int .i64 st.opn, .map (some nb)] 58 ∧ ∃ A c, vl = .slice A st.l.length c := by
  obtain ⟨vl, l, bb, nb, bs, rfl, h1, h2, h3⟩ := h
  have hl : l.length = st.l.length := by rw [← h1, List.length_map]
  have hr : W.ownsRow 0 60 5 vl l.length (cellsL l) := ho.hold (rowA 60 5 vl l.length (cellsL l)) (by simp [gParts])
  obtain ⟨A, c, rfl⟩ := own_slice hr
  exact ⟨.slice A l.length c, bb, nb, ho.hold (blkA g #[.slice A l.length c, .map (some bb), .int .i64 st.opn, .map (some nb)] 58) (by simp [gParts]), A, c, by rw [hl]⟩
theorem left_c (hg : IsG g st ps) (h : Own n w W (ps ++ F)) : Calls Try.prog 18 #[.pointer (some ⟨g, 0, none⟩)] W fun e W' => e = .returned (.int .i64 st.opn) ∧ W = W' := by
  obtain ⟨vl, bb, nb, hb, _⟩ := hg.open h
  have z := hb.cell 2
  clear hb hg h
  go_enter Try.func18, Try.ntmps18
  go_wp2
  go_ret
  exact ⟨rfl, rfl⟩
end
end Go.Proofs.Ytlpdhmkcbdhelaa
