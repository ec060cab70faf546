/-
  slices.DeleteFunc over locks, with the closure of Release. Conditions: lengths.
-/
import Derived.Test.YtcmiboipgngjaaaE
import Derived.Laws.IdiomCopy
namespace Go.Proofs.Ytcmiboipgngjaaa
set_option linter.unusedVariables false
set_option linter.unusedSimpArgs false
open Go.RowKit Go.Maps

theorem run_clear27 (W : World) (b o n c : Nat) (hn : 0 < n) (hc : ∀ j, j < n * 3 → (W.cell? ⟨b, o + j, none⟩).isSome = true) (hf : ∀ j, j < n * 3 → W.frozen? ⟨b, o + j, none⟩ = false) (ty : TypeId) :
    ∃ zs : List Value, zs.length = n * 3 ∧ (Builtin.clear_ #[38] ty #[.slice (some ⟨b, o, none⟩) n c]).run Try.prog W = .ok (.tuple #[]) (W.setCells b o zs) := by
  have hl : (Builtin.zeroCells (Value.cells (.agg #[.int .i64 0, .int .i64 0, .bool false])) n).size = n * 3 := by rw [size_zeroCells]; rfl
  refine ⟨(Builtin.zeroCells (Value.cells (.agg #[.int .i64 0, .int .i64 0, .bool false])) n).toList, by rw [Array.length_toList, hl], ?_⟩
  have hst := run_storeCells_cells (P := Try.prog) b o (Builtin.zeroCells (Value.cells (.agg #[.int .i64 0, .int .i64 0, .bool false])) n).toList 0 W (by simpa [hl] using hc) (by simpa [hl] using hf) (by
    intro u hu
    rw [Array.mem_toList_iff] at hu
    unfold Builtin.zeroCells at hu
    obtain ⟨k, -, rfl⟩ := Array.mem_map.1 hu
    have h3 : (Value.cells (.agg #[.int .i64 0, .int .i64 0, .bool false])) = #[.int .i64 0, .int .i64 0, .bool false] := by rfl
    rw [h3]
    show (#[Value.int .i64 0, .int .i64 0, .bool false][k % 3]!).oneCell' = true
    have h4 : k % 3 = 0 ∨ k % 3 = 1 ∨ k % 3 = 2 := by omega
    rcases h4 with e | e | e <;> rw [e] <;> rfl)
  simp only [Nat.add_zero] at hst
  obtain ⟨m, rfl⟩ : ∃ m, n = m + 1 := ⟨n - 1, by omega⟩
  simp [Builtin.clear_, run_underlying Try.underlying38, zero27, hst]
section
variable {n : Nat} {w W : World} {F : List Atom} {b g off i c : Nat} {l m : List Lk}
theorem cellsK_take (m : List Lk) (i : Nat) : cellsK (m.take i) = (cellsK m).take (i * 3) := by
  by_cases h : i ≤ m.length
  · have e : cellsK m = cellsK (m.take i) ++ cellsK (m.drop i) := by rw [← cellsK_append, List.take_append_drop]
    have hl : (cellsK (m.take i)).length = i * 3 := by rw [cellsK_len, List.length_take, Nat.min_eq_left h]
    rw [e, List.take_append_of_le_length (by omega)]
    exact (List.take_of_length_le (by omega)).symm
  · rw [List.take_of_length_le (by omega), List.take_of_length_le (by rw [cellsK_len]; omega)]
theorem off_tail {zs : List Value} (h : Own n w W (offA 3 (.slice (some ⟨g, off, none⟩) m.length c) m.length (cellsK m) :: F)) (hi : i < m.length) (hz : zs.length = (m.length - i) * 3) :
    Own n w (W.setCells g (off + i * 3) zs) (offA 3 (.slice (some ⟨g, off, none⟩) i c) i (cellsK (m.take i)) :: F) := by
  have hq : offRow W 3 (.slice (some ⟨g, off, none⟩) m.length c) m.length (cellsK m) := h.head
  refine h.grow (a' := offA 3 (.slice (some ⟨g, off, none⟩) i c) i (cellsK (m.take i))) ⟨World.os_setCells W g _ zs, tape_setC g zs _ W, World.output_setCells W g _ zs, by rw [size_setC]; exact Nat.le_refl _, fun k hk hne => World.heap_setCells_other W g _ zs hk (fun e => hne (by rw [e]; rfl))⟩ (fun k hk => .inl hk) ?_
  rcases hq.2 with ⟨h2, _⟩ | ⟨g', off', cap', h2, hlt, h3, h4, h5, h6⟩
  · cases h2
  · cases h2
    refine ⟨by rw [cellsK_len, List.length_take]; omega, .inr ⟨g, off, c, rfl, by rw [size_setC]; exact hlt, by omega, h4, fun j u hu => ?_, fun j hj => ⟨World.isSome_setCells g zs _ W _ (h6 j hj).1, by rw [World.frozen?_setCells]; exact (h6 j hj).2⟩⟩⟩
    rw [cellsK_take] at hu
    obtain ⟨hj, -⟩ := List.getElem?_eq_some_iff.1 hu
    rw [List.length_take] at hj
    rw [List.getElem?_take_of_lt (by omega)] at hu
    rw [World.cell?_setCells_out g zs _ W ⟨g, off + j, none⟩ (fun _ _ => .inl (by show off + j < off + i * 3; omega))]
    exact h5 j u hu
theorem off_set (h : Own n w W (offA 3 (.slice (some ⟨g, off, none⟩) m.length c) m.length (cellsK m) :: F)) (hi : i < m.length) (x : Lk) :
    Own n w (((W.setCell ⟨g, off + i * 3, none⟩ (.int .i64 x.th)).setCell ⟨g, off + i * 3 + 1, none⟩ (.int .i64 x.tg)).setCell ⟨g, off + i * 3 + 2, none⟩ (.bool x.al)) (offA 3 (.slice (some ⟨g, off, none⟩) (m.set i x).length c) (m.set i x).length (cellsK (m.set i x)) :: F) := by
  have hq : offRow W 3 (.slice (some ⟨g, off, none⟩) m.length c) m.length (cellsK m) := h.head
  have e : ((W.setCell ⟨g, off + i * 3, none⟩ (.int .i64 x.th)).setCell ⟨g, off + i * 3 + 1, none⟩ (.int .i64 x.tg)).setCell ⟨g, off + i * 3 + 2, none⟩ (.bool x.al) = W.setCells g (off + i * 3) x.cells := rfl
  rw [e, List.length_set]
  have hm : m.set i x = m.take i ++ x :: m.drop (i + 1) := by rw [List.set_eq_take_append_cons_drop, if_pos hi]
  refine h.grow (a' := offA 3 (.slice (some ⟨g, off, none⟩) m.length c) m.length (cellsK (m.set i x))) ⟨World.os_setCells W g _ _, tape_setC g _ _ W, World.output_setCells W g _ _, by rw [size_setC]; exact Nat.le_refl _, fun k hk hne => World.heap_setCells_other W g _ _ hk (fun e => hne (by rw [e]; rfl))⟩ (fun k hk => .inl hk) ?_
  rcases hq.2 with ⟨h2, _⟩ | ⟨g', off', cap', h2, hlt, h3, h4, h5, h6⟩
  · cases h2
  · cases h2
    refine ⟨by rw [cellsK_len, List.length_set], .inr ⟨g, off, c, rfl, by rw [size_setC]; exact hlt, by omega, h4, fun j u hu => ?_, fun j hj => ⟨World.isSome_setCells g _ _ W _ (h6 j hj).1, by rw [World.frozen?_setCells]; exact (h6 j hj).2⟩⟩⟩
    have h0 : cellsK m = cellsK (m.take i) ++ ((m[i]).cells ++ cellsK (m.drop (i + 1))) := by
      rw [← cellsK_cons, ← cellsK_append, List.getElem_cons_drop, List.take_append_drop]
    have hlen : (cellsK (m.take i)).length = i * 3 := by rw [cellsK_len, List.length_take, Nat.min_eq_left (by omega)]
    rw [hm, cellsK_append, cellsK_cons] at hu
    by_cases q1 : j < i * 3
    · rw [List.getElem?_append_left (by omega)] at hu
      rw [World.cell?_setCells_out g _ _ W ⟨g, off + j, none⟩ (fun _ _ => .inl (by show off + j < off + i * 3; omega))]
      exact h5 j u (by rw [h0, List.getElem?_append_left (by omega)]; exact hu)
    · rw [List.getElem?_append_right (by omega), hlen] at hu
      by_cases q2 : j - i * 3 < 3
      · rw [List.getElem?_append_left (by simp [Lk.cells]; omega)] at hu
        obtain ⟨hj2, hu2⟩ := List.getElem?_eq_some_iff.1 hu
        have := World.cell?_setCells_in g x.cells (off + i * 3) W (fun k hk => by
          have : k < 3 := hk
          rw [Nat.add_assoc]; exact (h6 (i * 3 + k) (by omega)).1) (j - i * 3) hj2
        rw [show off + i * 3 + (j - i * 3) = off + j from by omega] at this
        rw [this, hu2]
      · rw [List.getElem?_append_right (by simp [Lk.cells]; omega)] at hu
        rw [World.cell?_setCells_out g _ _ W ⟨g, off + j, none⟩ (fun _ _ => .inr (by show off + i * 3 + 3 ≤ off + j; omega))]
        refine h5 j u ?_
        rw [h0, List.getElem?_append_right (by omega), hlen, List.getElem?_append_right (by simp [Lk.cells]; omega)]
        exact hu
end
end Go.Proofs.Ytcmiboipgngjaaa
