/-
  The walks of put and Waits. Conditions: lengths.
-/
import Derived.Test.YtcmiboipgngjaaaD
import Derived.Deep.RegionLaw
namespace Go.Proofs.Ytcmiboipgngjaaa
set_option linter.unusedVariables false
set_option linter.unusedSimpArgs false
open Go.RowKit Go.Maps

theorem info27 : (Try.prog.info? 27).map (fun i => (i.zero, i.size, i.bytes)) = some (some (.agg #[.int .i64 0, .int .i64 0, .bool false]), 3, 24) := by kernel_rfl
theorem info_parts {e : TypeId} {z : Value} {s b : Nat} (h : (Try.prog.info? e).map (fun i => (i.zero, i.size, i.bytes)) = some (some z, s, b)) : ∃ i, Try.prog.info? e = some i ∧ i.zero = some z ∧ i.size = s ∧ i.bytes = b := by
  obtain ⟨i, hi, h2⟩ := Option.map_eq_some_iff.1 h
  injection h2 with h2 h3
  injection h3 with h3 h4
  exact ⟨i, hi, h2, h3, h4⟩
section
variable {n : Nat} {w W : World} {F : List Atom} {b i m : Nat} {cs : Array Value} {v : Value} {l : List Lk}
theorem Lk.cells_one (x : Lk) : ∀ u ∈ x.cells, u.oneCell' = true := by intro u hu; simp [Lk.cells] at hu; rcases hu with rfl | rfl | rfl <;> rfl
set_option maxHeartbeats 2000000 in
theorem put_c (h : Own n w W (blkA b cs 59 :: offA 3 v m (cellsK l) :: F)) (hi : cs[i]? = some v) (x : Lk) (hm : m < 1099511627776) :
    Calls Try.prog 27 #[.pointer (some ⟨b, i, none⟩), x.v] W fun e W' => e = .returned (.tuple #[]) ∧ ∃ v', Own n w W' (blkA b (cs.setIfInBounds i v') 59 :: offA 3 v' (m + 1) (cellsK (l ++ [x])) :: F) := by
  have hb : Blk W b cs 59 := h.head
  have ho : offRow W 3 v m (cellsK l) := h.tail.head
  obtain ⟨A, c, rfl⟩ := off_slice ho
  have HO := hide h
  have z0 := (hb.alloc (.cells #[.int .i64 x.th, .int .i64 x.tg, .bool x.al] 27)).cell i
  rw [hi] at z0
  have lb := hb.lt
  obtain ⟨i0, hi0, hz0, hz1, hz2⟩ := info_parts info27
  have nb : (Value.slice A m c).ownBlock ≠ some b := fun e => h.far (a' := offA 3 (.slice A m c) m (cellsK l)) (by simp) b rfl e
  unfold Lk.v
  have HI := hide hi
  clear h hb ho hi
  go_enter Try.func27, Try.ntmps27
  go_wp2
  have HA := hide (HO.out.alloc (.cells #[.int .i64 x.th, .int .i64 x.tg, .bool x.al] 27))
  have q0 : (W.alloc (.cells #[.int .i64 x.th, .int .i64 x.tg, .bool x.al] 27)).cell? ⟨W.heap.size, 0, none⟩ = some (.int .i64 x.th) := by simp
  have q1 : (W.alloc (.cells #[.int .i64 x.th, .int .i64 x.tg, .bool x.al] 27)).cell? ⟨W.heap.size, 1, none⟩ = some (.int .i64 x.tg) := by simp
  have q2 : (W.alloc (.cells #[.int .i64 x.th, .int .i64 x.tg, .bool x.al] 27)).cell? ⟨W.heap.size, 2, none⟩ = some (.bool x.al) := by simp
  generalize W.alloc (.cells #[.int .i64 x.th, .int .i64 x.tg, .bool x.al] 27) = W1 at HA z0 q0 q1 q2 ⊢
  generalize W.heap.size = bx at q0 q1 q2 lb ⊢
  have hA2 := (HA.out.alloc (.cells #[.int .i64 x.th, .int .i64 x.tg, .bool x.al] 27)).drew
  have HA2 := hide hA2
  have hoff := hA2.tail.head
  have hnews : ∀ j u, ([.int .i64 x.th, .int .i64 x.tg, .bool x.al] : List Value)[j]? = some u → ((W1.alloc (.cells #[.int .i64 x.th, .int .i64 x.tg, .bool x.al] 27)).drew).cell? ((⟨W1.heap.size, 0, none⟩ : Addr).add j) = some u := World.news_of_block (cs := #[.int .i64 x.th, .int .i64 x.tg, .bool x.al]) (t := 27) (fr := (0, 0)) (heap_alloc_new W1 _)
  have zA : (W1.alloc (.cells #[.int .i64 x.th, .int .i64 x.tg, .bool x.al] 27)).cell? ⟨b, i, none⟩ = some (.slice A m c) := (hA2.head.cell i).trans HI.out
  clear hA2
  go_region_law (first
    | (refine step_append_off (by rfl) _ _ _ (by rfl) 27 i0 _ 3 24 Try.underlying38 hi0 hz0 hz1 hz2 rfl (.slice A m c) m (cellsK l) (by rfl) hoff ⟨W1.heap.size, 0, none⟩ 1 1 [.int .i64 x.th, .int .i64 x.tg, .bool x.al] (by rfl) (by rfl) hnews (by simp [Value.oneCell']) (by unfold maxLen; omega) (by omega) (by omega) ?_; intro v' w' hr hg hv; obtain ⟨A', c', rfl⟩ := off_slice hr; have H5 := hide (HA2.out.swap.growOff hr hg hv); have zb := (H5.out.tail.head.cell i).trans HI.out; have zf := H5.out.tail.head.frozen i; clear hr hg hv))
  all_goals
    go_wp2
    go_end0
    have h6 := H5.out.swap.setBlk i (.slice A' (m + 1) c')
    rw [cellsK_append]
    exact ⟨rfl, _, h6⟩
end
end Go.Proofs.Ytcmiboipgngjaaa
