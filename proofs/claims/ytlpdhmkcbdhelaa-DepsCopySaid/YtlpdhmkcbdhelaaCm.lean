/-
  maps.Clone at the two kinds of maps. No condition.
-/
import Derived.Test.YtlpdhmkcbdhelaaI
import Derived.Test.YtlpdhmkcbdhelaaProg
import Derived.KernelRfl
import Derived.WalkKit
namespace Go.Proofs.Ytlpdhmkcbdhelaa
set_option linter.unusedVariables false
set_option linter.unusedSimpArgs false
open Go.RowKit Go.Maps

theorem clone43_c {W : World} {b : Nat} {es : Array MapEntry} {clock : Nat} (hb : W.heap[b]? = some (.map es clock)) :
    Calls Try.prog 43 #[.map (some b)] W fun e W' => e = .returned (.map (some W.heap.size)) ∧ W' = W.alloc (.map es clock) := by
  have hq := fun w => run_eql_map_nilV (P := Try.prog) w 55 _ _ (some b) Try.underlying55
  go_enter Try.func43, Try.ntmps43
  go_wp2
  rw [run_callFunc_extern Try.func51 (by kernel_rfl) (by kernel_rfl) (by kernel_rfl) (e := Extern.MapsClone.clone) (by kernel_rfl), run_maps_cloneV W 55 hb]
  simp only [Result.andThen]
  rw [Oper.upon_value]
  clear hq hb

  have hta := fun v w => run_typeAssert_mapV (P := Try.prog) w 55 20 _ _ v Try.underlying55
  go_wp2
  go_ret
  exact ⟨rfl, rfl⟩
theorem clone44_c {W : World} {b : Nat} {es : Array MapEntry} {clock : Nat} (hb : W.heap[b]? = some (.map es clock)) :
    Calls Try.prog 44 #[.map (some b)] W fun e W' => e = .returned (.map (some W.heap.size)) ∧ W' = W.alloc (.map es clock) := by
  have hq := fun w => run_eql_map_nilV (P := Try.prog) w 62 _ _ (some b) Try.underlying62
  go_enter Try.func44, Try.ntmps44
  go_wp2
  rw [run_callFunc_extern Try.func51 (by kernel_rfl) (by kernel_rfl) (by kernel_rfl) (e := Extern.MapsClone.clone) (by kernel_rfl), run_maps_cloneV W 62 hb]
  simp only [Result.andThen]
  rw [Oper.upon_value]
  clear hq hb

  have hta := fun v w => run_typeAssert_mapV (P := Try.prog) w 62 20 _ _ v Try.underlying62
  go_wp2
  go_ret
  exact ⟨rfl, rfl⟩
end Go.Proofs.Ytlpdhmkcbdhelaa
