/-
  The contract of the laws' own example: it holds, and writes nothing that was there.
-/
import Derived.Test.YtegkgcdcglaemaaC
import Derived.Deep.DeepMust
namespace Go.Proofs.Ytegkgcdcglaemaa
set_option linter.unusedSimpArgs false
set_option linter.unusedVariables false
open Go.RowKit Go.Maps

theorem meta_n (A : Option Addr) (n c : Nat) (zs : List Int) (w : World) (hn : zs.length = n) (hz : Ints w.heap.size w A zs) (hi : ∀ n ∈ zs, I64 n) (hl : n ≤ 1000000) :
    Calls Try.prog 9 #[.slice A n c] w fun e w' => e = .returned (.int .i64 (metaS zs).length) ∧ Below w.heap.size w w' := by
  subst hn; exact meta_c A c zs w hz hi hl
theorem metaR_n (A : Option Addr) (n c : Nat) (zs : List Int) (w : World) (hn : zs.length = n) (hz : Ints w.heap.size w A zs) (hi : ∀ n ∈ zs, I64 n) (hl : n ≤ 1000000) :
    Calls Try.prog 10 #[.slice A n c] w fun e w' => e = .returned (.int .i64 (metaS zs).length) ∧ Below w.heap.size w w' := by
  subst hn; exact metaR_c A c zs w hz hi hl

theorem ex_ints (w : World) : Ints (w.alloc (.cells #[.int .i64 0, .int .i64 8, .int .i64 264] 3)).heap.size (w.alloc (.cells #[.int .i64 0, .int .i64 8, .int .i64 264] 3)) (some ⟨w.heap.size, 0, none⟩) [0, 8, 264] := fun _ => by
  refine ⟨_, _, rfl, by simp, fun i hi => ?_⟩
  have : (w.alloc (.cells #[.int .i64 0, .int .i64 8, .int .i64 264] 3)).heap[w.heap.size]? = some (.cells #[.int .i64 0, .int .i64 8, .int .i64 264] 3 (0, 0)) := heap_alloc_new w _
  unfold World.cell?
  rw [this]
  match i, hi with
  | 0, _ => rfl
  | 1, _ => rfl
  | 2, _ => rfl
theorem ex_i64 : ∀ n ∈ [(0 : Int), 8, 264], I64 n := by simp [I64]
theorem ex_meta : (metaS [0, 8, 264]).length = 3 := by decide

set_option maxHeartbeats 1000000 in
theorem alive_c (w : World) : Calls Try.prog 8 #[] w fun e w' => e = .returned (.bool true) ∧ Below w.heap.size w w' := by
  have E := hide (show plN 8 = (1, 0, 0, true) by decide)
  have X := hide (ex_ints w)
  have M := hide ex_meta
  go_enter Try.func8, Try.ntmps8
  go_wp2_with (first | (go_at_call 11; refine (place_c 8 _ (by omega) (by omega)).mono ?_; rintro e w' ⟨rfl, rfl⟩; rw [E.out]; simp only [plV]) | (go_at_call 9; go_must (refine (meta_n _ 3 _ [0, 8, 264] _ rfl X.out ex_i64 (by omega)).mono ?_); rintro e w1 ⟨rfl, hb⟩; rw [M.out]))
  go_ret
  exact ⟨rfl, ((Below.refl _ _).alloc (Nat.le_refl _) _).trans (hb.mono (by simp))⟩
end Go.Proofs.Ytegkgcdcglaemaa
