/-
  The contracts of maps.Keys and slices.Sorted at the graph's maps: the keys, rising, in a new row. Condition: the map has at most 2^43 keys.
-/
import Derived.Test.YtlpdhmkcbdhelaaA
import Derived.Test.YtlpdhmkcbdhelaaKl
namespace Go.Proofs.Ytlpdhmkcbdhelaa
set_option linter.unusedVariables false
set_option linter.unusedSimpArgs false
open Go.RowKit Go.Maps Go.Sort Go.Shelf

/-- whole numbers in rising order, each once -/
def Rising (l : List Int) : Prop := l.Pairwise (fun a b => a < b)
theorem rising_of_sort {l : List Int} (h : l.Nodup) : Rising (l.mergeSort (fun x y => decide (x ≤ y))) := by
  have h1 : (l.mergeSort (fun x y => decide (x ≤ y))).Pairwise (fun a b => decide (a ≤ b) = true) :=
    List.pairwise_mergeSort (fun a b c h1 h2 => by simp only [decide_eq_true_eq] at *; omega) (fun a b => by simp only [Bool.or_eq_true, decide_eq_true_eq]; omega) l
  have h2 : (l.mergeSort (fun x y => decide (x ≤ y))).Nodup := (List.mergeSort_perm l _).nodup_iff.2 h
  exact (h1.and h2).imp (fun {a b} h => by have h3 := h.1; have h4 := h.2; simp only [decide_eq_true_eq] at h3; omega)
theorem rising_ext {a b : List Int} (ha : Rising a) (hb : Rising b) (h : ∀ x, x ∈ a ↔ x ∈ b) : a = b := by
  have na : a.Nodup := ha.imp (fun h => by omega)
  have nb : b.Nodup := hb.imp (fun h => by omega)
  exact List.Perm.eq_of_pairwise (le := fun a b => a < b) (fun a b _ _ h1 h2 => by omega) ha hb ((List.perm_ext_iff_of_nodup na nb).2 h)
theorem sortsIn_c (m : Nat) : AnyZI.SortsIn Try.prog Try.sortedA_ren Fence.wide m :=
  ⟨fun blk off cap ss W hH hblk hsz => callsIn_wide.2 (AnyM.slices_Sort_int Try.sortA blk off cap ss W hH hblk hsz),
   fun p cap W => callsIn_wide.2 (AnyM.slices_Sort_int_none Try.sortA p cap W)⟩
theorem sort_c (blk off cap : Nat) (ss : List Int) (W : World) (hH : Holds encZ W blk off ss.toArray) (hblk : blk < W.heap.size) (hsz : ss.length < 4611686018427387904) :
    Calls Try.prog 47 #[.slice (some ⟨blk, off, none⟩) ss.length cap] W fun e w' => e = .returned (.tuple #[]) ∧ ∃ k os, w' = grow (putRow encZ (Sort.ahead W k) blk off (ss.mergeSort fun x y => decide (x ≤ y)).toArray) os :=
  AnyM.slices_Sort_int Try.sortA blk off cap ss W hH hblk hsz

theorem keys35_c (mb : Option Nat) (W : World) : Calls Try.prog 35 #[.map mb] W fun e w' => e = .returned (.func (.func 48) #[] #[.pointer (some ⟨W.heap.size, 0, none⟩)]) ∧ w' = W.alloc (.cells #[.map mb] 55) :=
  (callsIn_wide (n := 6)).1 (AnyZI.keys_in Try.keysI Fence.wide 6 trivial rfl mb W)
set_option maxHeartbeats 1000000 in
theorem sortedI_c (Bm b s : Nat) (f : Int → Option Value) (W : World) (hm : W.cell? ⟨Bm, 0, none⟩ = some (.map (some b))) (hown : OwnV Try.prog 3 W b f s) (hs : s ≤ 8796093022208) :
    Calls Try.prog 34 #[.func (.func 48) #[] #[.pointer (some ⟨Bm, 0, none⟩)]] W fun e w' => ∃ (v : Value) (xs : List Int), e = .returned v ∧ Rising xs ∧ (∀ x, x ∈ xs ↔ (f x).isSome = true) ∧
      w'.ownsRow W.heap.size 3 1 v xs.length (ints xs) ∧ Below W.heap.size W w' := by
  obtain ⟨D, h1, h2, h3, h4, h5, h6⟩ := hown.keys Try.underlying3
  have hmax : Maps.size D ≤ maxLen := by unfold maxLen; omega
  have hbytes : Maps.size D * 8 ≤ 140737488355328 := by omega
  have hBm : Bm < W.heap.size := World.block_lt_of_cell? _ _ hm
  have hseq : SeqGives Fence.wide 3 Try.prog 48 #[.pointer (some ⟨Bm, 0, none⟩)] encZ (fun ss => ss.Perm (intKeys D)) (Maps.size D) W :=
    AnyZI.keys_gives (ρ := Try.keysI_ren) { Try.keysI with } Fence.wide _ trivial rfl (by omega) Bm b s D _ hBm hm h1
  have cS := AnyZI.sorted_in Try.sortedA Fence.wide 6 trivial trivial trivial trivial rfl (by omega) (sortsIn_c _) (enters_of Try.func47 (by kernel_rfl) rfl) 48 #[.pointer (some ⟨Bm, 0, none⟩)] trivial (enters_of Try.func48 (by kernel_rfl) rfl) _ _ hmax hbytes _ hseq
  change CallsIn _ _ Try.prog 34 _ _ _ at cS
  refine ((callsIn_wide (n := 6)).1 cS).mono ?_
  rintro e w' ⟨v, ss, rfl, hS, hrow, hnil, hb⟩
  have hp := List.mergeSort_perm ss (fun x y => decide (x ≤ y))
  refine ⟨v, ss.mergeSort (fun x y => decide (x ≤ y)), rfl, rising_of_sort (hS.nodup_iff.2 h3), fun x => ?_, ?_, hb⟩
  · rw [hp.mem_iff, hS.mem_iff, h5]
  · rw [hp.length_eq]; exact hrow
set_option maxHeartbeats 1000000 in
theorem sortedI_nil (Bm : Nat) (W : World) (hm : W.cell? ⟨Bm, 0, none⟩ = some (.map none)) :
    Calls Try.prog 34 #[.func (.func 48) #[] #[.pointer (some ⟨Bm, 0, none⟩)]] W fun e w' => e = .returned (.slice none 0 0) ∧ Below W.heap.size W w' := by
  have hBm : Bm < W.heap.size := World.block_lt_of_cell? _ _ hm
  have hseq : SeqGives Fence.wide 3 Try.prog 48 #[.pointer (some ⟨Bm, 0, none⟩)] encZ (fun ss : List Int => ss = []) 0 W :=
    AnyZI.keys_gives_nil (ρ := Try.keysI_ren) { Try.keysI with } Fence.wide _ trivial rfl Bm _ hBm hm
  have cS := AnyZI.sorted_in Try.sortedA Fence.wide 6 trivial trivial trivial trivial rfl (by omega) (sortsIn_c _) (enters_of Try.func47 (by kernel_rfl) rfl) 48 #[.pointer (some ⟨Bm, 0, none⟩)] trivial (enters_of Try.func48 (by kernel_rfl) rfl) _ 0 (Nat.zero_le _) (by omega) _ hseq
  change CallsIn _ _ Try.prog 34 _ _ _ at cS
  refine ((callsIn_wide (n := 6)).1 cS).mono ?_
  rintro e w' ⟨v, ss, rfl, rfl, hrow, hnil, hb⟩
  exact ⟨by rw [hnil.2 rfl], hb⟩

theorem keys38_c (mb : Option Nat) (W : World) : Calls Try.prog 38 #[.map mb] W fun e w' => e = .returned (.func (.func 49) #[] #[.pointer (some ⟨W.heap.size, 0, none⟩)]) ∧ w' = W.alloc (.cells #[.map mb] 54) :=
  (callsIn_wide (n := 6)).1 (AnyZI.keys_in Try.keysS Fence.wide 6 trivial rfl mb W)
set_option maxHeartbeats 1000000 in
theorem sortedS_c (Bm b s : Nat) (f : Int → Option Value) (W : World) (hm : W.cell? ⟨Bm, 0, none⟩ = some (.map (some b))) (hown : OwnV Try.prog 3 W b f s) (hs : s ≤ 8796093022208) :
    Calls Try.prog 34 #[.func (.func 49) #[] #[.pointer (some ⟨Bm, 0, none⟩)]] W fun e w' => ∃ (v : Value) (xs : List Int), e = .returned v ∧ Rising xs ∧ (∀ x, x ∈ xs ↔ (f x).isSome = true) ∧
      w'.ownsRow W.heap.size 3 1 v xs.length (ints xs) ∧ Below W.heap.size W w' := by
  obtain ⟨D, h1, h2, h3, h4, h5, h6⟩ := hown.keys Try.underlying3
  have hmax : Maps.size D ≤ maxLen := by unfold maxLen; omega
  have hbytes : Maps.size D * 8 ≤ 140737488355328 := by omega
  have hBm : Bm < W.heap.size := World.block_lt_of_cell? _ _ hm
  have hseq : SeqGives Fence.wide 3 Try.prog 49 #[.pointer (some ⟨Bm, 0, none⟩)] encZ (fun ss => ss.Perm (intKeys D)) (Maps.size D) W :=
    AnyZI.keys_gives (ρ := Try.keysS_ren) { Try.keysS with } Fence.wide _ trivial rfl (by omega) Bm b s D _ hBm hm h1
  have cS := AnyZI.sorted_in Try.sortedA Fence.wide 6 trivial trivial trivial trivial rfl (by omega) (sortsIn_c _) (enters_of Try.func47 (by kernel_rfl) rfl) 49 #[.pointer (some ⟨Bm, 0, none⟩)] trivial (enters_of Try.func49 (by kernel_rfl) rfl) _ _ hmax hbytes _ hseq
  change CallsIn _ _ Try.prog 34 _ _ _ at cS
  refine ((callsIn_wide (n := 6)).1 cS).mono ?_
  rintro e w' ⟨v, ss, rfl, hS, hrow, hnil, hb⟩
  have hp := List.mergeSort_perm ss (fun x y => decide (x ≤ y))
  refine ⟨v, ss.mergeSort (fun x y => decide (x ≤ y)), rfl, rising_of_sort (hS.nodup_iff.2 h3), fun x => ?_, ?_, hb⟩
  · rw [hp.mem_iff, hS.mem_iff, h5]
  · rw [hp.length_eq]; exact hrow
set_option maxHeartbeats 1000000 in
theorem sortedS_nil (Bm : Nat) (W : World) (hm : W.cell? ⟨Bm, 0, none⟩ = some (.map none)) :
    Calls Try.prog 34 #[.func (.func 49) #[] #[.pointer (some ⟨Bm, 0, none⟩)]] W fun e w' => e = .returned (.slice none 0 0) ∧ Below W.heap.size W w' := by
  have hBm : Bm < W.heap.size := World.block_lt_of_cell? _ _ hm
  have hseq : SeqGives Fence.wide 3 Try.prog 49 #[.pointer (some ⟨Bm, 0, none⟩)] encZ (fun ss : List Int => ss = []) 0 W :=
    AnyZI.keys_gives_nil (ρ := Try.keysS_ren) { Try.keysS with } Fence.wide _ trivial rfl Bm _ hBm hm
  have cS := AnyZI.sorted_in Try.sortedA Fence.wide 6 trivial trivial trivial trivial rfl (by omega) (sortsIn_c _) (enters_of Try.func47 (by kernel_rfl) rfl) 49 #[.pointer (some ⟨Bm, 0, none⟩)] trivial (enters_of Try.func49 (by kernel_rfl) rfl) _ 0 (Nat.zero_le _) (by omega) _ hseq
  change CallsIn _ _ Try.prog 34 _ _ _ at cS
  refine ((callsIn_wide (n := 6)).1 cS).mono ?_
  rintro e w' ⟨v, ss, rfl, rfl, hrow, hnil, hb⟩
  exact ⟨by rw [hnil.2 rfl], hb⟩

theorem keys39_c (mb : Option Nat) (W : World) : Calls Try.prog 39 #[.map mb] W fun e w' => e = .returned (.func (.func 50) #[] #[.pointer (some ⟨W.heap.size, 0, none⟩)]) ∧ w' = W.alloc (.cells #[.map mb] 62) :=
  (callsIn_wide (n := 6)).1 (AnyZI.keys_in Try.keysB Fence.wide 6 trivial rfl mb W)
set_option maxHeartbeats 1000000 in
theorem sortedB_c (Bm b s : Nat) (f : Int → Option Value) (W : World) (hm : W.cell? ⟨Bm, 0, none⟩ = some (.map (some b))) (hown : OwnV Try.prog 3 W b f s) (hs : s ≤ 8796093022208) :
    Calls Try.prog 34 #[.func (.func 50) #[] #[.pointer (some ⟨Bm, 0, none⟩)]] W fun e w' => ∃ (v : Value) (xs : List Int), e = .returned v ∧ Rising xs ∧ (∀ x, x ∈ xs ↔ (f x).isSome = true) ∧
      w'.ownsRow W.heap.size 3 1 v xs.length (ints xs) ∧ Below W.heap.size W w' := by
  obtain ⟨D, h1, h2, h3, h4, h5, h6⟩ := hown.keys Try.underlying3
  have hmax : Maps.size D ≤ maxLen := by unfold maxLen; omega
  have hbytes : Maps.size D * 8 ≤ 140737488355328 := by omega
  have hBm : Bm < W.heap.size := World.block_lt_of_cell? _ _ hm
  have hseq : SeqGives Fence.wide 3 Try.prog 50 #[.pointer (some ⟨Bm, 0, none⟩)] encZ (fun ss => ss.Perm (intKeys D)) (Maps.size D) W :=
    AnyZI.keys_gives (ρ := Try.keysB_ren) { Try.keysB with } Fence.wide _ trivial rfl (by omega) Bm b s D _ hBm hm h1
  have cS := AnyZI.sorted_in Try.sortedA Fence.wide 6 trivial trivial trivial trivial rfl (by omega) (sortsIn_c _) (enters_of Try.func47 (by kernel_rfl) rfl) 50 #[.pointer (some ⟨Bm, 0, none⟩)] trivial (enters_of Try.func50 (by kernel_rfl) rfl) _ _ hmax hbytes _ hseq
  change CallsIn _ _ Try.prog 34 _ _ _ at cS
  refine ((callsIn_wide (n := 6)).1 cS).mono ?_
  rintro e w' ⟨v, ss, rfl, hS, hrow, hnil, hb⟩
  have hp := List.mergeSort_perm ss (fun x y => decide (x ≤ y))
  refine ⟨v, ss.mergeSort (fun x y => decide (x ≤ y)), rfl, rising_of_sort (hS.nodup_iff.2 h3), fun x => ?_, ?_, hb⟩
  · rw [hp.mem_iff, hS.mem_iff, h5]
  · rw [hp.length_eq]; exact hrow
set_option maxHeartbeats 1000000 in
theorem sortedB_nil (Bm : Nat) (W : World) (hm : W.cell? ⟨Bm, 0, none⟩ = some (.map none)) :
    Calls Try.prog 34 #[.func (.func 50) #[] #[.pointer (some ⟨Bm, 0, none⟩)]] W fun e w' => e = .returned (.slice none 0 0) ∧ Below W.heap.size W w' := by
  have hBm : Bm < W.heap.size := World.block_lt_of_cell? _ _ hm
  have hseq : SeqGives Fence.wide 3 Try.prog 50 #[.pointer (some ⟨Bm, 0, none⟩)] encZ (fun ss : List Int => ss = []) 0 W :=
    AnyZI.keys_gives_nil (ρ := Try.keysB_ren) { Try.keysB with } Fence.wide _ trivial rfl Bm _ hBm hm
  have cS := AnyZI.sorted_in Try.sortedA Fence.wide 6 trivial trivial trivial trivial rfl (by omega) (sortsIn_c _) (enters_of Try.func47 (by kernel_rfl) rfl) 50 #[.pointer (some ⟨Bm, 0, none⟩)] trivial (enters_of Try.func50 (by kernel_rfl) rfl) _ 0 (Nat.zero_le _) (by omega) _ hseq
  change CallsIn _ _ Try.prog 34 _ _ _ at cS
  refine ((callsIn_wide (n := 6)).1 cS).mono ?_
  rintro e w' ⟨v, ss, rfl, rfl, hrow, hnil, hb⟩
  exact ⟨by rw [hnil.2 rfl], hb⟩

end Go.Proofs.Ytlpdhmkcbdhelaa