/-
  The contracts of maps.Keys, slices.Sorted and slices.Sort at the table's maps. Condition: at most 2^43 of them.
-/
import Derived.Test.YtcmiboipgngjaaaZ
import Derived.Test.YtcmiboipgngjaaaKl
import Derived.Sort.OwnSortedInts
namespace Go.Proofs.Ytcmiboipgngjaaa
set_option linter.unusedVariables false
set_option linter.unusedSimpArgs false
open Go.RowKit Go.Maps Go.Sort Go.Shelf

def ints (l : List Int) : List Value := l.map (Value.int .i64)
theorem ints_len (l : List Int) : (ints l).length = l.length := List.length_map _
/-- whole numbers in rising order, each once -/
def Rising (l : List Int) : Prop := l.Pairwise (fun a b => a < b)
def sortI (l : List Int) : List Int := l.mergeSort (fun x y => decide (x ≤ y))
theorem rising_of_sort {l : List Int} (h : l.Nodup) : Rising (sortI l) := by
  have h1 : (l.mergeSort (fun x y => decide (x ≤ y))).Pairwise (fun a b => decide (a ≤ b) = true) :=
    List.pairwise_mergeSort (fun a b c h1 h2 => by simp only [decide_eq_true_eq] at *; omega) (fun a b => by simp only [Bool.or_eq_true, decide_eq_true_eq]; omega) l
  have h2 : (l.mergeSort (fun x y => decide (x ≤ y))).Nodup := (List.mergeSort_perm l _).nodup_iff.2 h
  exact (h1.and h2).imp (fun {a b} h => by have h3 := h.1; have h4 := h.2; simp only [decide_eq_true_eq] at h3; omega)
theorem rising_ext {a b : List Int} (ha : Rising a) (hb : Rising b) (h : ∀ x, x ∈ a ↔ x ∈ b) : a = b := by
  have na : a.Nodup := ha.imp (fun h => by omega)
  have nb : b.Nodup := hb.imp (fun h => by omega)
  exact List.Perm.eq_of_pairwise (le := fun a b => a < b) (fun a b _ _ h1 h2 => by omega) ha hb ((List.perm_ext_iff_of_nodup na nb).2 h)
theorem sortsIn_c (m : Nat) : AnyZI.SortsIn Try.prog Try.sortedA_ren Fence.wide m :=
  ⟨fun blk off cap ss W hH hblk hsz => callsIn_wide.2 (AnyM.slices_Sort_int Try.sortA blk off cap ss W hH hblk hsz),
   fun p cap W => callsIn_wide.2 (AnyM.slices_Sort_int_none Try.sortA p cap W)⟩
theorem keys31_c (mb : Option Nat) (W : World) : Calls Try.prog 31 #[.map mb] W fun e w' => e = .returned (.func (.func 42) #[] #[.pointer (some ⟨W.heap.size, 0, none⟩)]) ∧ w' = W.alloc (.cells #[.map mb] 51) :=
  (callsIn_wide (n := 6)).1 (AnyZI.keys_in Try.keysS Fence.wide 6 trivial rfl mb W)
set_option maxHeartbeats 1000000 in
theorem sorted30_c (Bm b s : Nat) (f : Int → Option Value) (W : World) (hm : W.cell? ⟨Bm, 0, none⟩ = some (.map (some b))) (hown : OwnV Try.prog 3 W b f s) (hs : s ≤ 8796093022208) :
    Calls Try.prog 30 #[.func (.func 42) #[] #[.pointer (some ⟨Bm, 0, none⟩)]] W fun e w' => ∃ (v : Value) (xs : List Int), e = .returned v ∧ Rising xs ∧ (∀ x, x ∈ xs ↔ (f x).isSome = true) ∧
      w'.ownsRow W.heap.size 3 1 v xs.length (ints xs) ∧ Below W.heap.size W w' := by
  obtain ⟨D, h1, h2, h3, h4, h5, h6⟩ := hown.keys Try.underlying3
  have hmax : Maps.size D ≤ maxLen := by unfold maxLen; omega
  have hbytes : Maps.size D * 8 ≤ 140737488355328 := by omega
  have hBm : Bm < W.heap.size := World.block_lt_of_cell? _ _ hm
  have hseq : SeqGives Fence.wide 3 Try.prog 42 #[.pointer (some ⟨Bm, 0, none⟩)] encZ (fun ss => ss.Perm (intKeys D)) (Maps.size D) W :=
    AnyZI.keys_gives (ρ := Try.keysS_ren) { Try.keysS with } Fence.wide _ trivial rfl (by omega) Bm b s D _ hBm hm h1
  have cS := AnyZI.sorted_in Try.sortedA Fence.wide 6 trivial trivial trivial trivial rfl (by omega) (sortsIn_c _) (enters_of Try.func34 (by kernel_rfl) rfl) 42 #[.pointer (some ⟨Bm, 0, none⟩)] trivial (enters_of Try.func42 (by kernel_rfl) rfl) _ _ hmax hbytes _ hseq
  change CallsIn _ _ Try.prog 30 _ _ _ at cS
  refine ((callsIn_wide (n := 6)).1 cS).mono ?_
  rintro e w' ⟨v, ss, rfl, hS, hrow, hnil, hb⟩
  have hp := List.mergeSort_perm ss (fun x y => decide (x ≤ y))
  refine ⟨v, sortI ss, rfl, rising_of_sort (hS.nodup_iff.2 h3), fun x => ?_, ?_, hb⟩
  · unfold sortI; rw [hp.mem_iff, hS.mem_iff, h5]
  · unfold sortI; rw [hp.length_eq]; exact hrow
section
variable {n : Nat} {w W : World} {F : List Atom} {A : Option Addr} {c : Nat} {xs : List Int}
theorem sortI_len (xs : List Int) : (sortI xs).length = xs.length := (List.mergeSort_perm xs _).length_eq
theorem sort34_c (h : Own n w W (rowA 3 1 (.slice A xs.length c) xs.length (ints xs) :: F)) (hl : xs.length < 1099511627776) :
    Calls Try.prog 34 #[.slice A xs.length c] W fun e W' => e = .returned (.tuple #[]) ∧ Own n w W' (rowA 3 1 (.slice A xs.length c) xs.length (ints (sortI xs)) :: F) := by
  have hr : W.ownsRow 0 3 1 (.slice A xs.length c) xs.length (ints xs) := h.head
  rcases hr.2 with ⟨h2, h3⟩ | ⟨g, cap, cur, h2, hb, hg, h3, h4, h5, h6⟩
  · have hx : xs = [] := List.eq_nil_of_length_eq_zero h3
    subst hx
    refine (AnyM.slices_Sort_int_none Try.sortA A c W).mono ?_
    rintro e W' ⟨rfl, rfl⟩
    exact ⟨rfl, by rw [show sortI [] = [] from by simp [sortI]]; exact h⟩
  · cases h2
    have hH : Holds encZ W g 0 xs.toArray := holds_of_blockI hg (by rw [Nat.mul_one] at h6; exact h6)
    refine (AnyM.slices_Sort_int Try.sortA g 0 c xs W hH (Array.getElem?_eq_some_iff.1 hg).1 (by omega)).mono ?_
    rintro e W' ⟨rfl, k, os, rfl⟩
    have hq := ownsRow_sortedI (n := k) (os := os) (ts := sortI xs) (base := 0) (sortI_len xs) (Nat.zero_le _) hg h3 h4 h5
    exact ⟨rfl, h.grow (a' := rowA 3 1 (.slice (some ⟨g, 0, none⟩) xs.length c) xs.length (ints (sortI xs))) (grownBy_sortedI _) (fun k hk => .inl hk) hq⟩
end
end Go.Proofs.Ytcmiboipgngjaaa
