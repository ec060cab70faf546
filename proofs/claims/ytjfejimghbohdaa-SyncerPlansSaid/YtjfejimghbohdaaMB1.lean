/-
  The contracts of maps.Keys and slices.Sorted at the graph's maps: the keys, rising, in a new row. Condition: the map has at most 2^37 keys.
  The contracts of deps.New, is, Left, Done. Conditions: the graph's numbers are in their bounds.
  A law of this session for 'for x := range f { .. }' over a function: the iterator's body and the loop's body are walked over ONE invariant of the caller's. No condition on a program.
  The walks of some, its iterator, list, Next and Blocked. Conditions: the graph's numbers are in their bounds.
  The walks of list, some, Next and Blocked. Conditions: the graph's numbers are in their bounds.
-/
import Derived.Test.YtjfejimghbohdaaMB0
import Derived.RangeFuncNested
import Derived.RangeFuncBound
import Derived.RangeFuncCalls
import Derived.RangeFuncLeaves
import Derived.RangeFuncBox
import Derived.Shelf.Abstract
import Derived.Shelf.RegionOpen
import Derived.OwnWalkIn
import Derived.TacticsInMore
import Derived.LoopNIn
import Derived.LoopIn
import Derived.Stop.RegionWithIn
import Derived.Sort.CutIn
import Derived.Sort.QuietIn
import Derived.Maps.OwnIn
namespace Go.Proofs.Ytjfejimghbohdaa
set_option linter.unusedVariables false
set_option linter.unusedSimpArgs false
open Go.RowKit Go.Maps Go.Sort Go.Shelf

/-- whole numbers in rising order, each once -/
def Rising (l : List Int) : Prop := l.Pairwise (fun a b => a < b)
theorem rising_of_sort {l : List Int} (h : l.Nodup) : Rising (l.mergeSort (fun x y => decide (x ≤ y))) := by
  have h1 : (l.mergeSort (fun x y => decide (x ≤ y))).Pairwise (fun a b => decide (a ≤ b) = true) :=
    List.pairwise_mergeSort (fun a b c h1 h2 => by simp only [decide_eq_true_eq] at *; omega) (fun a b => by simp only [Bool.or_eq_true, decide_eq_true_eq]; omega) l
  have h2 : (l.mergeSort (fun x y => decide (x ≤ y))).Nodup := (List.mergeSort_perm l _).nodup_iff.2 h
  exact (h1.and h2).imp (fun {a b} h => by have h3 := h.1; have h4 := h.2; simp only [decide_eq_true_eq] at h3; omega)
theorem rising_ext {a b : List Int} (ha : Rising a) (hb : Rising b) (h : ∀ x, x ∈ a ↔ x ∈ b) : a = b := by
  have na : a.Nodup := ha.imp (fun h => by omega)
  have nb : b.Nodup := hb.imp (fun h => by omega)
  exact List.Perm.eq_of_pairwise (le := fun a b => a < b) (fun a b _ _ h1 h2 => by omega) ha hb ((List.perm_ext_iff_of_nodup na nb).2 h)
theorem sortsIn_c (m : Nat) : AnyZI.SortsIn Try.prog Try.sortedA_ren Fence.wide m :=
  ⟨fun blk off cap ss W hH hblk hsz => callsIn_wide.2 (AnyM.slices_Sort_int Try.sortA blk off cap ss W hH hblk hsz),
   fun p cap W => callsIn_wide.2 (AnyM.slices_Sort_int_none Try.sortA p cap W)⟩
theorem sort_c (blk off cap : Nat) (ss : List Int) (W : World) (hH : Holds encZ W blk off ss.toArray) (hblk : blk < W.heap.size) (hsz : ss.length < 4611686018427387904) :
    Calls Try.prog 49 #[.slice (some ⟨blk, off, none⟩) ss.length cap] W fun e w' => e = .returned (.tuple #[]) ∧ ∃ k os, w' = grow (putRow encZ (Sort.ahead W k) blk off (ss.mergeSort fun x y => decide (x ≤ y)).toArray) os :=
  AnyM.slices_Sort_int Try.sortA blk off cap ss W hH hblk hsz

theorem keys35_c (mb : Option Nat) (W : World) : Calls Try.prog 39 #[.map mb] W fun e w' => e = .returned (.func (.func 51) #[] #[.pointer (some ⟨W.heap.size, 0, none⟩)]) ∧ w' = W.alloc (.cells #[.map mb] 67) :=
  (callsIn_wide (n := 6)).1 (AnyZI.keys_in Try.keysI Fence.wide 6 trivial rfl mb W)
set_option maxHeartbeats 1000000 in
theorem sortedI_c (Bm b s : Nat) (f : Int → Option Value) (W : World) (hm : W.cell? ⟨Bm, 0, none⟩ = some (.map (some b))) (hown : OwnV Try.prog 3 W b f s) (hs : s ≤ 8796093022208) :
    Calls Try.prog 34 #[.func (.func 51) #[] #[.pointer (some ⟨Bm, 0, none⟩)]] W fun e w' => ∃ (v : Value) (xs : List Int), e = .returned v ∧ Rising xs ∧ (∀ x, x ∈ xs ↔ (f x).isSome = true) ∧
      w'.ownsRow W.heap.size 3 1 v xs.length (ints xs) ∧ Below W.heap.size W w' := by
  obtain ⟨D, h1, h2, h3, h4, h5, h6⟩ := hown.keys Try.underlying3
  have hmax : Maps.size D ≤ maxLen := by unfold maxLen; omega
  have hbytes : Maps.size D * 8 ≤ 140737488355328 := by omega
  have hBm : Bm < W.heap.size := World.block_lt_of_cell? _ _ hm
  have hseq : SeqGives Fence.wide 3 Try.prog 51 #[.pointer (some ⟨Bm, 0, none⟩)] encZ (fun ss => ss.Perm (intKeys D)) (Maps.size D) W :=
    AnyZI.keys_gives (ρ := Try.keysI_ren) { Try.keysI with } Fence.wide _ trivial rfl (by omega) Bm b s D _ hBm hm h1
  have cS := AnyZI.sorted_in Try.sortedA Fence.wide 6 trivial trivial trivial trivial rfl (by omega) (sortsIn_c _) (enters_of Try.func49 (by kernel_rfl) rfl) 51 #[.pointer (some ⟨Bm, 0, none⟩)] trivial (enters_of Try.func51 (by kernel_rfl) rfl) _ _ hmax hbytes _ hseq
  change CallsIn _ _ Try.prog 34 _ _ _ at cS
  refine ((callsIn_wide (n := 6)).1 cS).mono ?_
  rintro e w' ⟨v, ss, rfl, hS, hrow, hnil, hb⟩
  have hp := List.mergeSort_perm ss (fun x y => decide (x ≤ y))
  refine ⟨v, ss.mergeSort (fun x y => decide (x ≤ y)), rfl, rising_of_sort (hS.nodup_iff.2 h3), fun x => ?_, ?_, hb⟩
  · rw [hp.mem_iff, hS.mem_iff, h5]
  · rw [hp.length_eq]; exact hrow
set_option maxHeartbeats 1000000 in
theorem sortedI_nil (Bm : Nat) (W : World) (hm : W.cell? ⟨Bm, 0, none⟩ = some (.map none)) :
    Calls Try.prog 34 #[.func (.func 51) #[] #[.pointer (some ⟨Bm, 0, none⟩)]] W fun e w' => e = .returned (.slice none 0 0) ∧ Below W.heap.size W w' := by
  have hBm : Bm < W.heap.size := World.block_lt_of_cell? _ _ hm
  have hseq : SeqGives Fence.wide 3 Try.prog 51 #[.pointer (some ⟨Bm, 0, none⟩)] encZ (fun ss : List Int => ss = []) 0 W :=
    AnyZI.keys_gives_nil (ρ := Try.keysI_ren) { Try.keysI with } Fence.wide _ trivial rfl Bm _ hBm hm
  have cS := AnyZI.sorted_in Try.sortedA Fence.wide 6 trivial trivial trivial trivial rfl (by omega) (sortsIn_c _) (enters_of Try.func49 (by kernel_rfl) rfl) 51 #[.pointer (some ⟨Bm, 0, none⟩)] trivial (enters_of Try.func51 (by kernel_rfl) rfl) _ 0 (Nat.zero_le _) (by omega) _ hseq
  change CallsIn _ _ Try.prog 34 _ _ _ at cS
  refine ((callsIn_wide (n := 6)).1 cS).mono ?_
  rintro e w' ⟨v, ss, rfl, rfl, hrow, hnil, hb⟩
  exact ⟨by rw [hnil.2 rfl], hb⟩

theorem keys39_c (mb : Option Nat) (W : World) : Calls Try.prog 35 #[.map mb] W fun e w' => e = .returned (.func (.func 50) #[] #[.pointer (some ⟨W.heap.size, 0, none⟩)]) ∧ w' = W.alloc (.cells #[.map mb] 71) :=
  (callsIn_wide (n := 6)).1 (AnyZI.keys_in Try.keysB Fence.wide 6 trivial rfl mb W)
set_option maxHeartbeats 1000000 in
theorem sortedB_c (Bm b s : Nat) (f : Int → Option Value) (W : World) (hm : W.cell? ⟨Bm, 0, none⟩ = some (.map (some b))) (hown : OwnV Try.prog 3 W b f s) (hs : s ≤ 8796093022208) :
    Calls Try.prog 34 #[.func (.func 50) #[] #[.pointer (some ⟨Bm, 0, none⟩)]] W fun e w' => ∃ (v : Value) (xs : List Int), e = .returned v ∧ Rising xs ∧ (∀ x, x ∈ xs ↔ (f x).isSome = true) ∧
      w'.ownsRow W.heap.size 3 1 v xs.length (ints xs) ∧ Below W.heap.size W w' := by
  obtain ⟨D, h1, h2, h3, h4, h5, h6⟩ := hown.keys Try.underlying3
  have hmax : Maps.size D ≤ maxLen := by unfold maxLen; omega
  have hbytes : Maps.size D * 8 ≤ 140737488355328 := by omega
  have hBm : Bm < W.heap.size := World.block_lt_of_cell? _ _ hm
  have hseq : SeqGives Fence.wide 3 Try.prog 50 #[.pointer (some ⟨Bm, 0, none⟩)] encZ (fun ss => ss.Perm (intKeys D)) (Maps.size D) W :=
    AnyZI.keys_gives (ρ := Try.keysB_ren) { Try.keysB with } Fence.wide _ trivial rfl (by omega) Bm b s D _ hBm hm h1
  have cS := AnyZI.sorted_in Try.sortedA Fence.wide 6 trivial trivial trivial trivial rfl (by omega) (sortsIn_c _) (enters_of Try.func49 (by kernel_rfl) rfl) 50 #[.pointer (some ⟨Bm, 0, none⟩)] trivial (enters_of Try.func50 (by kernel_rfl) rfl) _ _ hmax hbytes _ hseq
  change CallsIn _ _ Try.prog 34 _ _ _ at cS
  refine ((callsIn_wide (n := 6)).1 cS).mono ?_
  rintro e w' ⟨v, ss, rfl, hS, hrow, hnil, hb⟩
  have hp := List.mergeSort_perm ss (fun x y => decide (x ≤ y))
  refine ⟨v, ss.mergeSort (fun x y => decide (x ≤ y)), rfl, rising_of_sort (hS.nodup_iff.2 h3), fun x => ?_, ?_, hb⟩
  · rw [hp.mem_iff, hS.mem_iff, h5]
  · rw [hp.length_eq]; exact hrow
set_option maxHeartbeats 1000000 in
theorem sortedB_nil (Bm : Nat) (W : World) (hm : W.cell? ⟨Bm, 0, none⟩ = some (.map none)) :
    Calls Try.prog 34 #[.func (.func 50) #[] #[.pointer (some ⟨Bm, 0, none⟩)]] W fun e w' => e = .returned (.slice none 0 0) ∧ Below W.heap.size W w' := by
  have hBm : Bm < W.heap.size := World.block_lt_of_cell? _ _ hm
  have hseq : SeqGives Fence.wide 3 Try.prog 50 #[.pointer (some ⟨Bm, 0, none⟩)] encZ (fun ss : List Int => ss = []) 0 W :=
    AnyZI.keys_gives_nil (ρ := Try.keysB_ren) { Try.keysB with } Fence.wide _ trivial rfl Bm _ hBm hm
  have cS := AnyZI.sorted_in Try.sortedA Fence.wide 6 trivial trivial trivial trivial rfl (by omega) (sortsIn_c _) (enters_of Try.func49 (by kernel_rfl) rfl) 50 #[.pointer (some ⟨Bm, 0, none⟩)] trivial (enters_of Try.func50 (by kernel_rfl) rfl) _ 0 (Nat.zero_le _) (by omega) _ hseq
  change CallsIn _ _ Try.prog 34 _ _ _ at cS
  refine ((callsIn_wide (n := 6)).1 cS).mono ?_
  rintro e w' ⟨v, ss, rfl, rfl, hrow, hnil, hb⟩
  exact ⟨by rw [hnil.2 rfl], hb⟩

end Go.Proofs.Ytjfejimghbohdaa
namespace Go.Proofs.Ytjfejimghbohdaa
set_option linter.unusedVariables false
set_option linter.unusedSimpArgs false
open Go.RowKit Go.Maps

section
variable {n : Nat} {w W : World} {F ps : List Atom} {st : St} {g : Nat}
theorem new_c (h : Own n w W F) : Calls Try.prog 15 #[] W fun e W' => ∃ g ps, e = .returned (.pointer (some ⟨g, 0, none⟩)) ∧ IsG g zst ps ∧ Own n w W' (ps ++ F) := by
  have H := hide h
  clear h
  have hmm := @run_makeMap Try.prog
  go_enter Try.func15, Try.ntmps15
  go_wp2
  go_ret
  have h1 := H.out.new (.map #[] 0) (mpA W.heap.size (locF [])) rfl ⟨0, OwnV.made W Try.prog 3⟩
  have h2 := h1.new (.map #[] 0) (mpA (W.alloc (.map #[] 0)).heap.size (intF zst.next)) rfl ⟨0, OwnV.made _ Try.prog 3⟩
  have h3 := h2.nilRow 64 5
  have h4 := h3.newBlk #[.slice none 0 0, .map (some W.heap.size), .int .i64 0, .map (some (W.alloc (.map #[] 0)).heap.size)] 69
  refine ⟨_, _, rfl, ⟨.slice none 0 0, [], W.heap.size, (W.alloc (.map #[] 0)).heap.size, [], rfl, rfl, fun x => rfl, by simp⟩, ?_⟩
  have h5 := h4.perm (bs := gParts (((W.alloc (.map #[] 0)).alloc (.map #[] 0)).heap.size) (.slice none 0 0) [] W.heap.size (W.alloc (.map #[] 0)).heap.size zst.opn [] zst.next ++ F) (by
    unfold gParts
    simp only [List.map_nil, List.append_nil, List.nil_append, List.cons_append, List.length_nil]
    exact ((List.Perm.swap _ _ _).cons _).cons _)
  simpa using h5
/-- the graph's cells -/
theorem IsG.open {ps : List Atom} (h : IsG g st ps) (ho : Own n w W (ps ++ F)) : ∃ vl bb nb, Blk W g #[vl, .map (some bb), .int .i64 st.opn, .map (some nb)] 69 ∧ ∃ A c, vl = .slice A st.l.length c := by
  obtain ⟨vl, l, bb, nb, bs, rfl, h1, h2, h3⟩ := h
  have hl : l.length = st.l.length := by rw [← h1, List.length_map]
  have hr : W.ownsRow 0 64 5 vl l.length (cellsL l) := ho.hold (rowA 64 5 vl l.length (cellsL l)) (by simp [gParts])
  obtain ⟨A, c, rfl⟩ := own_slice hr
  exact ⟨.slice A l.length c, bb, nb, ho.hold (blkA g #[.slice A l.length c, .map (some bb), .int .i64 st.opn, .map (some nb)] 69) (by simp [gParts]), A, c, by rw [hl]⟩
theorem left_c (hg : IsG g st ps) (h : Own n w W (ps ++ F)) : Calls Try.prog 20 #[.pointer (some ⟨g, 0, none⟩)] W fun e W' => e = .returned (.int .i64 st.opn) ∧ W = W' := by
  obtain ⟨vl, bb, nb, hb, _⟩ := hg.open h
  have z := hb.cell 2
  clear hb hg h
  go_enter Try.func20, Try.ntmps20
  go_wp2
  go_ret
  exact ⟨rfl, rfl⟩
end
end Go.Proofs.Ytjfejimghbohdaa
namespace Go.Proofs.Ytjfejimghbohdaa
open Go.RowKit
set_option linter.unusedVariables false
set_option linter.unusedSimpArgs false

/-- the loop's record is ready, no deferred call waits -/
def Ready (L : Nat) (rec : LoopState → Option Code → Loop) (W : World) : Prop := W.heap[L + 1]? = some (.loop (rec .ready none)) ∧ W.heap[L]? = some (.deferred (some []))
/-- a round has left by the jump c -/
def Stopped (L : Nat) (rec : LoopState → Option Code → Loop) (c : Code) (W : World) : Prop := W.heap[L + 1]? = some (.loop (rec .done (some c))) ∧ W.heap[L]? = some (.deferred (some []))
/-- the two records lie as they lay -/
def Keeps2 (L : Nat) (W W' : World) : Prop := ∀ k o, (k = L ∨ k = L + 1) → W.heap[k]? = some o → o.isCells = false → W'.heap[k]? = some o
theorem Keeps2.of_others {L : Nat} {W W' : World} (h : KeepsOthers W W') : Keeps2 L W W' := fun k o _ hk ho => h.same k o hk ho
theorem Keeps2.refl (L : Nat) (W : World) : Keeps2 L W W := fun _ _ _ h _ => h
theorem Keeps2.trans {L : Nat} {A B C : World} (h : Keeps2 L A B) (k : Keeps2 L B C) : Keeps2 L A C := fun i o hi ho hc => k i o hi (h i o hi ho hc) hc
theorem Keeps2.alloc (L : Nat) (W : World) (o : Obj) : Keeps2 L W (W.alloc o) := .of_others (KeepsOthers.alloc W o)
theorem Keeps2.setCell (L : Nat) (W : World) (a : Addr) (v : Value) : Keeps2 L W (W.setCell a v) := .of_others (KeepsOthers.setCell W a v)
theorem Keeps2.drewN (L : Nat) (W : World) (n : Nat) : Keeps2 L W (W.drewN n) := fun _ _ _ h _ => h
theorem Keeps2.grown {L : Nat} {W W' : World} {row : Option Nat} (hg : W.grownBy W' row) (h1 : row ≠ some L) (h2 : row ≠ some (L + 1)) : Keeps2 L W W' := fun k o hk ho _ => by
  have hlt : k < W.heap.size := (Array.getElem?_eq_some_iff.1 ho).1
  refine (hg.block k hlt ?_).trans ho
  rcases hk with rfl | rfl
  · exact fun e => h1 e.symm
  · exact fun e => h2 e.symm
theorem Ready.keeps {L : Nat} {rec : LoopState → Option Code → Loop} {W W' : World} (h : Ready L rec W) (hk : Keeps2 L W W') : Ready L rec W' :=
  ⟨hk _ _ (.inr rfl) h.1 rfl, hk _ _ (.inl rfl) h.2 rfl⟩
theorem Stopped.keeps {L : Nat} {rec : LoopState → Option Code → Loop} {c : Code} {W W' : World} (h : Stopped L rec c W) (hk : Keeps2 L W W') : Stopped L rec c W' :=
  ⟨hk _ _ (.inr rfl) h.1 rfl, hk _ _ (.inl rfl) h.2 rfl⟩
theorem Ready.lt {L : Nat} {rec : LoopState → Option Code → Loop} {W : World} (h : Ready L rec W) : L + 1 < W.heap.size := (Array.getElem?_eq_some_iff.1 h.1).1

/-- a fact on cells abides a turn of a block that is no cells -/
theorem cell_putObj {W : World} {l : Nat} {r : Loop} {a : Addr} {v : Value} (o' : Obj) (h : W.cell? a = some v) (hl : W.heap[l]? = some (.loop r)) : (W.putObj l o').cell? a = some v := by
  by_cases e : a.block = l
  · unfold World.cell? at h; rw [e, hl] at h; simp at h
  · exact (World.cell?_of_block (World.putObj_heap_other e)).trans h
theorem frozen_putObj {W : World} {l : Nat} {r : Loop} {a : Addr} {v : Value} (o' : Obj) (h : W.cell? a = some v) (hl : W.heap[l]? = some (.loop r)) : (W.putObj l o').frozen? a = W.frozen? a := by
  by_cases e : a.block = l
  · unfold World.cell? at h; rw [e, hl] at h; simp at h
  · exact World.frozen?_of_block (World.putObj_heap_other e)
theorem below_putObj {n₀ : Nat} {w W : World} {l : Nat} (o' : Obj) (h : Below n₀ w W) (hl : n₀ ≤ l) (hlt : l < W.heap.size) : Below n₀ w (W.putObj l o') :=
  h.grown (grownBy_putObj' W l o') (by omega) (fun k e => by cases e; omega)
theorem boxed_putLoop {W : World} {B l : Nat} {t : TypeId} {v : Value} {o : Obj} (o' : Obj) (h : Boxed W B t v) (hl : W.heap[l]? = some o) (ho : o.isCells = false) : Boxed (W.putObj l o') B t v := by
  refine (World.putObj_heap_other (fun e => ?_)).trans h
  subst e
  have := (show W.heap[B]? = _ from h).symm.trans hl
  injection this with this
  subst this
  cases ho
theorem boxed_other {W : World} {B : Nat} {t : TypeId} {v : Value} {a : Addr} (u : Value) (h : Boxed W B t v) (hne : B ≠ a.block) : Boxed (W.setCell a u) B t v := (Below.heap_setCell W a u B hne).trans h
theorem ownsRow_far {W : World} {base : Nat} {e : TypeId} {size n : Nat} {v : Value} {xs : List Value} (h : W.ownsRow base e size v n xs) {a : Addr} (ha : a.block < base) (u : Value) : (W.setCell a u).ownsRow base e size v n xs := ownsRow_setCell_below h ha u
/-- a call under the wide fence is a plain call -/
theorem wide_calls {P : Program} {n : Nat} {f : FuncId} {args : Array Value} {w : World} {R : Ending → World → Prop} (h : Calls P f args w R) : Fence.wide.fn f ∧ Fence.wide.depth = none ∧ CallsIn Fence.wide n P f args w R := ⟨trivial, rfl, callsIn_wide.2 h⟩
theorem wide_callsR {P : Program} {n l : Nat} {f : FuncId} {args : Array Value} {w : World} {R : Ending → World → Prop} (h : Calls P f args w R) : Fence.wide.fn f ∧ Fence.wide.depth = none ∧ CallsIn (Fence.wide.inRound l) n P f args w R := ⟨trivial, rfl, CallsIn.inRound l (callsIn_wide.2 h)⟩
/-- an invariant abides the turns of the loop's record at block L + 1 -/
def Abide (L : Nat) (I : World → Prop) : Prop := ∀ W (r : Loop) (o' : Obj), I W → W.heap[L + 1]? = some (.loop r) → I (W.putObj (L + 1) o')

/-- how the body of a round may be left -/
def dirPost {σ : Type} (L : Nat) (J : σ → World → Prop) (Jx : σ → Code → World → Prop) (s : σ) (W : World) : Exit → Act → World → Prop
  | .normal, _, W' => Keeps2 L W W' ∧ J s W'
  | .ret, _, W' => Keeps2 L W W' ∧ Jx s .ret W'
  | .exit id, _, W' => Keeps2 L W W' ∧ Jx s (.exit id) W'
  | .goto t, _, W' => Keeps2 L W W' ∧ Jx s (.goto t) W'
  | .panic _, _, _ => False
  | .outgrown, _, _ => False

theorem wpIn_rangeFunc_dir {P : Program} {σ : Type} {g : Operand} {ps : Array Tmp} {assign body : Code} {Q : Exit → Act → World → Prop} {a : Act} {w : World}
    {gf : Nat} {lb : Array Value} (hg : a.eval g = .func (.func gf) #[] lb) (eg : ∀ args w, (callFunc gf args).run P w = .ok (.enter gf args) w)
    (I J : σ → World → Prop) (Jx : σ → Code → World → Prop) (Mid : σ → Act → World → Prop) (Done : World → Prop) (xs : σ → Array Value)
    (hI : ∀ s, Abide w.heap.size (I s)) (hJ : ∀ s, Abide w.heap.size (J s)) (hJx : ∀ s c, Abide w.heap.size (Jx s c)) (hMid : ∀ s a₁, Abide w.heap.size (Mid s a₁)) (hDone : Abide w.heap.size Done)
    (hps : ∀ s, (xs s).size = ps.size)
    (hassign : ∀ l s W, I s W → l = w.heap.size + 1 → assign.wpIn (Fence.wide.inRound l) 0 P (Exit.then (fun a₁ w₁ => Keeps2 w.heap.size W w₁ ∧ Mid s a₁ w₁) (fun _ _ _ => False))
      { tmps := (ps.zip (xs s)).foldl (fun t (p, v) => t.setIfInBounds p v) a.tmps, defers := [] } W)
    (hbody : ∀ l s a₁ W, l = w.heap.size + 1 → Mid s a₁ W → body.wpIn (Fence.wide.inRound l) 0 P (dirPost w.heap.size J Jx s W) a₁ W)
    (hiter : ∀ (rec : LoopState → Option Code → Loop) (W1 : World), W1 = (w.alloc (.deferred (some []))).alloc (.loop (rec .ready none)) → Ready w.heap.size rec W1 →
      (∀ s W, I s W → Ready w.heap.size rec W → YieldAt Fence.wide 0 P (w.heap.size + 1) (xs s) W fun e W' =>
        (e = .returned (.bool true) ∧ J s W' ∧ Ready w.heap.size rec W') ∨ (e = .returned (.bool false) ∧ ∃ c, Jx s c W' ∧ Stopped w.heap.size rec c W')) →
      CallsIn Fence.wide 0 P gf (#[.func (.yield (w.heap.size + 1)) #[] #[]] ++ lb) W1 fun e W' => (∃ v, e = .returned v) ∧
        ((Done W' ∧ Ready w.heap.size rec W') ∨ (∃ s c, Jx s c W' ∧ Stopped w.heap.size rec c W')))
    (hdone : ∀ W, Done W → W.heap[w.heap.size]? = some (.deferred (some [])) → Q .normal { a with defers := { target := .collected w.heap.size, args := #[] } :: a.defers } W)
    (hstop : ∀ s c W, Jx s c W → W.heap[w.heap.size]? = some (.deferred (some [])) → c.wpIn Fence.wide 0 P Q { a with defers := { target := .collected w.heap.size, args := #[] } :: a.defers } W) :
    (Code.rangeFunc g ps assign body).wpIn Fence.wide 0 P Q a w := by
  refine wpIn_rangeFunc ?_
  intro fn hfn
  obtain ⟨rec, hrec⟩ : ∃ rec : LoopState → Option Code → Loop, rec = fun st pe => { state := st, pending := pe, fn, tmps := a.tmps, params := ps, assign, body, defers := w.heap.size } := ⟨_, rfl⟩
  obtain ⟨W1, hW1⟩ : ∃ W1, (w.alloc (.deferred (some []))).alloc (.loop (rec .ready none)) = W1 := ⟨_, rfl⟩
  have hL1 : W1.heap[w.heap.size + 1]? = some (.loop (rec .ready none)) := by
    rw [← hW1]; have := World.alloc_heap_new (w.alloc (.deferred (some []))) (.loop (rec .ready none)); rwa [World.size_alloc] at this
  have hK1 : W1.heap[w.heap.size]? = some (.deferred (some [])) := by
    rw [← hW1]; exact (Below.heap_alloc _ _ _ (by simp)).trans (World.alloc_heap_new w _)
  refine ⟨w.heap.size + 1, [{ target := .collected w.heap.size, args := #[] }], W1, { target := .fn (.func gf) lb, args := #[.func (.yield (w.heap.size + 1)) #[] #[]] }, W1, gf,
    #[.func (.yield (w.heap.size + 1)) #[] #[]] ++ lb, W1, ?_, ?_, ?_, ?_, fun h => by simp [Fence.wide] at h, ?_⟩
  · rw [← hW1, hrec]; exact run_enterLoop_outer _ _ _ _ _
  · simp only [resolve, hg]
    simp [go_sem]
  · intro f' hf'; trivial
  · simp [invoke, go_sem, eg]
  · refine (hiter rec W1 hW1.symm ⟨hL1, hK1⟩ ?_).mono ?_
    · -- one round
      rintro s W hi ⟨hl, hk⟩
      have hlt : w.heap.size + 1 < W.heap.size := (Array.getElem?_eq_some_iff.1 hl).1
      have hy := run_yield (P := P) (args := xs s) hl (by rw [hrec]; exact hps s)
      rw [hrec] at hy
      refine ⟨fn, _, assign, body, hy, roundIn_of_wpIn hfn ?_⟩
      refine wpIn_mono (hassign _ s W hi rfl) ?_
      rintro e a3 W2 hp
      cases e with
      | normal =>
        obtain ⟨hk2, hm2⟩ := hp
        have hl2 := hk2 _ _ (.inr rfl) hl rfl
        have hd2 := hk2 _ _ (.inl rfl) hk rfl
        have hlt2 : w.heap.size + 1 < W2.heap.size := (Array.getElem?_eq_some_iff.1 hl2).1
        refine ⟨_, run_beginRound hl2 (by rw [hrec]), ?_⟩
        have hl3 : (W2.putObj (w.heap.size + 1) (.loop { rec .ready none with state := .busy })).heap[w.heap.size + 1]? = some (.loop { rec .ready none with state := .busy }) := World.putObj_heap_same hlt2
        have hd3 : (W2.putObj (w.heap.size + 1) (.loop { rec .ready none with state := .busy })).heap[w.heap.size]? = some (.deferred (some [])) := (World.putObj_heap_other (by omega)).trans hd2
        refine wpIn_mono (hbody _ s a3 _ rfl (hMid s a3 _ _ _ hm2 hl2)) ?_
        have fin : ∀ (jump : Option Code) (W3 : World), Keeps2 w.heap.size (W2.putObj (w.heap.size + 1) (.loop { rec .ready none with state := .busy })) W3 →
            (Instr.endRound (w.heap.size + 1) jump).run P W3 = .ok (.bool jump.isNone) (W3.putObj (w.heap.size + 1) (.loop (rec (if jump.isNone then .ready else .done) jump))) ∧
            W3.heap[w.heap.size + 1]? = some (.loop { rec .ready none with state := .busy }) ∧
            (W3.putObj (w.heap.size + 1) (.loop (rec (if jump.isNone then .ready else .done) jump))).heap[w.heap.size + 1]? = some (.loop (rec (if jump.isNone then .ready else .done) jump)) ∧
            (W3.putObj (w.heap.size + 1) (.loop (rec (if jump.isNone then .ready else .done) jump))).heap[w.heap.size]? = some (.deferred (some [])) := fun jump W3 hk3 => by
          have hl4 := hk3 _ _ (.inr rfl) hl3 rfl
          have := run_endRound (P := P) jump hl4
          rw [hrec] at this ⊢
          exact ⟨this, by rw [hrec] at hl4; exact hl4, World.putObj_heap_same (Array.getElem?_eq_some_iff.1 hl4).1, (World.putObj_heap_other (by omega)).trans (hk3 _ _ (.inl rfl) hd3 rfl)⟩
        rintro e a4 W3 hp
        cases e with
        | normal =>
          obtain ⟨hk3, hi3⟩ := hp
          obtain ⟨hr, hl5, hl6, hk6⟩ := fin none W3 hk3
          exact ⟨_, _, hr, .inl ⟨rfl, hJ s _ _ _ hi3 hl5, hl6, hk6⟩⟩
        | ret =>
          obtain ⟨hk3, hi3⟩ := hp
          obtain ⟨hr, hl5, hl6, hk6⟩ := fin (some .ret) W3 hk3
          exact ⟨_, _, hr, .inr ⟨rfl, .ret, hJx s _ _ _ _ hi3 hl5, hl6, hk6⟩⟩
        | exit id =>
          obtain ⟨hk3, hi3⟩ := hp
          obtain ⟨hr, hl5, hl6, hk6⟩ := fin (some (.exit id)) W3 hk3
          exact ⟨_, _, hr, .inr ⟨rfl, .exit id, hJx s _ _ _ _ hi3 hl5, hl6, hk6⟩⟩
        | goto t =>
          obtain ⟨hk3, hi3⟩ := hp
          obtain ⟨hr, hl5, hl6, hk6⟩ := fin (some (.goto t)) W3 hk3
          exact ⟨_, _, hr, .inr ⟨rfl, .goto t, hJx s _ _ _ _ hi3 hl5, hl6, hk6⟩⟩
        | panic ch => exact hp.elim
        | outgrown => exact hp.elim
      | ret => exact hp.elim
      | exit id => exact hp.elim
      | goto t => exact hp.elim
      | panic ch => exact hp.elim
      | outgrown => exact hp.elim
    · -- behind the iterator
      rintro e W2 ⟨⟨v, rfl⟩, (⟨hd, hl, hk⟩ | ⟨s, c, hi, hl, hk⟩)⟩
      · exact ⟨none, _, by have := run_endLoop (P := P) hl (by rw [hrec]; simp); rw [hrec] at this; exact this, hdone _ (hDone _ _ _ hd hl) ((World.putObj_heap_other (by omega)).trans hk)⟩
      · exact ⟨some c, _, by have := run_endLoop (P := P) hl (by rw [hrec]; simp); rw [hrec] at this; exact this, hstop s c _ (hJx s c _ _ _ hi hl) ((World.putObj_heap_other (by omega)).trans hk)⟩
/-- an append of the call's own row whose head lies in a box below the rows -/
theorem appended_box {W w1 : World} {n₀ B : Nat} {t e : TypeId} {size : Nat} {v : Value} {k : Nat} {xs : List Value} {tmp : Obj}
    (hv : Boxed W B t v) (hrow : W.ownsRow n₀ e size v k xs) (hB : B < n₀) (hgrow : (W.alloc tmp).grownBy w1 v.ownBlock) :
    (∀ B' t' u, B' < n₀ → Boxed W B' t' u → Boxed w1 B' t' u) ∧ KeepsOthers W w1 := by
  have hne : ∀ j, v.ownBlock = some j → n₀ ≤ j := fun j hj => (hrow.lt j hj).1
  refine ⟨fun B' t' u hB' h => (h.alloc tmp).kept hgrow (fun e' => ?_), ?_⟩
  · have := hne B' e'.symm; omega
  · refine (KeepsOthers.alloc W tmp).trans (KeepsOthers.of_grownBy hgrow fun j o ej hj => ?_)
    rcases (hrow.alloc tmp).2 with ⟨rfl, _⟩ | ⟨g, cap, cur, rfl, _, hgb, _⟩
    · simp [Value.ownBlock] at ej
    · obtain rfl : g = j := by simpa [Value.ownBlock] using ej
      rw [hgb] at hj; cases hj; rfl
theorem stored_box {w1 : World} {n₀ B : Nat} {t e : TypeId} {size : Nat} {v v' : Value} {m : Nat} {ys : List Value}
    (hv : Boxed w1 B t v) (hown' : w1.ownsRow n₀ e size v' m ys) (hB : B < n₀) :
    (∀ B' t' u, B' ≠ B → Boxed w1 B' t' u → Boxed (w1.setCell ⟨B, 0, none⟩ v') B' t' u) ∧ Boxed (w1.setCell ⟨B, 0, none⟩ v') B t v' ∧ (w1.setCell ⟨B, 0, none⟩ v').ownsRow n₀ e size v' m ys ∧ KeepsOthers w1 (w1.setCell ⟨B, 0, none⟩ v') :=
  ⟨fun B' t' u hne h => boxed_other _ h hne, hv.set v', ownsRow_far hown' hB _, KeepsOthers.setCell _ _ _⟩
/-- the records are laid -/
theorem below_records {n₀ : Nat} {w : World} (o o' : Obj) (h : n₀ ≤ w.heap.size) : Below n₀ w ((w.alloc o).alloc o') := ((Below.refl _ _).alloc h _).alloc (by simp; omega) _
end Go.Proofs.Ytjfejimghbohdaa
namespace Go.Proofs.Ytjfejimghbohdaa
set_option linter.unusedVariables false
set_option linter.unusedSimpArgs false
open Go.RowKit Go.Maps

theorem cellNew (W : World) (v : Value) (t : TypeId) : (W.alloc (.cells #[v] t)).cell? ⟨W.heap.size, 0, none⟩ = some v := (Blk.new W #[v] t).cell 0
def at_ (st : St) (id : Int) : Chg := st.l.getD id.toNat zc
/-- what a buffer has that is not done, and may be written or not, rising -/
def someS (st : St) (buf : Int) (may : Bool) : List Int := ((List.range st.l.length).map (fun i : Nat => (i : Int))).filter (fun id => (match st.bufs buf with | some s => s id | none => false) && (decide ((at_ st id).left = 0) == may))
def nextS (st : St) (buf : Int) : List Int := someS st buf true
def blockedS (st : St) (buf : Int) : List Int := someS st buf false
/-- a map, or none -/
def MapAt (W : World) (mb : Option Nat) (f : Int → Option Value) : Prop := (mb = none ∧ ∀ x, f x = none) ∨ ∃ b s, mb = some b ∧ OwnV Try.prog 3 W b f s ∧ s ≤ 8796093022208
theorem MapAt.above {W W' : World} {mb : Option Nat} {f : Int → Option Value} (h : MapAt W mb f) (hb : Below W.heap.size W W') : MapAt W' mb f := by
  rcases h with h | ⟨b, s, h1, h2, h3⟩
  · exact .inl h
  · exact .inr ⟨b, s, h1, h2.same (hb.block b h2.lt), h3⟩
theorem sortedB_m (Bm : Nat) (mb : Option Nat) (f : Int → Option Value) (W : World) (hm : W.cell? ⟨Bm, 0, none⟩ = some (.map mb)) (hown : MapAt W mb f) :
    Calls Try.prog 34 #[.func (.func 50) #[] #[.pointer (some ⟨Bm, 0, none⟩)]] W fun e w' => ∃ (v : Value) (xs : List Int), e = .returned v ∧ Rising xs ∧ (∀ x, x ∈ xs ↔ (f x).isSome = true) ∧
      w'.ownsRow W.heap.size 3 1 v xs.length (ints xs) ∧ Below W.heap.size W w' := by
  rcases hown with ⟨rfl, hf⟩ | ⟨b, s, rfl, h2, h3⟩
  · refine (sortedB_nil Bm W hm).mono ?_
    rintro e w' ⟨rfl, hb⟩
    exact ⟨.slice none 0 0, [], rfl, List.Pairwise.nil, fun x => by rw [hf]; simp, World.ownsRow_nil _ _ _ _, hb⟩
  · exact sortedB_c Bm b s f W hm h2 h3
theorem rangeI_rising (n : Nat) : Rising ((List.range n).map (fun i : Nat => (i : Int))) := by
  unfold Rising
  rw [List.pairwise_map]
  exact List.pairwise_lt_range.imp (fun h => by omega)
/-- the keys that the iterator passes on -/
theorem someS_of_keys {st : St} (h : Fit st) {buf : Int} {may : Bool} {xs : List Int} (hr : Rising xs) (hx : ∀ x, x ∈ xs ↔ (match st.bufs buf with | some s => s x | none => false) = true) :
    xs.filter (fun id => decide ((at_ st id).left = 0) == may) = someS st buf may := by
  unfold someS
  refine rising_ext (hr.filter _) ((rangeI_rising _).filter _) fun x => ?_
  rw [List.mem_filter, List.mem_filter, hx, Bool.and_eq_true]
  constructor
  · rintro ⟨h1, h2⟩
    refine ⟨?_, h1, h2⟩
    cases hb : st.bufs buf with
    | none => rw [hb] at h1; cases h1
    | some s => rw [hb] at h1; exact mem_rangeI (h.set buf s hb x h1)
  · rintro ⟨_, h1, h2⟩
    exact ⟨h1, h2⟩
section
variable {n : Nat} {w W : World} {F ps : List Atom} {st : St} {g : Nat}
theorem zero62 (W : World) : (zeroValue 71).run Try.prog W = .ok (.map none) W := by kernel_rfl
theorem zero3 (W : World) : (zeroValue 3).run Try.prog W = .ok (.int .i64 0) W := by kernel_rfl
theorem zero4 (W : World) : (zeroValue 4).run Try.prog W = .ok (.bool false) W := by kernel_rfl
/-- the sets by their buffers -/
theorem bufs_look (hg : IsG g st ps) (hf : Fit st) (ho : ∀ a ∈ ps, a.Q W) (buf : Int) (hw : (Lit.int .i64 buf).wf = true) : ∃ vl bb nb mb, Blk W g #[vl, .map (some bb), .int .i64 st.opn, .map (some nb)] 69 ∧
    (∀ q, (Instr.lookup 66 (.map (some bb)) (.int .i64 buf) false).run Try.prog (W.drewN q) = .ok (.map mb) (W.drewN q)) ∧ MapAt W mb (setF (match st.bufs buf with | some s => s | none => fun _ => false)) := by
  obtain ⟨vl, l, bb, nb, bs, rfl, h1, h2, h3⟩ := hg
  obtain ⟨sb, hbm⟩ : ∃ s, OwnV Try.prog 3 W bb (locF bs) s := ho (mpA bb (locF bs)) (by simp [gParts])
  refine ⟨vl, bb, nb, (bsAt bs buf).map Bs.loc, ho (blkA g #[vl, .map (some bb), .int .i64 st.opn, .map (some nb)] 69) (by simp [gParts]), fun q => ?_, ?_⟩
  · have := (show OwnV Try.prog 3 (W.drewN q) bb (locF bs) sb from hbm).look0 Try.underlying3 Try.underlying66 (zero62 _) buf hw
    rw [this]
    unfold locF
    cases bsAt bs buf <;> rfl
  · rw [h2]
    cases hq : bsAt bs buf with
    | none => exact .inl ⟨rfl, fun x => rfl⟩
    | some b =>
      obtain ⟨hm, hk⟩ := bsAt_mem hq
      obtain ⟨z, hz⟩ : ∃ s, OwnV Try.prog 3 W b.loc (setF b.set) s := ho b.a (by
        unfold gParts
        repeat (first | exact List.mem_append_right _ (List.mem_append_right _ (List.mem_map.2 ⟨b, hm, rfl⟩)) | apply List.mem_cons_of_mem))
      refine .inr ⟨b.loc, z, rfl, hz, ?_⟩
      have := hf.setSize (b := buf) (s := b.set) (by rw [h2, hq]; rfl) hz
      have := hf.len
      omega
theorem row_form {W : World} {base : Nat} {e : TypeId} {sz : Nat} {A : Option Addr} {k c : Nat} {xs : List Value} (h : W.ownsRow base e sz (.slice A k c) k xs) (hk : 0 < k) : ∃ gb, A = some ⟨gb, 0, none⟩ := by
  rcases h.2 with ⟨h1, h2⟩ | ⟨gb, cap, cur, h1, _⟩
  · omega
  · injection h1 with h1 _ _; exact ⟨gb, h1⟩
theorem ints_at {l : List Int} {k : Nat} (h : k < l.length) : (ints l)[k]? = some (.int .i64 l[k]) := by unfold ints; simp [h]
theorem Ready.ext {L : Nat} {rec : LoopState → Option Code → Loop} {V W' : World} (h : Ready L rec V) (hb : Below V.heap.size V W') : Ready L rec W' :=
  ⟨(hb.block _ h.lt).trans h.1, (hb.block _ (by have := h.lt; omega)).trans h.2⟩
/-- a change's cells -/
theorem IsG.cellAt {W : World} {ps : List Atom} {st : St} {g : Nat} (hg : IsG g st ps) (ho : ∀ a ∈ ps, a.Q W) {k : Nat} (hk : k < st.l.length) : ∃ gl vl c bb nb von vto, vl = .slice (some ⟨gl, 0, none⟩) st.l.length c ∧ W.cell? ⟨g, 0, none⟩ = some vl ∧
    W.cell? ⟨gl, k * 5, none⟩ = some (.int .i64 st.l[k].buf) ∧ W.cell? ⟨gl, k * 5 + 1, none⟩ = some von ∧ W.cell? ⟨gl, k * 5 + 2, none⟩ = some (.int .i64 st.l[k].left) ∧ W.cell? ⟨gl, k * 5 + 3, none⟩ = some vto ∧ W.cell? ⟨gl, k * 5 + 4, none⟩ = some (.bool st.l[k].done) ∧
    W.cell? ⟨g, 1, none⟩ = some (.map (some bb)) ∧ W.cell? ⟨g, 3, none⟩ = some (.map (some nb)) ∧ W.ownsRow 0 3 1 von st.l[k].on.length (ints st.l[k].on) ∧ W.ownsRow 0 3 1 vto st.l[k].to.length (ints st.l[k].to) := by
  obtain ⟨vl, l, bb, nb, bs, rfl, h1, h2, h3⟩ := hg
  have hl : l.length = st.l.length := by rw [← h1, List.length_map]
  have hr : W.ownsRow 0 64 5 vl l.length (cellsL l) := ho (rowA 64 5 vl l.length (cellsL l)) (by simp [gParts])
  have hb : Blk W g #[vl, .map (some bb), .int .i64 st.opn, .map (some nb)] 69 := ho (blkA g #[vl, .map (some bb), .int .i64 st.opn, .map (some nb)] 69) (by simp [gParts])
  obtain ⟨A, c, rfl⟩ := own_slice hr
  obtain ⟨gl, rfl⟩ := row_form hr (by omega)
  have hk' : k < l.length := by omega
  have e : st.l[k] = (l[k]).c := by simp [← h1]
  have hm : l[k] ∈ l := List.getElem_mem hk'
  have hc : ∀ i, i < 5 → W.cell? ⟨gl, k * 5 + i, none⟩ = (l[k].cells)[i]? := fun i hi => by rw [hr.cellAt (k * 5 + i) (by omega), cellsL_at hk' hi]
  refine ⟨gl, .slice (some ⟨gl, 0, none⟩) l.length c, c, bb, nb, (l[k]).von, (l[k]).vto, by rw [hl], hb.cell 0, ?_, ?_, ?_, ?_, ?_, hb.cell 1, hb.cell 3, ?_, ?_⟩
  · rw [e]; exact hc 0 (by omega)
  · exact hc 1 (by omega)
  · rw [e]; exact hc 2 (by omega)
  · exact hc 3 (by omega)
  · rw [e]; exact hc 4 (by omega)
  · rw [e]; exact ho (onA l[k]) (by unfold gParts; simp only [List.mem_cons, List.mem_append, List.mem_map]; exact .inr (.inr (.inr (.inr (.inl ⟨_, hm, rfl⟩)))))
  · rw [e]; exact ho (toA l[k]) (by unfold gParts; simp only [List.mem_cons, List.mem_append, List.mem_map]; exact .inr (.inr (.inr (.inr (.inr (.inl ⟨_, hm, rfl⟩))))))
theorem setF_isSome (s : Int → Bool) (x : Int) : (setF s x).isSome = s x := by unfold setF; cases s x <;> rfl
end
abbrev Sg := List Int × Int × List Atom
section
variable {n L b1 b2 b3 bo g : Nat} {w : World} {K F ps : List Atom} {st : St} {rec : LoopState → Option Code → Loop}
/-- what lies in memory between two rounds -/
def InP (n : Nat) (w : World) (L bo : Nat) (K : List Atom) (out : List Int) (E : List Atom) (W : World) : Prop := ∃ v, Own n w W (resA (L + 1) :: resA L :: blkA bo #[v] 23 :: rowA 3 1 v out.length (ints out) :: (K ++ E))
theorem InP.putObj {out : List Int} {E : List Atom} {W : World} (o' : Obj) (h : InP n w L bo K out E W) : InP n w L bo K out E (W.putObj (L + 1) o') := by
  obtain ⟨v, h⟩ := h
  exact ⟨v, h.putObj o'⟩
def kParts (b1 b2 b3 g : Nat) (buf : Int) (may : Bool) (ps F : List Atom) : List Atom := blkA b1 #[.pointer (some ⟨g, 0, none⟩)] 26 :: blkA b2 #[.int .i64 buf] 3 :: blkA b3 #[.bool may] 4 :: (ps ++ F)
set_option maxHeartbeats 4000000 in
set_option maxRecDepth 100000 in
theorem some1_c (hg : IsG g st ps) (hf : Fit st) (buf : Int) (may : Bool) (hw : (Lit.int .i64 buf).wf = true)
    (hY : ∀ (s : Sg) W, InP n w L bo (kParts b1 b2 b3 g buf may ps F) s.1 s.2.2 W ∧ s.1.length < 1099511627776 → Ready L rec W → YieldAt Fence.wide 0 Try.prog (L + 1) #[.int .i64 s.2.1] W fun e W' =>
        (e = .returned (.bool true) ∧ InP n w L bo (kParts b1 b2 b3 g buf may ps F) (s.1 ++ [s.2.1]) s.2.2 W' ∧ Ready L rec W') ∨ (e = .returned (.bool false) ∧ ∃ c, False ∧ Stopped L rec c W'))
    (W : World) (hin : InP n w L bo (kParts b1 b2 b3 g buf may ps F) [] [] W) (hrdy : Ready L rec W) :
    CallsIn Fence.wide 0 Try.prog 56 #[.func (.yield (L + 1)) #[] #[], .pointer (some ⟨b1, 0, none⟩), .pointer (some ⟨b2, 0, none⟩), .pointer (some ⟨b3, 0, none⟩)] W fun e W' => (∃ v, e = .returned v) ∧
      (∃ E, InP n w L bo (kParts b1 b2 b3 g buf may ps F) (someS st buf may) E W') ∧ Ready L rec W' := by
  have HY := hide hY
  have HIN := hide hin
  have HRDY := hide hrdy
  have HF := hide hf
  have HG := hide hg
  obtain ⟨v0, ho⟩ := hin
  have c1 := (ho.hold (blkA b1 #[.pointer (some ⟨g, 0, none⟩)] 26) (by simp [kParts])).cell 0
  have c2 := (ho.hold (blkA b2 #[.int .i64 buf] 3) (by simp [kParts])).cell 0
  have c3 := (ho.hold (blkA b3 #[.bool may] 4) (by simp [kParts])).cell 0
  have HO := hide ho
  obtain ⟨vl, bb, nb, mb, hb, hlk, hmap⟩ := bufs_look hg hf (W := W) (fun a ha => ho.hold a (by simp [kParts, ha])) buf hw
  have z1 := hb.cell 1
  have hlk1 : (Instr.lookup 66 (.map (some bb)) (.int .i64 buf) false).run Try.prog W.drew = .ok (.map mb) W.drew := hlk 1
  have HLK := hide hlk
  have HMAP := hide hmap
  clear hY hrdy hf hg hb hlk hmap ho c3
  refine callsIn_of_wp Try.func56 rfl trivial ?_ rfl
  simp only [Try.ntmps56, List.size_toArray, List.length_cons, List.length_nil, Nat.reduceAdd, Nat.reduceSub, Array.replicate_succ, Array.replicate_zero, List.push_toArray, List.append_toArray, List.nil_append, List.cons_append]
  gi_wp2
  gi_cut [14, 15, 16] from 7 (fun v14 v15 v16 wx => ∃ (A : Option Addr) (c : Nat) (xs : List Int), v14 = .slice A xs.length c ∧ v15 = .int .i64 xs.length ∧ v16 = .int .i64 0 ∧ Hid (Rising xs ∧ (∀ x, x ∈ xs ↔ (match st.bufs buf with | some s => s x | none => false) = true) ∧ InP n w L bo (kParts b1 b2 b3 g buf may ps F) [] [rowA 3 1 (.slice A xs.length c) xs.length (ints xs)] wx ∧ Ready L rec wx))
  case first =>
    gi_region_with ((with_reducible refine wide_calls ?_); first | (go_at_call 35; refine (keys39_c _ _).mono ?_; rintro e w' ⟨rfl, rfl⟩) | (go_at_call 34; refine (sortedB_m _ mb _ _ (cellNew _ _ _) (HMAP.out.above ((Below.refl _ _).drew.alloc (Nat.le_refl _) _))).mono ?_; rintro e w5 ⟨v, xs, rfl, hr, hx, hrow, hb5⟩; obtain ⟨A, c, rfl⟩ := own_slice hrow))
    all_goals (gi_wp2; gi_meet; exact ⟨A, c, xs, rfl, rfl, rfl, hide ⟨hr, fun x => (hx x).trans (by rw [setF_isSome]; cases st.bufs buf <;> exact Iff.rfl), ⟨v0, Own.back (l := resA (L + 1) :: resA L :: blkA bo #[v0] 23 :: rowA 3 1 v0 [].length (ints []) :: kParts b1 b2 b3 g buf may ps F) ((HO.out.drew.alloc _).moreRow hb5 hrow)⟩,
      HRDY.out.ext (((Below.refl _ W).drew.alloc (Nat.le_refl _) _).trans (hb5.mono (by simp)))⟩⟩)
  case rest =>
    obtain ⟨A, c, xs, rfl, rfl, rfl, HX⟩ := hcut
    have hxl : xs.length < 1099511627776 := by
      have h1 := nodup_le (m := (List.range st.l.length).map (fun i : Nat => (i : Int))) (l := xs) (HX.out.1.imp (fun h => by omega)) (fun x hx => by
        have := (HX.out.2.1 x).1 hx
        cases hb : st.bufs buf with
        | none => rw [hb] at this; cases this
        | some s => rw [hb] at this; exact mem_rangeI (HF.out.set buf s hb x this))
      have := HF.out.len
      simp at h1
      omega
    have HIDS := hide (fun x (hx : x ∈ xs) => show 0 ≤ x ∧ x < st.l.length by
      have := (HX.out.2.1 x).1 hx
      cases hb : st.bufs buf with
      | none => rw [hb] at this; cases this
      | some s => rw [hb] at this; exact HF.out.set buf s hb x this)
    clear hlk1 HLK HMAP c1 c2 z1 HO HIN HRDY
    gi_wp2
    gi_loopw [16] (fun i wr => ∃ k : Nat, k ≤ xs.length ∧ i = .int .i64 k ∧ Hid (InP n w L bo (kParts b1 b2 b3 g buf may ps F) ((xs.take k).filter (fun id => decide ((at_ st id).left = 0) == may)) [rowA 3 1 (.slice A xs.length c) xs.length (ints xs)] wr ∧ Ready L rec wr)) (fun i _ => xs.length - (intOf i).toNat)
    case atStart => exact ⟨0, by omega, rfl, hide ⟨HX.out.2.2.1, HX.out.2.2.2⟩⟩
    case round =>
      obtain ⟨k, hk, rfl, HK⟩ := hrel
      by_cases hlt : k < xs.length
      · obtain ⟨⟨v, ho⟩, hrdy⟩ := HK.out
        have hrow : wr.ownsRow 0 3 1 (.slice A xs.length c) xs.length (ints xs) := ho.hold (rowA 3 1 (.slice A xs.length c) xs.length (ints xs)) (by simp)
        obtain ⟨gk, rfl⟩ := row_form hrow (by omega)
        have y0 := hrow.cellAt k (by omega)
        rw [ints_at hlt] at y0
        have hid := HIDS.out _ (List.getElem_mem hlt)
        have c1 : wr.cell? ⟨b1, 0, none⟩ = some (.pointer (some ⟨g, 0, none⟩)) := (ho.hold (blkA b1 #[.pointer (some ⟨g, 0, none⟩)] 26) (by simp [kParts])).cell 0
        have c3 : wr.cell? ⟨b3, 0, none⟩ = some (.bool may) := (ho.hold (blkA b3 #[.bool may] 4) (by simp [kParts])).cell 0
        have HNX := hide (show (xs.take (k + 1)).filter (fun id => decide ((at_ st id).left = 0) == may) = (xs.take k).filter (fun id => decide ((at_ st id).left = 0) == may) ++ (if (decide ((at_ st xs[k]).left = 0) == may) = true then [xs[k]] else []) by
          rw [List.take_succ_eq_append_getElem hlt, List.filter_append]
          congr 1
          rw [List.filter_cons]
          split <;> rfl)
        have HLN := hide (show ((xs.take k).filter (fun id => decide ((at_ st id).left = 0) == may)).length < 1099511627776 by
          have h1 := List.length_filter_le (fun id => decide ((at_ st id).left = 0) == may) (xs.take k)
          have h2 := List.length_take_le k xs
          omega)
        generalize xs[k] = id at y0 hid HNX
        obtain ⟨i, rfl⟩ := Int.eq_ofNat_of_zero_le hid.1
        have hil : i < st.l.length := by omega
        obtain ⟨gl, vl, cl, bb, nb, von, vto, rfl, x0, -, -, x3, -⟩ := HG.out.cellAt (W := wr) (fun a ha => ho.hold a (by simp [kParts, ha])) hil
        have hat : (at_ st (i : Int)).left = st.l[i].left := by unfold at_; simp [hil]
        have HNY := hide (fun h : (decide (st.l[i].left = 0) == may) = true => show (xs.take (k + 1)).filter (fun id => decide ((at_ st id).left = 0) == may) = (xs.take k).filter (fun id => decide ((at_ st id).left = 0) == may) ++ [(i : Int)] by rw [HNX.out, hat, if_pos h])
        have HNN := hide (fun h : (decide (st.l[i].left = 0) == may) = false => show (xs.take (k + 1)).filter (fun id => decide ((at_ st id).left = 0) == may) = (xs.take k).filter (fun id => decide ((at_ st id).left = 0) == may) by rw [HNX.out, hat, if_neg (by rw [h]; simp), List.append_nil])
        clear HNX
        have o1 : (0 : Int) ≤ (k : Int) := by omega
        have o2 : (k : Int) < (xs.length : Int) := by omega
        have o3 : (0 : Int) ≤ (i : Int) := by omega
        have o4 : (i : Int) < (st.l.length : Int) := by omega
        have HO := hide ho
        have HR := hide hrdy
        generalize st.l[i].left = lf at x3 HNY HNN
        have HYV := hide (HY.out ((xs.take k).filter (fun id => decide ((at_ st id).left = 0) == may), (i : Int), [rowA 3 1 (.slice (some ⟨gk, 0, none⟩) xs.length c) xs.length (ints xs)]) wr.drew ⟨⟨v, ho.drew⟩, HLN.out⟩ (hrdy.keeps (Keeps2.drewN L wr 1)))
        clear hrow ho hrdy hat hid
        cases may
        · by_cases hz : lf = 0
          · have e1 : (lf == 0) = true := by rw [hz]; rfl
            have HN := hide (HNN.out (by simp [hz]))
            clear hz HNN HNY
            gi_wp2
            refine wpIn_region_quiet_lit rfl (by kernel_rfl) (by kernel_rfl) ?_
            iterate 14 (quiet_step_in (fail))
            refine wpQuietIn_step (fun _ _ _ _ => trivial) (fun K hK => ?_)
            go_simp
            (refine hK _ ?_; clear hK K)
            iterate 2 (quiet_step_in (fail))
            refine wpQuietIn_nil ?_
            intro _ hw'
            obtain ⟨nq, hw''⟩ := hw'
            subst hw''
            gi_wp2
            go_roundw
            case rel => exact ⟨k + 1, by omega, by go_num, hide ⟨by rw [HN.out]; exact ⟨v, HO.out.drewN _⟩, HR.out.keeps (Keeps2.drewN L wr _)⟩⟩
            case measure => simp [intOf]; omega
          · have e1 : (lf == 0) = false := by rw [beq_eq_false_iff_ne]; exact hz
            have HN := hide (HNY.out (by simp [hz]))
            obtain ⟨fn, tmps, assign, body, hy, hR⟩ := HYV.out
            dsimp only at hy
            have HRR := hide hR
            clear hz hR HNN HNY
            gi_wp2
            gi_region_with (refine ⟨rfl, ?_⟩; refine HRR.out.mono ?_; rintro e W3 (⟨rfl, hi3, hr3⟩ | ⟨_, _, ⟨⟩, _⟩))
            all_goals
              have HI3 := hide (And.intro hi3 hr3)
              clear hi3 hr3
              gi_wp2
              go_roundw
              case rel => exact ⟨k + 1, by omega, by go_num, hide ⟨by rw [HN.out]; exact HI3.out.1, HI3.out.2⟩⟩
              case measure => simp [intOf]; omega
        · by_cases hz : lf = 0
          · have e1 : (lf == 0) = true := by rw [hz]; rfl
            have HN := hide (HNY.out (by simp [hz]))
            obtain ⟨fn, tmps, assign, body, hy, hR⟩ := HYV.out
            dsimp only at hy
            have HRR := hide hR
            clear hz hR HNN HNY
            gi_wp2
            gi_region_with (refine ⟨rfl, ?_⟩; refine HRR.out.mono ?_; rintro e W3 (⟨rfl, hi3, hr3⟩ | ⟨_, _, ⟨⟩, _⟩))
            all_goals
              have HI3 := hide (And.intro hi3 hr3)
              clear hi3 hr3
              gi_wp2
              go_roundw
              case rel => exact ⟨k + 1, by omega, by go_num, hide ⟨by rw [HN.out]; exact HI3.out.1, HI3.out.2⟩⟩
              case measure => simp [intOf]; omega
          · have e1 : (lf == 0) = false := by rw [beq_eq_false_iff_ne]; exact hz
            have HN := hide (HNN.out (by simp [hz]))
            clear hz HNN HNY
            gi_wp2
            refine wpIn_region_quiet_lit rfl (by kernel_rfl) (by kernel_rfl) ?_
            iterate 14 (quiet_step_in (fail))
            refine wpQuietIn_step (fun _ _ _ _ => trivial) (fun K hK => ?_)
            go_simp
            (refine hK _ ?_; clear hK K)
            iterate 2 (quiet_step_in (fail))
            refine wpQuietIn_nil ?_
            intro _ hw'
            obtain ⟨nq, hw''⟩ := hw'
            subst hw''
            gi_wp2
            go_roundw
            case rel => exact ⟨k + 1, by omega, by go_num, hide ⟨by rw [HN.out]; exact ⟨v, HO.out.drewN _⟩, HR.out.keeps (Keeps2.drewN L wr _)⟩⟩
            case measure => simp [intOf]; omega
      · have HT := hide (show (xs.take k).filter (fun id => decide ((at_ st id).left = 0) == may) = someS st buf may by
          rw [List.take_of_length_le (by omega)]
          exact someS_of_keys HF.out HX.out.1 HX.out.2.1)
        have hge : (xs.length : Int) ≤ (k : Int) := by omega
        gi_wp2
        go_end0
        exact ⟨⟨_, rfl⟩, ⟨_, by rw [← HT.out]; exact HK.out.1⟩, HK.out.2⟩
end
end Go.Proofs.Ytjfejimghbohdaa
namespace Go.Proofs.Ytjfejimghbohdaa
set_option linter.unusedVariables false
set_option linter.unusedSimpArgs false
open Go.RowKit Go.Shelf Go.Maps
attribute [local go_sem] Oper.semAt_some

theorem info3 : (Try.prog.info? 3).map (fun i => (i.zero, i.size, i.bytes)) = some (some (.int .i64 0), 1, 8) := by kernel_rfl
section
variable {n b1 b2 b3 g : Nat} {w : World} {F ps : List Atom} {st : St}
set_option maxHeartbeats 4000000 in
set_option maxRecDepth 100000 in
theorem list_c (hg : IsG g st ps) (hf : Fit st) (buf : Int) (may : Bool) (hw : (Lit.int .i64 buf).wf = true) (W : World) (ho : Own n w W (kParts b1 b2 b3 g buf may ps F)) :
    Calls Try.prog 46 #[.func (.func 56) #[] #[.pointer (some ⟨b1, 0, none⟩), .pointer (some ⟨b2, 0, none⟩), .pointer (some ⟨b3, 0, none⟩)]] W fun e W' => ∃ v, e = .returned v ∧
      Own n w W' (rowA 3 1 v (someS st buf may).length (ints (someS st buf may)) :: kParts b1 b2 b3 g buf may ps F) := by
  have HO := hide ho
  have HG := hide hg
  have HF := hide hf
  clear ho hg hf
  refine (callsIn_wide (n := 0)).1 ?_
  refine callsIn_of_wp_marks Try.func46 rfl trivial ?_
  simp only [Try.ntmps46, List.size_toArray, List.length_cons, List.length_nil, Nat.reduceAdd, Nat.reduceSub, Array.replicate_succ, Array.replicate_zero, List.push_toArray, List.append_toArray, List.nil_append, List.cons_append]
  gi_wp2
  have hm : Own n w (W.alloc (.cells #[.slice none 0 0] 23)) (blkA W.heap.size #[.slice none 0 0] 23 :: rowA 3 1 (.slice none 0 0) 0 [] :: kParts b1 b2 b3 g buf may ps F) := (HO.out.nilRow 3 1).newBlk _ _
  generalize W.heap.size = bo at hm ⊢
  generalize W.alloc (.cells #[.slice none 0 0] 23) = W1 at hm ⊢
  have HM := hide hm
  clear hm
  refine wpIn_rangeFunc_dir (σ := Sg) (gf := 56) (lb := #[.pointer (some ⟨b1, 0, none⟩), .pointer (some ⟨b2, 0, none⟩), .pointer (some ⟨b3, 0, none⟩)]) rfl (enters_of Try.func56 (by kernel_rfl) rfl)
    (fun s W => InP n w W1.heap.size bo (kParts b1 b2 b3 g buf may ps F) s.1 s.2.2 W ∧ s.1.length < 1099511627776) (fun s W => InP n w W1.heap.size bo (kParts b1 b2 b3 g buf may ps F) (s.1 ++ [s.2.1]) s.2.2 W) (fun _ _ _ => False)
    (fun s a₁ W => (InP n w W1.heap.size bo (kParts b1 b2 b3 g buf may ps F) s.1 s.2.2 W ∧ s.1.length < 1099511627776) ∧ a₁ = (fun x : Int => ({ tmps := #[.func (.func 56) #[] #[.pointer (some ⟨b1, 0, none⟩), .pointer (some ⟨b2, 0, none⟩), .pointer (some ⟨b3, 0, none⟩)], undef, .slice none 0 0, .pointer (some ⟨bo, 0, none⟩), .int .i64 x, .func (.func 56) #[] #[.pointer (some ⟨b1, 0, none⟩), .pointer (some ⟨b2, 0, none⟩), .pointer (some ⟨b3, 0, none⟩)], .int .i64 x, undef, undef, undef, undef, undef], defers := [] } : Act)) s.2.1)
    (fun W => ∃ E, InP n w W1.heap.size bo (kParts b1 b2 b3 g buf may ps F) (someS st buf may) E W) (fun s => #[.int .i64 s.2.1])
    ?hI ?hJ ?hJx ?hMid ?hDone (fun _ => rfl) ?assign ?body ?iter ?done ?stop
  case hI => exact fun s W r o' h hl => ⟨h.1.putObj o', h.2⟩
  case hJ => exact fun s W r o' h hl => h.putObj o'
  case hJx => exact fun s c W r o' h hl => h
  case hMid => exact fun s a₁ W r o' h hl => ⟨⟨h.1.1.putObj o', h.1.2⟩, h.2⟩
  case hDone => exact fun W r o' ⟨E, h⟩ hl => ⟨E, h.putObj o'⟩
  case assign =>
    intro l s W hi hl
    have HI := hide hi
    clear hi
    gi_wp2
    first | exact ⟨Keeps2.refl _ _, HI.out⟩ | exact ⟨Keeps2.refl _ _, HI.out, rfl⟩ | exact ⟨Keeps2.refl _ _, HI.out, trivial⟩
  case body =>
    rintro l' ⟨out, x, E⟩ a₁ W hl ⟨⟨⟨v, hown⟩, hlen⟩, rfl⟩
    dsimp only at hown hlen
    have hr := hown.f3
    have hrow := hr.row
    obtain ⟨A5, c5, rfl⟩ := own_slice hrow
    have hn0 : (Value.slice A5 out.length c5).ownBlock ≠ some W1.heap.size := fun e => hr.far (a' := resA W1.heap.size) (by simp) _ e rfl
    have hn1 : (Value.slice A5 out.length c5).ownBlock ≠ some (W1.heap.size + 1) := fun e => hr.far (a' := resA (W1.heap.size + 1)) (by simp) _ e rfl
    have HN := hide (And.intro hn0 hn1)
    have hbk : Blk W bo #[.slice A5 out.length c5] 23 := hown.hold (blkA bo #[.slice A5 out.length c5] 23) (by simp)
    have hsz := hown.sz
    have HB0 := hide (show bo ≠ W1.heap.size ∧ bo ≠ W1.heap.size + 1 from ⟨fun e => hown.tail.far (a' := blkA bo #[.slice A5 out.length c5] 23) (by simp) bo (by rw [e]; rfl) rfl, fun e => hown.far (a' := blkA bo #[.slice A5 out.length c5] 23) (by simp) bo (by rw [e]; rfl) rfl⟩)
    have cv : W.cell? ⟨bo, 0, none⟩ = some (.slice A5 out.length c5) := hbk.cell 0
    have HOWN := hide hr
    obtain ⟨i0, hi, hz0, hz1, hz2⟩ := info_parts info3
    clear hown hr hbk hn0 hn1
    gi_wp2_with (gi_at_builtin; go_must (refine wpListIn_append_own_at _ rfl _ _ 23 rfl n 3 i0 (.int .i64 0) 1 8 Try.underlying23 hi hz0 hz1 hz2 rfl (by decide) _ _ _ rfl (hrow.alloc _) ⟨W.heap.size, 0, none⟩ 1 1 [.int .i64 x] rfl rfl (cell_one_new _ _ _) (by simp [Value.oneCell']) (by unfold maxLen; omega) (by omega) (by simp; omega) ?_); intro v' w1 hown' hgrow _ hat; obtain ⟨A6, c6, rfl⟩ := own_slice hown'; have h2 := hide ((HOWN.out.alloc _).growRow hown' hgrow hat); have h3 := hide h2.out.f3; have hc1 : w1.cell? ⟨bo, 0, none⟩ = some (.slice A5 out.length c5) := h3.out.head.cell 0; have hf1 := h3.out.head.frozen 0; have HK := hide (Keeps2.grown (L := W1.heap.size) hgrow HN.out.1 HN.out.2); clear hown' hgrow hat)
    have h4 := h3.out.setBlk 0 (.slice A6 (out.length + 1) c6)
    exact ⟨((Keeps2.alloc _ W _).trans HK.out).trans (Keeps2.setCell _ _ _ _), ⟨.slice A6 (out.length + 1) c6, by simpa [ints] using h4.f3.f3⟩⟩
  case iter =>
    rintro rec W2 hW2 hrdy hY
    have h1 := HM.out.new (.deferred (some [])) (resA W1.heap.size) rfl (show W1.heap.size < (W1.alloc _).heap.size by simp)
    have h2 := h1.new (.loop (rec .ready none)) (resA (W1.heap.size + 1)) (by simp [resA]) (show W1.heap.size + 1 < ((W1.alloc _).alloc _).heap.size by simp)
    rw [← hW2] at h2
    refine (some1_c HG.out HF.out buf may hw (fun s W hi hr => hY s W hi hr) W2 ⟨.slice none 0 0, by simpa [ints] using h2⟩ hrdy).mono ?_
    rintro e W' ⟨h3, h4, h5⟩
    exact ⟨h3, .inl ⟨h4, h5⟩⟩
  case done =>
    rintro W ⟨E, v, hown⟩ hD
    have cv : W.cell? ⟨bo, 0, none⟩ = some v := (hown.hold (blkA bo #[v] 23) (by simp)).cell 0
    have H := hide (And.intro hown hD)
    clear hown hD
    gi_wp2
    obtain ⟨hown, hD⟩ := H.out
    refine ⟨by simp, .inl ⟨_, _, rfl, run_takeDeferred hD, ?_⟩⟩
    refine ⟨_, results_tmp rfl _ _ _, v, rfl, ?_⟩
    exact (hown.f1.putObj _).f3.sub (.cons_cons _ (.cons _ (.cons _ (.cons _ (List.sublist_append_left _ E)))))
  case stop => exact fun s c W h hD => h.elim
theorem some_fn (W : World) (g : Nat) (b : Int) (m : Bool) (ho : Own n w W (ps ++ F)) :
    Calls Try.prog 47 #[.pointer (some ⟨g, 0, none⟩), .int .i64 b, .bool m] W fun e W' => ∃ b1 b2 b3, e = .returned (.func (.func 56) #[] #[.pointer (some ⟨b1, 0, none⟩), .pointer (some ⟨b2, 0, none⟩), .pointer (some ⟨b3, 0, none⟩)]) ∧ Own n w W' (kParts b1 b2 b3 g b m ps F) := by
  have HO := hide ho
  clear ho
  go_enter Try.func47, Try.ntmps47
  go_wp2
  go_ret
  have h1 := HO.out.newBlk #[.pointer (some ⟨g, 0, none⟩)] 26
  have h2 := h1.newBlk #[.int .i64 b] 3
  have h3 := h2.newBlk #[.bool m] 4
  exact ⟨_, _, _, rfl, by simpa [kParts] using h3.f1.f2⟩
theorem next_c (hg : IsG g st ps) (hf : Fit st) (buf : Int) (hw : (Lit.int .i64 buf).wf = true) (W : World) (ho : Own n w W (ps ++ F)) :
    Calls Try.prog 31 #[.pointer (some ⟨g, 0, none⟩), .int .i64 buf] W fun e W' => ∃ v, e = .returned v ∧ Own n w W' (rowA 3 1 v (nextS st buf).length (ints (nextS st buf)) :: (ps ++ F)) := by
  have HL := hide (fun W b1 b2 b3 ho => list_c (F := F) (b1 := b1) (b2 := b2) (b3 := b3) (n := n) (w := w) hg hf buf true hw W ho)
  have HO := hide (some_fn W g buf true ho)
  clear hg hf ho
  go_enter Try.func31, Try.ntmps31
  go_wp2_with (first | (go_at_call 47; refine HO.out.mono ?_; rintro e W1 ⟨b1, b2, b3, rfl, h1⟩; have H1 := hide h1; clear h1) | (go_at_call 46; refine (HL.out _ _ _ _ H1.out).mono ?_; rintro e W2 ⟨v, rfl, h2⟩; have H2 := hide h2; clear h2))
  go_ret
  exact ⟨v, rfl, H2.out.sub (.cons_cons _ (.cons _ (.cons _ (.cons _ (List.Sublist.refl _)))))⟩
end
end Go.Proofs.Ytjfejimghbohdaa
