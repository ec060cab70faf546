/-
  A locks.Table in memory, part by part; New. No condition.
-/
import Derived.Test.YtcmiboipgngjaaaB
import Derived.Test.YtcmiboipgngjaaaK
namespace Go.Proofs.Ytcmiboipgngjaaa
set_option linter.unusedVariables false
set_option linter.unusedSimpArgs false
open Go.RowKit Go.Maps

/-- an own map of ints to values -/
def mpA (b : Nat) (f : Int → Option Value) : Atom where
  b := some b
  Q W := ∃ s, OwnV Try.prog 3 W b f s
  loc := fun h ⟨s, hq⟩ => ⟨s, hq.same (h b rfl)⟩
  lt := fun ⟨s, hq⟩ k hk => by cases hk; exact hq.lt
def cellsK (l : List Lk) : List Value := l.flatMap Lk.cells
/-- a thing, with its block and the two slices there -/
structure Tm where
  n : Int
  x : Nat
  vh : Value
  vw : Value
  h : List Lk
  w : List Lk
def Tm.parts (t : Tm) : List Atom := [blkA t.x #[t.vh, t.vw] 59, offA 3 t.vh t.h.length (cellsK t.h), offA 3 t.vw t.w.length (cellsK t.w)]
def locT (l : List Tm) : Int → Option Value := fun n => (l.find? (fun t => t.n == n)).map (fun t => .pointer (some ⟨t.x, 0, none⟩))
def waitF (f : Int → Option Lk) : Int → Option Value := fun x => (f x).map Lk.v
/-- a part that holds a map as a function, in block bt -/
structure MapLike (bt : Nat) (M : (Int → Option Value) → Atom) : Prop where
  b : ∀ φ, (M φ).b = some bt
  own : ∀ φ W, (M φ).Q W → ∃ s, OwnV Try.prog 3 W bt φ s
theorem mlike (bt : Nat) : MapLike bt (mpA bt) := ⟨fun _ => rfl, fun _ _ h => h⟩
def tPartsM (M : (Int → Option Value) → Atom) (g bt bw : Nat) (l : List Tm) (f : Int → Option Lk) : List Atom := blkA g #[.map (some bt), .map (some bw)] 53 :: M (locT l) :: mpA bw (waitF f) :: l.flatMap Tm.parts
abbrev tParts (g bt bw : Nat) (l : List Tm) (f : Int → Option Lk) : List Atom := tPartsM (mpA bt) g bt bw l f
section
variable {n : Nat} {w W : World} {F : List Atom}
theorem new_c (h : Own n w W F) : Calls Try.prog 10 #[] W fun e W' => ∃ g bt bw, e = .returned (.pointer (some ⟨g, 0, none⟩)) ∧ Own n w W' (tParts g bt bw [] (fun _ => none) ++ F) := by
  have H := hide h
  clear h
  have hmm := @run_makeMap Try.prog
  go_enter Try.func10, Try.ntmps10
  go_wp2
  go_ret
  have h1 := H.out.new (.map #[] 0) (mpA W.heap.size (locT [])) rfl ⟨0, OwnV.made W Try.prog 3⟩
  have h2 := h1.new (.map #[] 0) (mpA (W.alloc (.map #[] 0)).heap.size (waitF (fun _ => none))) rfl ⟨0, OwnV.made _ Try.prog 3⟩
  have h4 := h2.newBlk #[.map (some W.heap.size), .map (some (W.alloc (.map #[] 0)).heap.size)] 53
  refine ⟨_, W.heap.size, (W.alloc (.map #[] 0)).heap.size, rfl, ?_⟩
  have h5 := h4.perm (bs := tParts (((W.alloc (.map #[] 0)).alloc (.map #[] 0)).heap.size) W.heap.size (W.alloc (.map #[] 0)).heap.size [] (fun _ => none) ++ F) (by
    unfold tParts tPartsM
    simp only [List.flatMap_nil, List.cons_append, List.nil_append]
    exact (List.Perm.swap _ _ _).cons _)
  simpa using h5
end
end Go.Proofs.Ytcmiboipgngjaaa
