/-
  What lies in memory while walk.Paths goes down: the consumer's row, the iterator's walker and maps.
-/
import Derived.Test.YtnmlmbbacicojaaJ
import Derived.Test.YtnmlmbbacicojaaR
import Derived.Maps.OwnIn
import Derived.Deep.QuietTactic
import Derived.BigQuiet
namespace Go.Proofs.Ytnmlmbbacicojaa
set_option linter.unusedVariables false
set_option linter.unusedSimpArgs false
open Go.RowKit Go.Maps Go.Proofs.YtnmlmbbacicojaaW.PrintWords Go.Proofs.YtnmlmbbacicojaaW.PrintLast Go.Proofs.YtnmlmbbacicojaaW.PrintMore Go.Proofs.Ytnmlmbbacicojaa.PWalkSame

/-- the consumer: a box with a row of the paths so far -/
def ConsP (n : Nat) (w : World) (out : List ByteArray) (W : World) : Prop := (∃ v, Boxed W n 44 v ∧ W.ownsRow (n + 2) 9 1 v out.length (out.map Value.string)) ∧ Below n w W
/-- a block that neither the consumer nor the loop's record is -/
def kindOk : Obj → Prop
  | .map _ _ => True
  | .cells _ t _ => t ≠ 9
  | _ => False
def KeepP (n : Nat) (W0 W : World) : Prop := W0.heap.size ≤ W.heap.size ∧ ∀ b o, W0.heap[b]? = some o → b ≠ n → kindOk o → W.heap[b]? = some o
theorem KeepP.refl (n : Nat) (W : World) : KeepP n W W := ⟨Nat.le_refl _, fun _ _ h _ _ => h⟩
theorem KeepP.trans {n : Nat} {A B C : World} (h : KeepP n A B) (k : KeepP n B C) : KeepP n A C := ⟨Nat.le_trans h.1 k.1, fun b o h1 h2 h3 => k.2 b o (h.2 b o h1 h2 h3) h2 h3⟩
theorem ConsP.drewN {n : Nat} {w W : World} {out : List ByteArray} (h : ConsP n w out W) (q : Nat) : ConsP n w out (W.drewN q) := by
  obtain ⟨⟨v, h1, h2⟩, h3⟩ := h
  exact ⟨⟨v, h1, h2⟩, ⟨h3.os, h3.tape, h3.output, h3.size, h3.block⟩⟩
theorem ConsP.alloc {n : Nat} {w W : World} {out : List ByteArray} (h : ConsP n w out W) (o : Obj) : ConsP n w out (W.alloc o) := by
  obtain ⟨⟨v, h1, h2⟩, h3⟩ := h
  exact ⟨⟨v, h1.alloc _, h2.alloc _⟩, h3.alloc (by have := h1.lt; omega) _⟩
/-- another block than the consumer's has turned -/
theorem ConsP.turned {n : Nat} {w W W' : World} {out : List ByteArray} {b : Nat} (h : ConsP n w out W) (hg : W.grownBy W' (some b)) (hb : ∀ c t, W.heap[b]? ≠ some (.cells c t (0, 0))) (hn : n ≤ b) : ConsP n w out W' := by
  obtain ⟨⟨v, h1, h2⟩, h3⟩ := h
  refine ⟨⟨v, h1.kept hg (fun e => ?_), h2.kept hg ?_⟩, h3.grown hg (by have := h1.lt; omega) (fun k e => by cases e; exact hn)⟩
  · cases e
    exact hb _ _ (show W.heap[n]? = _ from h1)
  · by_cases e : v.ownBlock = none
    · exact .inl e
    · refine .inr fun e2 => ?_
      obtain ⟨cells, hc⟩ := own_typed h2 b e2
      exact hb _ _ hc
theorem ConsP.putObj {n : Nat} {w W : World} {out : List ByteArray} {l : Nat} {r : Loop} (o' : Obj) (h : ConsP n w out W) (hl : W.heap[l]? = some (.loop r)) (hn : n ≤ l) : ConsP n w out (W.putObj l o') := by
  obtain ⟨⟨v, h1, h2⟩, h3⟩ := h
  exact ⟨⟨v, boxed_putLoop _ h1 hl rfl, ownsRow_putObj h2 _ hl rfl⟩, below_putObj _ h3 hn (Array.getElem?_eq_some_iff.1 hl).1⟩
theorem KeepP.putObj {n : Nat} {W0 W : World} {l : Nat} {r : Loop} (o' : Obj) (h : KeepP n W0 W) (hl : W.heap[l]? = some (.loop r)) : KeepP n W0 (W.putObj l o') := by
  refine ⟨by have := h.1; simp [World.putObj]; exact this, fun b o h1 h2 h3 => ?_⟩
  have := h.2 b o h1 h2 h3
  refine (World.putObj_heap_other (fun e => ?_)).trans this
  subst e
  rw [hl] at this
  injection this with this
  subst this
  exact h3
/-- the iterator: the walker and its maps -/
def ItP (l : List S30) (A : Option Addr) (N c n bw ba bi : Nat) (g : Int → Bool) (W : World) : Prop :=
  W.heap[bw]? = some (.cells #[.slice A N c, .map (some ba), .map (some bi)] 84 (0, 0)) ∧ (∃ m, OwnII Try.prog 3 3 W ba m (atF l)) ∧ (∃ m, m + left l g ≤ l.length ∧ OwnIB Try.prog 3 4 W bi m g) ∧ (n < bw ∧ n < ba ∧ n < bi ∧ ba ≠ bi)
section
variable {l : List S30} {A : Option Addr} {N c n bw ba bi : Nat} {g : Int → Bool} {W W' : World}
theorem ItP.keep (h : ItP l A N c n bw ba bi g W) (hk : KeepP n W W') : ItP l A N c n bw ba bi g W' := by
  obtain ⟨h1, ⟨m, h2⟩, ⟨m', h3, h4⟩, h5⟩ := h
  obtain ⟨es, ck, e1⟩ := h2.obj
  obtain ⟨es', ck', e2⟩ := h4.obj
  exact ⟨hk.2 _ _ h1 (by omega) (by simp [kindOk]), ⟨m, h2.same ((hk.2 _ _ e1 (by omega) trivial).trans e1.symm)⟩, ⟨m', h3, h4.same ((hk.2 _ _ e2 (by omega) trivial).trans e2.symm)⟩, h5⟩
theorem ItP.drewN (h : ItP l A N c n bw ba bi g W) (q : Nat) : ItP l A N c n bw ba bi g (W.drewN q) := h
theorem ItP.alloc (h : ItP l A N c n bw ba bi g W) (o : Obj) : ItP l A N c n bw ba bi g (W.alloc o) :=
  h.keep ⟨by simp, fun b o' h1 _ _ => (Below.heap_alloc _ _ _ (Array.getElem?_eq_some_iff.1 h1).1).trans h1⟩
theorem ItP.cells (h : ItP l A N c n bw ba bi g W) : W.cell? ⟨bw, 0, none⟩ = some (.slice A N c) ∧ W.cell? ⟨bw, 1, none⟩ = some (.map (some ba)) ∧ W.cell? ⟨bw, 2, none⟩ = some (.map (some bi)) := by
  obtain ⟨h1, _⟩ := h
  exact ⟨blk_cell h1 0, blk_cell h1 1, blk_cell h1 2⟩
end
theorem wfk {k : Nat} (h : k ≤ 140737488355328) : (Lit.int .i64 (k : Int)).wf = true := WalkArith.wf_i64 ⟨by omega, by omega⟩
end Go.Proofs.Ytnmlmbbacicojaa
