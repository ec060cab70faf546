/-
  A law of this session for 'for x := range f { .. }' over a function: the iterator's body and the loop's body are walked over ONE invariant of the caller's. No condition on a program.
-/
import Derived.Test.YtlpdhmkcbdhelaaG
import Derived.RangeFuncNested
import Derived.RangeFuncBound
import Derived.RangeFuncCalls
import Derived.RangeFuncLeaves
import Derived.RangeFuncBox
import Derived.Shelf.Abstract
import Derived.Shelf.RegionOpen
import Derived.OwnWalkIn
import Derived.TacticsInMore
import Derived.LoopNIn
import Derived.LoopIn
namespace Go.Proofs.Ytlpdhmkcbdhelaa
open Go.RowKit
set_option linter.unusedVariables false
set_option linter.unusedSimpArgs false

/-- the loop's record is ready, no deferred call waits -/
def Ready (L : Nat) (rec : LoopState → Option Code → Loop) (W : World) : Prop := W.heap[L + 1]? = some (.loop (rec .ready none)) ∧ W.heap[L]? = some (.deferred (some []))
/-- a round has left by the jump c -/
def Stopped (L : Nat) (rec : LoopState → Option Code → Loop) (c : Code) (W : World) : Prop := W.heap[L + 1]? = some (.loop (rec .done (some c))) ∧ W.heap[L]? = some (.deferred (some []))
/-- the two records lie as they lay -/
def Keeps2 (L : Nat) (W W' : World) : Prop := ∀ k o, (k = L ∨ k = L + 1) → W.heap[k]? = some o → o.isCells = false → W'.heap[k]? = some o
theorem Keeps2.of_others {L : Nat} {W W' : World} (h : KeepsOthers W W') : Keeps2 L W W' := fun k o _ hk ho => h.same k o hk ho
theorem Keeps2.refl (L : Nat) (W : World) : Keeps2 L W W := fun _ _ _ h _ => h
theorem Keeps2.trans {L : Nat} {A B C : World} (h : Keeps2 L A B) (k : Keeps2 L B C) : Keeps2 L A C := fun i o hi ho hc => k i o hi (h i o hi ho hc) hc
theorem Keeps2.alloc (L : Nat) (W : World) (o : Obj) : Keeps2 L W (W.alloc o) := .of_others (KeepsOthers.alloc W o)
theorem Keeps2.setCell (L : Nat) (W : World) (a : Addr) (v : Value) : Keeps2 L W (W.setCell a v) := .of_others (KeepsOthers.setCell W a v)
theorem Keeps2.drewN (L : Nat) (W : World) (n : Nat) : Keeps2 L W (W.drewN n) := fun _ _ _ h _ => h
theorem Keeps2.grown {L : Nat} {W W' : World} {row : Option Nat} (hg : W.grownBy W' row) (h1 : row ≠ some L) (h2 : row ≠ some (L + 1)) : Keeps2 L W W' := fun k o hk ho _ => by
  have hlt : k < W.heap.size := (Array.getElem?_eq_some_iff.1 ho).1
  refine (hg.block k hlt ?_).trans ho
  rcases hk with rfl | rfl
  · exact fun e => h1 e.symm
  · exact fun e => h2 e.symm
theorem Ready.keeps {L : Nat} {rec : LoopState → Option Code → Loop} {W W' : World} (h : Ready L rec W) (hk : Keeps2 L W W') : Ready L rec W' :=
  ⟨hk _ _ (.inr rfl) h.1 rfl, hk _ _ (.inl rfl) h.2 rfl⟩
theorem Stopped.keeps {L : Nat} {rec : LoopState → Option Code → Loop} {c : Code} {W W' : World} (h : Stopped L rec c W) (hk : Keeps2 L W W') : Stopped L rec c W' :=
  ⟨hk _ _ (.inr rfl) h.1 rfl, hk _ _ (.inl rfl) h.2 rfl⟩
theorem Ready.lt {L : Nat} {rec : LoopState → Option Code → Loop} {W : World} (h : Ready L rec W) : L + 1 < W.heap.size := (Array.getElem?_eq_some_iff.1 h.1).1

/-- a fact on cells abides a turn of a block that is no cells -/
theorem cell_putObj {W : World} {l : Nat} {r : Loop} {a : Addr} {v : Value} (o' : Obj) (h : W.cell? a = some v) (hl : W.heap[l]? = some (.loop r)) : (W.putObj l o').cell? a = some v := by
  by_cases e : a.block = l
  · unfold World.cell? at h; rw [e, hl] at h; simp at h
  · exact (World.cell?_of_block (World.putObj_heap_other e)).trans h
theorem frozen_putObj {W : World} {l : Nat} {r : Loop} {a : Addr} {v : Value} (o' : Obj) (h : W.cell? a = some v) (hl : W.heap[l]? = some (.loop r)) : (W.putObj l o').frozen? a = W.frozen? a := by
  by_cases e : a.block = l
  · unfold World.cell? at h; rw [e, hl] at h; simp at h
  · exact World.frozen?_of_block (World.putObj_heap_other e)
theorem below_putObj {n₀ : Nat} {w W : World} {l : Nat} (o' : Obj) (h : Below n₀ w W) (hl : n₀ ≤ l) (hlt : l < W.heap.size) : Below n₀ w (W.putObj l o') :=
  h.grown (grownBy_putObj' W l o') (by omega) (fun k e => by cases e; omega)
theorem boxed_putLoop {W : World} {B l : Nat} {t : TypeId} {v : Value} {o : Obj} (o' : Obj) (h : Boxed W B t v) (hl : W.heap[l]? = some o) (ho : o.isCells = false) : Boxed (W.putObj l o') B t v := by
  refine (World.putObj_heap_other (fun e => ?_)).trans h
  subst e
  have := (show W.heap[B]? = _ from h).symm.trans hl
  injection this with this
  subst this
  cases ho
theorem boxed_other {W : World} {B : Nat} {t : TypeId} {v : Value} {a : Addr} (u : Value) (h : Boxed W B t v) (hne : B ≠ a.block) : Boxed (W.setCell a u) B t v := (Below.heap_setCell W a u B hne).trans h
theorem ownsRow_far {W : World} {base : Nat} {e : TypeId} {size n : Nat} {v : Value} {xs : List Value} (h : W.ownsRow base e size v n xs) {a : Addr} (ha : a.block < base) (u : Value) : (W.setCell a u).ownsRow base e size v n xs := ownsRow_setCell_below h ha u
/-- a call under the wide fence is a plain call -/
theorem wide_calls {P : Program} {n : Nat} {f : FuncId} {args : Array Value} {w : World} {R : Ending → World → Prop} (h : Calls P f args w R) : Fence.wide.fn f ∧ Fence.wide.depth = none ∧ CallsIn Fence.wide n P f args w R := ⟨trivial, rfl, callsIn_wide.2 h⟩
theorem wide_callsR {P : Program} {n l : Nat} {f : FuncId} {args : Array Value} {w : World} {R : Ending → World → Prop} (h : Calls P f args w R) : Fence.wide.fn f ∧ Fence.wide.depth = none ∧ CallsIn (Fence.wide.inRound l) n P f args w R := ⟨trivial, rfl, CallsIn.inRound l (callsIn_wide.2 h)⟩
/-- an invariant abides the turns of the loop's record at block L + 1 -/
def Abide (L : Nat) (I : World → Prop) : Prop := ∀ W (r : Loop) (o' : Obj), I W → W.heap[L + 1]? = some (.loop r) → I (W.putObj (L + 1) o')

/-- how the body of a round may be left -/
def dirPost {σ : Type} (L : Nat) (J : σ → World → Prop) (Jx : σ → Code → World → Prop) (s : σ) (W : World) : Exit → Act → World → Prop
  | .normal, _, W' => Keeps2 L W W' ∧ J s W'
  | .ret, _, W' => Keeps2 L W W' ∧ Jx s .ret W'
  | .exit id, _, W' => Keeps2 L W W' ∧ Jx s (.exit id) W'
  | .goto t, _, W' => Keeps2 L W W' ∧ Jx s (.goto t) W'
  | .panic _, _, _ => False
  | .outgrown, _, _ => False

theorem wpIn_rangeFunc_dir {P : Program} {σ : Type} {g : Operand} {ps : Array Tmp} {assign body : Code} {Q : Exit → Act → World → Prop} {a : Act} {w : World}
    {gf : Nat} {lb : Array Value} (hg : a.eval g = .func (.func gf) #[] lb) (eg : ∀ args w, (callFunc gf args).run P w = .ok (.enter gf args) w)
    (I J : σ → World → Prop) (Jx : σ → Code → World → Prop) (Mid : σ → Act → World → Prop) (Done : World → Prop) (xs : σ → Array Value)
    (hI : ∀ s, Abide w.heap.size (I s)) (hJ : ∀ s, Abide w.heap.size (J s)) (hJx : ∀ s c, Abide w.heap.size (Jx s c)) (hMid : ∀ s a₁, Abide w.heap.size (Mid s a₁)) (hDone : Abide w.heap.size Done)
    (hps : ∀ s, (xs s).size = ps.size)
    (hassign : ∀ l s W, I s W → l = w.heap.size + 1 → assign.wpIn (Fence.wide.inRound l) 0 P (Exit.then (fun a₁ w₁ => Keeps2 w.heap.size W w₁ ∧ Mid s a₁ w₁) (fun _ _ _ => False))
      { tmps := (ps.zip (xs s)).foldl (fun t (p, v) => t.setIfInBounds p v) a.tmps, defers := [] } W)
    (hbody : ∀ l s a₁ W, l = w.heap.size + 1 → Mid s a₁ W → body.wpIn (Fence.wide.inRound l) 0 P (dirPost w.heap.size J Jx s W) a₁ W)
    (hiter : ∀ (rec : LoopState → Option Code → Loop) (W1 : World), W1 = (w.alloc (.deferred (some []))).alloc (.loop (rec .ready none)) → Ready w.heap.size rec W1 →
      (∀ s W, I s W → Ready w.heap.size rec W → YieldAt Fence.wide 0 P (w.heap.size + 1) (xs s) W fun e W' =>
        (e = .returned (.bool true) ∧ J s W' ∧ Ready w.heap.size rec W') ∨ (e = .returned (.bool false) ∧ ∃ c, Jx s c W' ∧ Stopped w.heap.size rec c W')) →
      CallsIn Fence.wide 0 P gf (#[.func (.yield (w.heap.size + 1)) #[] #[]] ++ lb) W1 fun e W' => (∃ v, e = .returned v) ∧
        ((Done W' ∧ Ready w.heap.size rec W') ∨ (∃ s c, Jx s c W' ∧ Stopped w.heap.size rec c W')))
    (hdone : ∀ W, Done W → W.heap[w.heap.size]? = some (.deferred (some [])) → Q .normal { a with defers := { target := .collected w.heap.size, args := #[] } :: a.defers } W)
    (hstop : ∀ s c W, Jx s c W → W.heap[w.heap.size]? = some (.deferred (some [])) → c.wpIn Fence.wide 0 P Q { a with defers := { target := .collected w.heap.size, args := #[] } :: a.defers } W) :
    (Code.rangeFunc g ps assign body).wpIn Fence.wide 0 P Q a w := by
  refine wpIn_rangeFunc ?_
  intro fn hfn
  obtain ⟨rec, hrec⟩ : ∃ rec : LoopState → Option Code → Loop, rec = fun st pe => { state := st, pending := pe, fn, tmps := a.tmps, params := ps, assign, body, defers := w.heap.size } := ⟨_, rfl⟩
  obtain ⟨W1, hW1⟩ : ∃ W1, (w.alloc (.deferred (some []))).alloc (.loop (rec .ready none)) = W1 := ⟨_, rfl⟩
  have hL1 : W1.heap[w.heap.size + 1]? = some (.loop (rec .ready none)) := by
    rw [← hW1]; have := World.alloc_heap_new (w.alloc (.deferred (some []))) (.loop (rec .ready none)); rwa [World.size_alloc] at this
  have hK1 : W1.heap[w.heap.size]? = some (.deferred (some [])) := by
    rw [← hW1]; exact (Below.heap_alloc _ _ _ (by simp)).trans (World.alloc_heap_new w _)
  refine ⟨w.heap.size + 1, [{ target := .collected w.heap.size, args := #[] }], W1, { target := .fn (.func gf) lb, args := #[.func (.yield (w.heap.size + 1)) #[] #[]] }, W1, gf,
    #[.func (.yield (w.heap.size + 1)) #[] #[]] ++ lb, W1, ?_, ?_, ?_, ?_, fun h => by simp [Fence.wide] at h, ?_⟩
  · rw [← hW1, hrec]; exact run_enterLoop_outer _ _ _ _ _
  · simp only [resolve, hg]
    simp [go_sem]
  · intro f' hf'; trivial
  · simp [invoke, go_sem, eg]
  · refine (hiter rec W1 hW1.symm ⟨hL1, hK1⟩ ?_).mono ?_
    · -- one round
      rintro s W hi ⟨hl, hk⟩
      have hlt : w.heap.size + 1 < W.heap.size := (Array.getElem?_eq_some_iff.1 hl).1
      have hy := run_yield (P := P) (args := xs s) hl (by rw [hrec]; exact hps s)
      rw [hrec] at hy
      refine ⟨fn, _, assign, body, hy, roundIn_of_wpIn hfn ?_⟩
      refine wpIn_mono (hassign _ s W hi rfl) ?_
      rintro e a3 W2 hp
      cases e with
      | normal =>
        obtain ⟨hk2, hm2⟩ := hp
        have hl2 := hk2 _ _ (.inr rfl) hl rfl
        have hd2 := hk2 _ _ (.inl rfl) hk rfl
        have hlt2 : w.heap.size + 1 < W2.heap.size := (Array.getElem?_eq_some_iff.1 hl2).1
        refine ⟨_, run_beginRound hl2 (by rw [hrec]), ?_⟩
        have hl3 : (W2.putObj (w.heap.size + 1) (.loop { rec .ready none with state := .busy })).heap[w.heap.size + 1]? = some (.loop { rec .ready none with state := .busy }) := World.putObj_heap_same hlt2
        have hd3 : (W2.putObj (w.heap.size + 1) (.loop { rec .ready none with state := .busy })).heap[w.heap.size]? = some (.deferred (some [])) := (World.putObj_heap_other (by omega)).trans hd2
        refine wpIn_mono (hbody _ s a3 _ rfl (hMid s a3 _ _ _ hm2 hl2)) ?_
        have fin : ∀ (jump : Option Code) (W3 : World), Keeps2 w.heap.size (W2.putObj (w.heap.size + 1) (.loop { rec .ready none with state := .busy })) W3 →
            (Instr.endRound (w.heap.size + 1) jump).run P W3 = .ok (.bool jump.isNone) (W3.putObj (w.heap.size + 1) (.loop (rec (if jump.isNone then .ready else .done) jump))) ∧
            W3.heap[w.heap.size + 1]? = some (.loop { rec .ready none with state := .busy }) ∧
            (W3.putObj (w.heap.size + 1) (.loop (rec (if jump.isNone then .ready else .done) jump))).heap[w.heap.size + 1]? = some (.loop (rec (if jump.isNone then .ready else .done) jump)) ∧
            (W3.putObj (w.heap.size + 1) (.loop (rec (if jump.isNone then .ready else .done) jump))).heap[w.heap.size]? = some (.deferred (some [])) := fun jump W3 hk3 => by
          have hl4 := hk3 _ _ (.inr rfl) hl3 rfl
          have := run_endRound (P := P) jump hl4
          rw [hrec] at this ⊢
          exact ⟨this, by rw [hrec] at hl4; exact hl4, World.putObj_heap_same (Array.getElem?_eq_some_iff.1 hl4).1, (World.putObj_heap_other (by omega)).trans (hk3 _ _ (.inl rfl) hd3 rfl)⟩
        rintro e a4 W3 hp
        cases e with
        | normal =>
          obtain ⟨hk3, hi3⟩ := hp
          obtain ⟨hr, hl5, hl6, hk6⟩ := fin none W3 hk3
          exact ⟨_, _, hr, .inl ⟨rfl, hJ s _ _ _ hi3 hl5, hl6, hk6⟩⟩
        | ret =>
          obtain ⟨hk3, hi3⟩ := hp
          obtain ⟨hr, hl5, hl6, hk6⟩ := fin (some .ret) W3 hk3
          exact ⟨_, _, hr, .inr ⟨rfl, .ret, hJx s _ _ _ _ hi3 hl5, hl6, hk6⟩⟩
        | exit id =>
          obtain ⟨hk3, hi3⟩ := hp
          obtain ⟨hr, hl5, hl6, hk6⟩ := fin (some (.exit id)) W3 hk3
          exact ⟨_, _, hr, .inr ⟨rfl, .exit id, hJx s _ _ _ _ hi3 hl5, hl6, hk6⟩⟩
        | goto t =>
          obtain ⟨hk3, hi3⟩ := hp
          obtain ⟨hr, hl5, hl6, hk6⟩ := fin (some (.goto t)) W3 hk3
          exact ⟨_, _, hr, .inr ⟨rfl, .goto t, hJx s _ _ _ _ hi3 hl5, hl6, hk6⟩⟩
        | panic ch => exact hp.elim
        | outgrown => exact hp.elim
      | ret => exact hp.elim
      | exit id => exact hp.elim
      | goto t => exact hp.elim
      | panic ch => exact hp.elim
      | outgrown => exact hp.elim
    · -- behind the iterator
      rintro e W2 ⟨⟨v, rfl⟩, (⟨hd, hl, hk⟩ | ⟨s, c, hi, hl, hk⟩)⟩
      · exact ⟨none, _, by have := run_endLoop (P := P) hl (by rw [hrec]; simp); rw [hrec] at this; exact this, hdone _ (hDone _ _ _ hd hl) ((World.putObj_heap_other (by omega)).trans hk)⟩
      · exact ⟨some c, _, by have := run_endLoop (P := P) hl (by rw [hrec]; simp); rw [hrec] at this; exact this, hstop s c _ (hJx s c _ _ _ hi hl) ((World.putObj_heap_other (by omega)).trans hk)⟩
/-- an append of the call's own row whose head lies in a box below the rows -/
theorem appended_box {W w1 : World} {n₀ B : Nat} {t e : TypeId} {size : Nat} {v : Value} {k : Nat} {xs : List Value} {tmp : Obj}
    (hv : Boxed W B t v) (hrow : W.ownsRow n₀ e size v k xs) (hB : B < n₀) (hgrow : (W.alloc tmp).grownBy w1 v.ownBlock) :
    (∀ B' t' u, B' < n₀ → Boxed W B' t' u → Boxed w1 B' t' u) ∧ KeepsOthers W w1 := by
  have hne : ∀ j, v.ownBlock = some j → n₀ ≤ j := fun j hj => (hrow.lt j hj).1
  refine ⟨fun B' t' u hB' h => (h.alloc tmp).kept hgrow (fun e' => ?_), ?_⟩
  · have := hne B' e'.symm; omega
  · refine (KeepsOthers.alloc W tmp).trans (KeepsOthers.of_grownBy hgrow fun j o ej hj => ?_)
    rcases (hrow.alloc tmp).2 with ⟨rfl, _⟩ | ⟨g, cap, cur, rfl, _, hgb, _⟩
    · simp [Value.ownBlock] at ej
    · obtain rfl : g = j := by simpa [Value.ownBlock] using ej
      rw [hgb] at hj; cases hj; rfl
theorem stored_box {w1 : World} {n₀ B : Nat} {t e : TypeId} {size : Nat} {v v' : Value} {m : Nat} {ys : List Value}
    (hv : Boxed w1 B t v) (hown' : w1.ownsRow n₀ e size v' m ys) (hB : B < n₀) :
    (∀ B' t' u, B' ≠ B → Boxed w1 B' t' u → Boxed (w1.setCell ⟨B, 0, none⟩ v') B' t' u) ∧ Boxed (w1.setCell ⟨B, 0, none⟩ v') B t v' ∧ (w1.setCell ⟨B, 0, none⟩ v').ownsRow n₀ e size v' m ys ∧ KeepsOthers w1 (w1.setCell ⟨B, 0, none⟩ v') :=
  ⟨fun B' t' u hne h => boxed_other _ h hne, hv.set v', ownsRow_far hown' hB _, KeepsOthers.setCell _ _ _⟩
/-- the records are laid -/
theorem below_records {n₀ : Nat} {w : World} (o o' : Obj) (h : n₀ ≤ w.heap.size) : Below n₀ w ((w.alloc o).alloc o') := ((Below.refl _ _).alloc h _).alloc (by simp; omega) _
end Go.Proofs.Ytlpdhmkcbdhelaa
