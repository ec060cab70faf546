/-
  Contracts of the small functions under path.Split: Cut at a slash, Name, the iterator's maker. Conditions: a string's length is one.
  A law of this session for 'for x := range f { .. }' over a function: the iterator's body and the loop's body are walked over ONE invariant of the caller's. No condition on a program.
  The contract of path.Split: the parts of a path in new memory, or nil and the errno 15. Condition: a string's length is one.
  The contract of walk.Find. Conditions: the nodes are as they came in; the path is shorter than memory.
  The contract of the document's own At: the place of the first node of an inode.
  Plain laws of the document's own Name and Split (ported from chapter 8's text F).
  The contract of the document's own Find: it answers as walk.Find does. Conditions: the nodes are as they came in; the path is shorter than memory.
  General words over any program: a block that is known whole; what stores, allocations and appends leave of it. No condition on a program.
  What walk.Paths answers, as a plain function: no program in sight.
  What lies in memory while walk.Paths goes down: the consumer's row, the iterator's walker and maps.
-/
import Derived.Test.YtnmlmbbacicojaaMWalkFinds0
import Derived.Lib.CutLaws
import Derived.Deep.QuietTactic
import Derived.BigQuiet
import Derived.Deep.RegionWith
import Derived.RangeFuncNested
import Derived.RangeFuncBound
import Derived.RangeFuncCalls
import Derived.RangeFuncLeaves
import Derived.RangeFuncBox
import Derived.Shelf.Abstract
import Derived.Shelf.RegionOpen
import Derived.OwnWalkIn
import Derived.TacticsInMore
import Derived.LoopNIn
import Derived.LoopIn
import Derived.Outline
import Derived.Test.YtnmlmbbacicojaaPWalkFindsx3
import Derived.Maps.OwnIn
namespace Go.Proofs.Ytnmlmbbacicojaa
set_option linter.unusedVariables false
set_option linter.unusedSimpArgs false
open Go.RowKit

def slash : ByteArray := ⟨#[47]⟩
theorem cut_c (s : ByteArray) (w : World) (hs : s.size ≤ 140737488355328) :
    Calls Try.prog 52 #[.string s, .string ⟨#[47]⟩] w fun e w' => ∃ a b f, e = .returned (.tuple #[.string (bs a), .string (bs b), .bool f]) ∧ (∃ n, w' = w.drewN n) ∧
      ((f = false ∧ a = s.data.toList ∧ b = [] ∧ (47 : UInt8) ∉ a) ∨ (f = true ∧ s.data.toList = a ++ 47 :: b ∧ (47 : UInt8) ∉ a)) := by
  rcases idx_cases s.data.toList 47 with ⟨h1, h2⟩ | ⟨a, b, hab, h2, h3⟩
  · have E := hide h1
    clear h1
    go_enter Try.func52, Try.ntmps52
    go_wp2_with (go_at_call 54; refine (Try.stringslite_Index_one s 47 _).mono ?_; rintro e w' ⟨rfl, rfl⟩; rw [E.out])
    go_ret3
    exact ⟨s.data.toList, [], false, by rw [bs_of]; rfl, ⟨0, rfl⟩, .inl ⟨rfl, rfl, rfl, h2⟩⟩
  · have E := hide h3
    have hl : s.size = a.length + (b.length + 1) := by rw [size_toList, hab]; simp
    have HA := hide (show s.extract 0 a.length = bs a from ba_ext (by rw [Lib.extract_data, hab]; simp))
    have HB := hide (show s.extract (a.length + 1) s.size = bs b from ba_ext (by rw [Lib.extract_to_end, hab]; simp))
    have HX := hide hab
    clear h3 hab
    have c1 : (0 : Int) ≤ ↑a.length := by omega
    have c2 : (↑a.length : Int) ≤ ↑s.size := by omega
    have c3 : (0 : Int) ≤ ↑a.length + 1 := by omega
    have c4 : (↑a.length + 1 : Int) ≤ ↑s.size := by omega
    clear hl
    go_enter Try.func52, Try.ntmps52
    go_wp2_with (go_at_call 54; refine (Try.stringslite_Index_one s 47 _).mono ?_; rintro e w' ⟨rfl, rfl⟩; rw [E.out])
    go_quiet (fail)
    go_wp2
    go_ret3
    exact ⟨a, b, true, by first | rfl | (simp [HA.out, HB.out]), ⟨_, rfl⟩, .inr ⟨rfl, HX.out, h2⟩⟩
/-- strings.Cut at a slash -/
theorem strCut_c (s : ByteArray) (w : World) (hs : s.size ≤ 140737488355328) :
    Calls Try.prog 49 #[.string s, .string ⟨#[47]⟩] w fun e w' => ∃ a b f, e = .returned (.tuple #[.string (bs a), .string (bs b), .bool f]) ∧ (∃ n, w' = w.drewN n) ∧
      ((f = false ∧ a = s.data.toList ∧ b = [] ∧ (47 : UInt8) ∉ a) ∨ (f = true ∧ s.data.toList = a ++ 47 :: b ∧ (47 : UInt8) ∉ a)) := by
  go_enter Try.func49, Try.ntmps49
  go_wp2_with (go_at_call 52; refine (cut_c s _ hs).mono ?_; rintro e w' ⟨a, b, f, rfl, ⟨n, rfl⟩, hc⟩; have HC := hide hc; clear hc)
  go_ret3
  exact ⟨a, b, f, rfl, ⟨_, rfl⟩, HC.out⟩
theorem nameL_nil {l : Bytes8} (h : l = []) : nameL l = false := by subst h; rfl
theorem nameL_long {l : Bytes8} (h : 27 < l.length) : nameL l = false := by
  have : ¬ l.length ≤ 27 := by omega
  simp [nameL, this]
theorem nameL_mid {l : Bytes8} (h0 : l ≠ []) (h : l.length ≤ 27) : nameL l = (!(l.contains 0) && !(l.contains 47)) := by
  have : l.isEmpty = false := by simpa using h0
  simp [nameL, this, h]
theorem name_c (s : ByteArray) (w : World) :
    Calls Try.prog 41 #[.string s] w fun e w' => e = .returned (.bool (nameL s.data.toList)) ∧ w = w' := by
  have E0 := hide (idx_neg s.data.toList 0)
  have E1 := hide (idx_neg s.data.toList 47)
  have hsz := size_toList s
  by_cases h0 : s.data.toList = []
  · have F := hide (nameL_nil h0)
    have e0 : s.toList.isEmpty = true := by rw [ByteArray.toList_eq, h0]; rfl
    have e1 : s.toList = [] := by rw [ByteArray.toList_eq, h0]
    clear h0 hsz
    go_enter Try.func41, Try.ntmps41
    go_wp2
    go_ret
    exact ⟨by rw [F.out]; simp, rfl⟩
  · have e0 : s.toList.isEmpty = false := by rw [ByteArray.toList_eq]; simpa using h0
    by_cases h1 : 27 < s.data.toList.length
    · have F := hide (nameL_long h1)
      have h1' : (27 : Int) < (s.size : Int) := by omega
      clear h0 hsz h1
      go_enter Try.func41, Try.ntmps41
      go_wp2
      go_ret
      exact ⟨by rw [F.out]; simp, rfl⟩
    · have F := hide (nameL_mid h0 (by omega))
      have h1' : (s.size : Int) ≤ (27 : Int) := by omega
      clear h0 hsz h1
      obtain ⟨i0, hi0⟩ : ∃ i, Lib.indexByte s.data.toList 0 = i := ⟨_, rfl⟩
      obtain ⟨i1, hi1⟩ : ∃ i, Lib.indexByte s.data.toList 47 = i := ⟨_, rfl⟩
      have I0 := hide (show Lib.indexByte s.data.toList ((0 : Int).toNat.toUInt8) = i0 from hi0)
      have I1 := hide (show Lib.indexByte s.data.toList ((47 : Int).toNat.toUInt8) = i1 from hi1)
      have E0' := E0.out
      have E1' := E1.out
      rw [hi0] at E0'
      rw [hi1] at E1'
      have G := hide (show (decide (i0 < 0) && decide (i1 < 0)) = (!(s.data.toList.contains 0) && !(s.data.toList.contains 47)) by rw [E0', E1'])
      clear hi0 hi1 E0 E1 E0' E1'
      by_cases a0 : i0 < 0
      · by_cases a1 : i1 < 0
        · go_enter Try.func41, Try.ntmps41
          go_wp2_with (first | (go_at_call_of 50 (Value.int IntKind.u8 0); refine (Try.strings_IndexByte s 0 _).mono ?_; rintro e w' ⟨rfl, rfl⟩; rw [I0.out]) | (go_at_call_of 50 (Value.int IntKind.u8 47); refine (Try.strings_IndexByte s 47 _).mono ?_; rintro e w' ⟨rfl, rfl⟩; rw [I1.out]))
          go_ret
          exact ⟨by rw [F.out, ← G.out]; simp [a0, a1], rfl⟩
        · go_enter Try.func41, Try.ntmps41
          go_wp2_with (first | (go_at_call_of 50 (Value.int IntKind.u8 0); refine (Try.strings_IndexByte s 0 _).mono ?_; rintro e w' ⟨rfl, rfl⟩; rw [I0.out]) | (go_at_call_of 50 (Value.int IntKind.u8 47); refine (Try.strings_IndexByte s 47 _).mono ?_; rintro e w' ⟨rfl, rfl⟩; rw [I1.out]))
          go_ret
          exact ⟨by rw [F.out, ← G.out]; simp only [Ending.returned.injEq, Value.bool.injEq]; first | rfl | (simp; omega), rfl⟩
      · go_enter Try.func41, Try.ntmps41
        go_wp2_with (first | (go_at_call_of 50 (Value.int IntKind.u8 0); refine (Try.strings_IndexByte s 0 _).mono ?_; rintro e w' ⟨rfl, rfl⟩; rw [I0.out]) | (go_at_call_of 50 (Value.int IntKind.u8 47); refine (Try.strings_IndexByte s 47 _).mono ?_; rintro e w' ⟨rfl, rfl⟩; rw [I1.out]))
        go_ret
        exact ⟨by rw [F.out, ← G.out]; simp only [Ending.returned.injEq, Value.bool.injEq]; first | rfl | (simp; omega), rfl⟩
end Go.Proofs.Ytnmlmbbacicojaa
namespace Go.Proofs.Ytnmlmbbacicojaa
open Go.RowKit
set_option linter.unusedVariables false
set_option linter.unusedSimpArgs false

/-- the loop's record is ready, no deferred call waits -/
def Ready (L : Nat) (rec : LoopState → Option Code → Loop) (W : World) : Prop := W.heap[L + 1]? = some (.loop (rec .ready none)) ∧ W.heap[L]? = some (.deferred (some []))
/-- a round has left by the jump c -/
def Stopped (L : Nat) (rec : LoopState → Option Code → Loop) (c : Code) (W : World) : Prop := W.heap[L + 1]? = some (.loop (rec .done (some c))) ∧ W.heap[L]? = some (.deferred (some []))
/-- the two records lie as they lay -/
def Keeps2 (L : Nat) (W W' : World) : Prop := ∀ k o, (k = L ∨ k = L + 1) → W.heap[k]? = some o → o.isCells = false → W'.heap[k]? = some o
theorem Keeps2.of_others {L : Nat} {W W' : World} (h : KeepsOthers W W') : Keeps2 L W W' := fun k o _ hk ho => h.same k o hk ho
theorem Keeps2.refl (L : Nat) (W : World) : Keeps2 L W W := fun _ _ _ h _ => h
theorem Keeps2.trans {L : Nat} {A B C : World} (h : Keeps2 L A B) (k : Keeps2 L B C) : Keeps2 L A C := fun i o hi ho hc => k i o hi (h i o hi ho hc) hc
theorem Keeps2.alloc (L : Nat) (W : World) (o : Obj) : Keeps2 L W (W.alloc o) := .of_others (KeepsOthers.alloc W o)
theorem Keeps2.setCell (L : Nat) (W : World) (a : Addr) (v : Value) : Keeps2 L W (W.setCell a v) := .of_others (KeepsOthers.setCell W a v)
theorem Keeps2.drewN (L : Nat) (W : World) (n : Nat) : Keeps2 L W (W.drewN n) := fun _ _ _ h _ => h
theorem Keeps2.grown {L : Nat} {W W' : World} {row : Option Nat} (hg : W.grownBy W' row) (h1 : row ≠ some L) (h2 : row ≠ some (L + 1)) : Keeps2 L W W' := fun k o hk ho _ => by
  have hlt : k < W.heap.size := (Array.getElem?_eq_some_iff.1 ho).1
  refine (hg.block k hlt ?_).trans ho
  rcases hk with rfl | rfl
  · exact fun e => h1 e.symm
  · exact fun e => h2 e.symm
theorem Ready.keeps {L : Nat} {rec : LoopState → Option Code → Loop} {W W' : World} (h : Ready L rec W) (hk : Keeps2 L W W') : Ready L rec W' :=
  ⟨hk _ _ (.inr rfl) h.1 rfl, hk _ _ (.inl rfl) h.2 rfl⟩
theorem Stopped.keeps {L : Nat} {rec : LoopState → Option Code → Loop} {c : Code} {W W' : World} (h : Stopped L rec c W) (hk : Keeps2 L W W') : Stopped L rec c W' :=
  ⟨hk _ _ (.inr rfl) h.1 rfl, hk _ _ (.inl rfl) h.2 rfl⟩
theorem Ready.lt {L : Nat} {rec : LoopState → Option Code → Loop} {W : World} (h : Ready L rec W) : L + 1 < W.heap.size := (Array.getElem?_eq_some_iff.1 h.1).1

/-- a fact on cells abides a turn of a block that is no cells -/
theorem cell_putObj {W : World} {l : Nat} {r : Loop} {a : Addr} {v : Value} (o' : Obj) (h : W.cell? a = some v) (hl : W.heap[l]? = some (.loop r)) : (W.putObj l o').cell? a = some v := by
  by_cases e : a.block = l
  · unfold World.cell? at h; rw [e, hl] at h; simp at h
  · exact (World.cell?_of_block (World.putObj_heap_other e)).trans h
theorem frozen_putObj {W : World} {l : Nat} {r : Loop} {a : Addr} {v : Value} (o' : Obj) (h : W.cell? a = some v) (hl : W.heap[l]? = some (.loop r)) : (W.putObj l o').frozen? a = W.frozen? a := by
  by_cases e : a.block = l
  · unfold World.cell? at h; rw [e, hl] at h; simp at h
  · exact World.frozen?_of_block (World.putObj_heap_other e)
theorem below_putObj {n₀ : Nat} {w W : World} {l : Nat} (o' : Obj) (h : Below n₀ w W) (hl : n₀ ≤ l) (hlt : l < W.heap.size) : Below n₀ w (W.putObj l o') :=
  h.grown (grownBy_putObj' W l o') (by omega) (fun k e => by cases e; omega)
theorem boxed_putLoop {W : World} {B l : Nat} {t : TypeId} {v : Value} {o : Obj} (o' : Obj) (h : Boxed W B t v) (hl : W.heap[l]? = some o) (ho : o.isCells = false) : Boxed (W.putObj l o') B t v := by
  refine (World.putObj_heap_other (fun e => ?_)).trans h
  subst e
  have := (show W.heap[B]? = _ from h).symm.trans hl
  injection this with this
  subst this
  cases ho
theorem boxed_other {W : World} {B : Nat} {t : TypeId} {v : Value} {a : Addr} (u : Value) (h : Boxed W B t v) (hne : B ≠ a.block) : Boxed (W.setCell a u) B t v := (Below.heap_setCell W a u B hne).trans h
theorem ownsRow_far {W : World} {base : Nat} {e : TypeId} {size n : Nat} {v : Value} {xs : List Value} (h : W.ownsRow base e size v n xs) {a : Addr} (ha : a.block < base) (u : Value) : (W.setCell a u).ownsRow base e size v n xs := ownsRow_setCell_below h ha u
/-- a call under the wide fence is a plain call -/
theorem wide_calls {P : Program} {n : Nat} {f : FuncId} {args : Array Value} {w : World} {R : Ending → World → Prop} (h : Calls P f args w R) : Fence.wide.fn f ∧ Fence.wide.depth = none ∧ CallsIn Fence.wide n P f args w R := ⟨trivial, rfl, callsIn_wide.2 h⟩
theorem wide_callsR {P : Program} {n l : Nat} {f : FuncId} {args : Array Value} {w : World} {R : Ending → World → Prop} (h : Calls P f args w R) : Fence.wide.fn f ∧ Fence.wide.depth = none ∧ CallsIn (Fence.wide.inRound l) n P f args w R := ⟨trivial, rfl, CallsIn.inRound l (callsIn_wide.2 h)⟩
/-- an invariant abides the turns of the loop's record at block L + 1 -/
def Abide (L : Nat) (I : World → Prop) : Prop := ∀ W (r : Loop) (o' : Obj), I W → W.heap[L + 1]? = some (.loop r) → I (W.putObj (L + 1) o')

/-- how the body of a round may be left -/
def dirPost {σ : Type} (L : Nat) (J : σ → World → Prop) (Jx : σ → Code → World → Prop) (s : σ) (W : World) : Exit → Act → World → Prop
  | .normal, _, W' => Keeps2 L W W' ∧ J s W'
  | .ret, _, W' => Keeps2 L W W' ∧ Jx s .ret W'
  | .exit id, _, W' => Keeps2 L W W' ∧ Jx s (.exit id) W'
  | .goto t, _, W' => Keeps2 L W W' ∧ Jx s (.goto t) W'
  | .panic _, _, _ => False
  | .outgrown, _, _ => False

theorem wpIn_rangeFunc_dir {P : Program} {σ : Type} {g : Operand} {ps : Array Tmp} {assign body : Code} {Q : Exit → Act → World → Prop} {a : Act} {w : World}
    {gf : Nat} {lb : Array Value} (hg : a.eval g = .func (.func gf) #[] lb) (eg : ∀ args w, (callFunc gf args).run P w = .ok (.enter gf args) w)
    (I J : σ → World → Prop) (Jx : σ → Code → World → Prop) (Mid : σ → Act → World → Prop) (Done : World → Prop) (xs : σ → Array Value)
    (hI : ∀ s, Abide w.heap.size (I s)) (hJ : ∀ s, Abide w.heap.size (J s)) (hJx : ∀ s c, Abide w.heap.size (Jx s c)) (hMid : ∀ s a₁, Abide w.heap.size (Mid s a₁)) (hDone : Abide w.heap.size Done)
    (hps : ∀ s, (xs s).size = ps.size)
    (hassign : ∀ l s W, I s W → l = w.heap.size + 1 → assign.wpIn (Fence.wide.inRound l) 0 P (Exit.then (fun a₁ w₁ => Keeps2 w.heap.size W w₁ ∧ Mid s a₁ w₁) (fun _ _ _ => False))
      { tmps := (ps.zip (xs s)).foldl (fun t (p, v) => t.setIfInBounds p v) a.tmps, defers := [] } W)
    (hbody : ∀ l s a₁ W, l = w.heap.size + 1 → Mid s a₁ W → body.wpIn (Fence.wide.inRound l) 0 P (dirPost w.heap.size J Jx s W) a₁ W)
    (hiter : ∀ (rec : LoopState → Option Code → Loop) (W1 : World), W1 = (w.alloc (.deferred (some []))).alloc (.loop (rec .ready none)) → Ready w.heap.size rec W1 →
      (∀ s W, I s W → Ready w.heap.size rec W → YieldAt Fence.wide 0 P (w.heap.size + 1) (xs s) W fun e W' =>
        (e = .returned (.bool true) ∧ J s W' ∧ Ready w.heap.size rec W') ∨ (e = .returned (.bool false) ∧ ∃ c, Jx s c W' ∧ Stopped w.heap.size rec c W')) →
      CallsIn Fence.wide 0 P gf (#[.func (.yield (w.heap.size + 1)) #[] #[]] ++ lb) W1 fun e W' => (∃ v, e = .returned v) ∧
        ((Done W' ∧ Ready w.heap.size rec W') ∨ (∃ s c, Jx s c W' ∧ Stopped w.heap.size rec c W')))
    (hdone : ∀ W, Done W → W.heap[w.heap.size]? = some (.deferred (some [])) → Q .normal { a with defers := { target := .collected w.heap.size, args := #[] } :: a.defers } W)
    (hstop : ∀ s c W, Jx s c W → W.heap[w.heap.size]? = some (.deferred (some [])) → c.wpIn Fence.wide 0 P Q { a with defers := { target := .collected w.heap.size, args := #[] } :: a.defers } W) :
    (Code.rangeFunc g ps assign body).wpIn Fence.wide 0 P Q a w := by
  refine wpIn_rangeFunc ?_
  intro fn hfn
  obtain ⟨rec, hrec⟩ : ∃ rec : LoopState → Option Code → Loop, rec = fun st pe => { state := st, pending := pe, fn, tmps := a.tmps, params := ps, assign, body, defers := w.heap.size } := ⟨_, rfl⟩
  obtain ⟨W1, hW1⟩ : ∃ W1, (w.alloc (.deferred (some []))).alloc (.loop (rec .ready none)) = W1 := ⟨_, rfl⟩
  have hL1 : W1.heap[w.heap.size + 1]? = some (.loop (rec .ready none)) := by
    rw [← hW1]; have := World.alloc_heap_new (w.alloc (.deferred (some []))) (.loop (rec .ready none)); rwa [World.size_alloc] at this
  have hK1 : W1.heap[w.heap.size]? = some (.deferred (some [])) := by
    rw [← hW1]; exact (Below.heap_alloc _ _ _ (by simp)).trans (World.alloc_heap_new w _)
  refine ⟨w.heap.size + 1, [{ target := .collected w.heap.size, args := #[] }], W1, { target := .fn (.func gf) lb, args := #[.func (.yield (w.heap.size + 1)) #[] #[]] }, W1, gf,
    #[.func (.yield (w.heap.size + 1)) #[] #[]] ++ lb, W1, ?_, ?_, ?_, ?_, fun h => by simp [Fence.wide] at h, ?_⟩
  · rw [← hW1, hrec]; exact run_enterLoop_outer _ _ _ _ _
  · simp only [resolve, hg]
    simp [go_sem]
  · intro f' hf'; trivial
  · simp [invoke, go_sem, eg]
  · refine (hiter rec W1 hW1.symm ⟨hL1, hK1⟩ ?_).mono ?_
    · -- one round
      rintro s W hi ⟨hl, hk⟩
      have hlt : w.heap.size + 1 < W.heap.size := (Array.getElem?_eq_some_iff.1 hl).1
      have hy := run_yield (P := P) (args := xs s) hl (by rw [hrec]; exact hps s)
      rw [hrec] at hy
      refine ⟨fn, _, assign, body, hy, roundIn_of_wpIn hfn ?_⟩
      refine wpIn_mono (hassign _ s W hi rfl) ?_
      rintro e a3 W2 hp
      cases e with
      | normal =>
        obtain ⟨hk2, hm2⟩ := hp
        have hl2 := hk2 _ _ (.inr rfl) hl rfl
        have hd2 := hk2 _ _ (.inl rfl) hk rfl
        have hlt2 : w.heap.size + 1 < W2.heap.size := (Array.getElem?_eq_some_iff.1 hl2).1
        refine ⟨_, run_beginRound hl2 (by rw [hrec]), ?_⟩
        have hl3 : (W2.putObj (w.heap.size + 1) (.loop { rec .ready none with state := .busy })).heap[w.heap.size + 1]? = some (.loop { rec .ready none with state := .busy }) := World.putObj_heap_same hlt2
        have hd3 : (W2.putObj (w.heap.size + 1) (.loop { rec .ready none with state := .busy })).heap[w.heap.size]? = some (.deferred (some [])) := (World.putObj_heap_other (by omega)).trans hd2
        refine wpIn_mono (hbody _ s a3 _ rfl (hMid s a3 _ _ _ hm2 hl2)) ?_
        have fin : ∀ (jump : Option Code) (W3 : World), Keeps2 w.heap.size (W2.putObj (w.heap.size + 1) (.loop { rec .ready none with state := .busy })) W3 →
            (Instr.endRound (w.heap.size + 1) jump).run P W3 = .ok (.bool jump.isNone) (W3.putObj (w.heap.size + 1) (.loop (rec (if jump.isNone then .ready else .done) jump))) ∧
            W3.heap[w.heap.size + 1]? = some (.loop { rec .ready none with state := .busy }) ∧
            (W3.putObj (w.heap.size + 1) (.loop (rec (if jump.isNone then .ready else .done) jump))).heap[w.heap.size + 1]? = some (.loop (rec (if jump.isNone then .ready else .done) jump)) ∧
            (W3.putObj (w.heap.size + 1) (.loop (rec (if jump.isNone then .ready else .done) jump))).heap[w.heap.size]? = some (.deferred (some [])) := fun jump W3 hk3 => by
          have hl4 := hk3 _ _ (.inr rfl) hl3 rfl
          have := run_endRound (P := P) jump hl4
          rw [hrec] at this ⊢
          exact ⟨this, by rw [hrec] at hl4; exact hl4, World.putObj_heap_same (Array.getElem?_eq_some_iff.1 hl4).1, (World.putObj_heap_other (by omega)).trans (hk3 _ _ (.inl rfl) hd3 rfl)⟩
        rintro e a4 W3 hp
        cases e with
        | normal =>
          obtain ⟨hk3, hi3⟩ := hp
          obtain ⟨hr, hl5, hl6, hk6⟩ := fin none W3 hk3
          exact ⟨_, _, hr, .inl ⟨rfl, hJ s _ _ _ hi3 hl5, hl6, hk6⟩⟩
        | ret =>
          obtain ⟨hk3, hi3⟩ := hp
          obtain ⟨hr, hl5, hl6, hk6⟩ := fin (some .ret) W3 hk3
          exact ⟨_, _, hr, .inr ⟨rfl, .ret, hJx s _ _ _ _ hi3 hl5, hl6, hk6⟩⟩
        | exit id =>
          obtain ⟨hk3, hi3⟩ := hp
          obtain ⟨hr, hl5, hl6, hk6⟩ := fin (some (.exit id)) W3 hk3
          exact ⟨_, _, hr, .inr ⟨rfl, .exit id, hJx s _ _ _ _ hi3 hl5, hl6, hk6⟩⟩
        | goto t =>
          obtain ⟨hk3, hi3⟩ := hp
          obtain ⟨hr, hl5, hl6, hk6⟩ := fin (some (.goto t)) W3 hk3
          exact ⟨_, _, hr, .inr ⟨rfl, .goto t, hJx s _ _ _ _ hi3 hl5, hl6, hk6⟩⟩
        | panic ch => exact hp.elim
        | outgrown => exact hp.elim
      | ret => exact hp.elim
      | exit id => exact hp.elim
      | goto t => exact hp.elim
      | panic ch => exact hp.elim
      | outgrown => exact hp.elim
    · -- behind the iterator
      rintro e W2 ⟨⟨v, rfl⟩, (⟨hd, hl, hk⟩ | ⟨s, c, hi, hl, hk⟩)⟩
      · exact ⟨none, _, by have := run_endLoop (P := P) hl (by rw [hrec]; simp); rw [hrec] at this; exact this, hdone _ (hDone _ _ _ hd hl) ((World.putObj_heap_other (by omega)).trans hk)⟩
      · exact ⟨some c, _, by have := run_endLoop (P := P) hl (by rw [hrec]; simp); rw [hrec] at this; exact this, hstop s c _ (hJx s c _ _ _ hi hl) ((World.putObj_heap_other (by omega)).trans hk)⟩
/-- an append of the call's own row whose head lies in a box below the rows -/
theorem appended_box {W w1 : World} {n₀ B : Nat} {t e : TypeId} {size : Nat} {v : Value} {k : Nat} {xs : List Value} {tmp : Obj}
    (hv : Boxed W B t v) (hrow : W.ownsRow n₀ e size v k xs) (hB : B < n₀) (hgrow : (W.alloc tmp).grownBy w1 v.ownBlock) :
    (∀ B' t' u, B' < n₀ → Boxed W B' t' u → Boxed w1 B' t' u) ∧ KeepsOthers W w1 := by
  have hne : ∀ j, v.ownBlock = some j → n₀ ≤ j := fun j hj => (hrow.lt j hj).1
  refine ⟨fun B' t' u hB' h => (h.alloc tmp).kept hgrow (fun e' => ?_), ?_⟩
  · have := hne B' e'.symm; omega
  · refine (KeepsOthers.alloc W tmp).trans (KeepsOthers.of_grownBy hgrow fun j o ej hj => ?_)
    rcases (hrow.alloc tmp).2 with ⟨rfl, _⟩ | ⟨g, cap, cur, rfl, _, hgb, _⟩
    · simp [Value.ownBlock] at ej
    · obtain rfl : g = j := by simpa [Value.ownBlock] using ej
      rw [hgb] at hj; cases hj; rfl
theorem stored_box {w1 : World} {n₀ B : Nat} {t e : TypeId} {size : Nat} {v v' : Value} {m : Nat} {ys : List Value}
    (hv : Boxed w1 B t v) (hown' : w1.ownsRow n₀ e size v' m ys) (hB : B < n₀) :
    (∀ B' t' u, B' ≠ B → Boxed w1 B' t' u → Boxed (w1.setCell ⟨B, 0, none⟩ v') B' t' u) ∧ Boxed (w1.setCell ⟨B, 0, none⟩ v') B t v' ∧ (w1.setCell ⟨B, 0, none⟩ v').ownsRow n₀ e size v' m ys ∧ KeepsOthers w1 (w1.setCell ⟨B, 0, none⟩ v') :=
  ⟨fun B' t' u hne h => boxed_other _ h hne, hv.set v', ownsRow_far hown' hB _, KeepsOthers.setCell _ _ _⟩
/-- the records are laid -/
theorem below_records {n₀ : Nat} {w : World} (o o' : Obj) (h : n₀ ≤ w.heap.size) : Below n₀ w ((w.alloc o).alloc o') := ((Below.refl _ _).alloc h _).alloc (by simp; omega) _
end Go.Proofs.Ytnmlmbbacicojaa
namespace Go.Proofs.Ytnmlmbbacicojaa
set_option linter.unusedVariables false
set_option linter.unusedSimpArgs false
open Go.RowKit Go.Shelf
attribute [local go_sem] Oper.semAt_some

def strs (ps : List Bytes8) : List Value := ps.map fun p => Value.string (bs p)
/-- v owns, from block n₀ on, a row of these strings -/
def OwnS (w : World) (n₀ : Nat) (v : Value) (ps : List Bytes8) : Prop := w.ownsRow n₀ 9 1 v ps.length (strs ps)
theorem info9 : (Try.prog.info? 9).map (fun i => (i.zero, i.size, i.bytes)) = some (some (.string ⟨#[]⟩), 1, 16) := by kernel_rfl

theorem parts_c (s : ByteArray) (w : World) : Calls Try.prog 40 #[.string s] w fun e w' => e = .returned (.func (.func 48) #[] #[.pointer (some ⟨w.heap.size, 0, none⟩)]) ∧ w' = w.alloc (.cells #[.string s] 9) := by
  have hmf : ∀ (fn : Fn) (first cap : Array Value) (w : World), (Instr.makeFunc fn first cap).run Try.prog w = .ok (.func fn first cap) w := fun _ _ _ _ => rfl
  go_enter Try.func40, Try.ntmps40
  go_wp2
  go_ret
  exact ⟨rfl, rfl⟩

theorem cutPrefix_c (s t : ByteArray) (b : Bool) (hp : Lib.hasPrefix s.data.toList [47] = b) (ht : (⟨(Lib.trimPrefix s.data.toList [47]).toArray⟩ : ByteArray) = t) (w : World) :
    Calls Try.prog 39 #[.string s, .string ⟨#[47]⟩] w fun e w' => e = .returned (.tuple #[.string t, .bool b]) ∧ w' = w := by
  have := Try.strings_CutPrefix s ⟨#[47]⟩ w
  subst hp
  subst ht
  exact this
theorem results8 {tmps : Array Value} {w : World} {a b : Addr} {x : Value} {y : Int} (h2 : tmps[2]?.getD undef = .pointer (some a)) (h3 : tmps[3]?.getD undef = .pointer (some b)) (ha : w.cell? a = some x) (hb : w.cell? b = some (.int .i64 y)) :
    (results Try.f26 tmps).run Try.prog w = .ok (.tuple #[x, .int .i64 y]) w := by
  simp [results, Try.results8, go_sem, h2, h3, ha, hb]
theorem name_b (p : Bytes8) (b : Bool) (h : nameL p = b) (w : World) :
    Calls Try.prog 41 #[.string (bs p)] w fun e w' => e = .returned (.bool b) ∧ w = w' := by subst h; exact name_c (bs p) w
theorem partsL_len (l : Bytes8) : (partsL l).length ≤ l.length + 1 := by
  induction l with
  | nil => simp [partsL]
  | cons c l ih =>
    unfold partsL
    split
    · simp; exact ih
    · split
      · simp
      · rename_i q qs hq; rw [hq] at ih; simp at ih ⊢; omega
/-- how long the rest is, while there is one -/
noncomputable def boxLen (B : Nat) (ag : Value) (W : World) : Nat :=
  match ag, W.cell? ⟨B, 0, none⟩ with
  | .bool true, some (.string s) => s.size + 1
  | _, _ => 0
theorem boxLen_true {B : Nat} {W : World} {b : Bytes8} {t : TypeId} (h : Boxed W B t (.string (bs b))) : boxLen B (.bool true) W = b.length + 1 := by
  unfold boxLen; rw [h.cell]; simp [bs_size]
theorem boxLen_false {B : Nat} {W : World} : boxLen B (.bool false) W = 0 := by
  unfold boxLen; cases W.cell? ⟨B, 0, none⟩ <;> rfl
theorem split_none (s : ByteArray) (w : World) (t : ByteArray) (b : Bool) (hs : s.size ≤ 140737488355328) (hp : Lib.hasPrefix s.data.toList [47] = b) (ht : (⟨(Lib.trimPrefix s.data.toList [47]).toArray⟩ : ByteArray) = t) (hb : b = false ∨ 500 < s.size) :
    Calls Try.prog 26 #[.string s] w fun e w' => e = .returned (.tuple #[.slice none 0 0, .int .i64 15]) ∧ Below w.heap.size w w' := by
  have HP := hide hp
  have HT := hide ht
  clear hp ht
  have fin : Below w.heap.size w ((w.alloc (.cells #[.slice none 0 0] 44)).alloc (.cells #[.int .i64 15] 38)) := ((Below.refl _ _).alloc (Nat.le_refl _) _).alloc (by simp) _
  rcases hb with rfl | hb
  · go_enter Try.func26, Try.ntmps26
    go_wp2_with (go_at_call 39; refine (cutPrefix_c s _ _ HP.out HT.out _).mono ?_; rintro e w' ⟨rfl, rfl⟩)
    exact bodyPost_ret (results8 rfl rfl (by simp) (by simp)) rfl ⟨rfl, fin⟩
  · have hb' : (500 : Int) < (s.size : Int) := by omega
    clear hb
    cases b
    · go_enter Try.func26, Try.ntmps26
      go_wp2_with (go_at_call 39; refine (cutPrefix_c s _ _ HP.out HT.out _).mono ?_; rintro e w' ⟨rfl, rfl⟩)
      exact bodyPost_ret (results8 rfl rfl (by simp) (by simp)) rfl ⟨rfl, fin⟩
    · go_enter Try.func26, Try.ntmps26
      go_wp2_with (go_at_call 39; refine (cutPrefix_c s _ _ HP.out HT.out _).mono ?_; rintro e w' ⟨rfl, rfl⟩)
      exact bodyPost_ret (results8 rfl rfl (by simp) (by simp)) rfl ⟨rfl, fin⟩
theorem split_root (s : ByteArray) (w : World) (hs : (s.size : Int) ≤ 500) (hp : Lib.hasPrefix s.data.toList [47] = true) (ht : (⟨(Lib.trimPrefix s.data.toList [47]).toArray⟩ : ByteArray) = ⟨#[]⟩) :
    Calls Try.prog 26 #[.string s] w fun e w' => e = .returned (.tuple #[.slice none 0 0, .int .i64 0]) ∧ Below w.heap.size w w' := by
  have HP := hide hp
  have HT := hide ht
  clear hp ht
  have fin : Below w.heap.size w ((w.alloc (.cells #[.slice none 0 0] 44)).alloc (.cells #[.int .i64 0] 38)) := ((Below.refl _ _).alloc (Nat.le_refl _) _).alloc (by simp) _
  go_enter Try.func26, Try.ntmps26
  go_wp2_with (go_at_call 39; refine (cutPrefix_c s _ _ HP.out HT.out _).mono ?_; rintro e w' ⟨rfl, rfl⟩)
  exact bodyPost_ret (results8 rfl rfl (by simp) (by simp)) rfl ⟨rfl, fin⟩

/-- what the loop over the parts has made: the results' cells, the gathered parts -/
def Common (n : Nat) (w W : World) (done : List Bytes8) : Prop :=
  (∃ v, Boxed W (n + 1 + 1) 44 v ∧ OwnS W (n + 1 + 1 + 1 + 1) v done) ∧ Boxed W n 44 (.slice none 0 0) ∧ Boxed W (n + 1) 38 (.int .i64 0) ∧ Below n w W
def InS (n : Nat) (w : World) (t : Bytes8) (s : List Bytes8 × Bytes8 × Bytes8) (W : World) : Prop :=
  Common n w W s.1 ∧ Boxed W (n + 1 + 1 + 1) 9 (.string (bs s.2.2)) ∧ s.2.1 ∈ partsL t ∧ s.1.length ≤ 500
def JnS (n : Nat) (w : World) (s : List Bytes8 × Bytes8 × Bytes8) (W : World) : Prop :=
  okP s.2.1 = true ∧ Common n w W (s.1 ++ [s.2.1]) ∧ Boxed W (n + 1 + 1 + 1) 9 (.string (bs s.2.2))
def JxS (n : Nat) (w : World) (t : Bytes8) (s : List Bytes8 × Bytes8 × Bytes8) (c : Code) (W : World) : Prop :=
  c = .ret ∧ okP s.2.1 = false ∧ s.2.1 ∈ partsL t ∧ Boxed W n 44 (.slice none 0 0) ∧ Boxed W (n + 1) 38 (.int .i64 15) ∧ Below n w W
def DoneS (n : Nat) (w : World) (t : Bytes8) (W : World) : Prop := (partsL t).all okP = true ∧ Common n w W (partsL t)
theorem Common.turn {n : Nat} {w W : World} {done : List Bytes8} {l : Nat} {o : Obj} (o' : Obj) (h : Common n w W done) (hl : W.heap[l]? = some o) (ho : o.isCells = false) (hn : n ≤ l) : Common n w (W.putObj l o') done := by
  obtain ⟨⟨v, h1, h2⟩, h3, h4, h5⟩ := h
  exact ⟨⟨v, boxed_putLoop _ h1 hl ho, ownsRow_putObj h2 _ hl ho⟩, boxed_putLoop _ h3 hl ho, boxed_putLoop _ h4 hl ho, below_putObj _ h5 hn (Array.getElem?_eq_some_iff.1 hl).1⟩

def SplitPost (t : ByteArray) (w : World) (e : Ending) (w' : World) : Prop := ∃ v, e = .returned (.tuple #[v, .int .i64 (if (partsL t.data.toList).all okP then 0 else 15)]) ∧ OwnS w' w.heap.size v (if (partsL t.data.toList).all okP then partsL t.data.toList else []) ∧ Below w.heap.size w w'
theorem own_base {w : World} {base base' : Nat} {e : TypeId} {size n : Nat} {v : Value} {xs : List Value} (h : w.ownsRow base e size v n xs) (hb : base' ≤ base) : w.ownsRow base' e size v n xs := by
  refine ⟨h.1, h.2.imp id ?_⟩
  rintro ⟨g, cap, cur, h1, h2, h3⟩
  exact ⟨g, cap, cur, h1, Nat.le_trans hb h2, h3⟩
abbrev CutFact (b a b' : Bytes8) (f : Bool) : Prop := (f = false ∧ a = (bs b).data.toList ∧ b' = [] ∧ (47 : UInt8) ∉ a) ∨ (f = true ∧ (bs b).data.toList = a ++ 47 :: b' ∧ (47 : UInt8) ∉ a)
theorem parts_of {b a b' : Bytes8} {f : Bool} (h : CutFact b a b' f) : (f = false ∧ partsL b = [a]) ∨ (f = true ∧ partsL b = a :: partsL b') := by
  rcases h with ⟨h1, h2, _, h4⟩ | ⟨h1, h2, h3⟩
  · rw [bs_data] at h2; subst h2; exact .inl ⟨h1, partsL_one h4⟩
  · rw [bs_data] at h2; exact .inr ⟨h1, by rw [h2]; exact partsL_cut h3⟩
theorem mem_of {l : Bytes8} {done : List Bytes8} {b a b' : Bytes8} {f : Bool} (h : partsL l = done ++ partsL b) (k : CutFact b a b' f) : a ∈ partsL l := by
  rw [h]; rcases parts_of k with ⟨_, e⟩ | ⟨_, e⟩ <;> rw [e] <;> simp
theorem len_of {l : Bytes8} {done : List Bytes8} {b : Bytes8} (h : partsL l = done ++ partsL b) (hl : l.length ≤ 500) : done.length ≤ 500 := by
  have h1 := partsL_len l
  rw [h, List.length_append] at h1
  have h2 : 0 < (partsL b).length := List.length_pos_iff.2 (partsL_ne b)
  omega
theorem step_of {l : Bytes8} {done : List Bytes8} {b a b' : Bytes8} {f : Bool} (h : partsL l = done ++ partsL b) (hd : done.all okP = true) (ha : okP a = true) (k : CutFact b a b' f) :
    (f = true → partsL l = (done ++ [a]) ++ partsL b') ∧ (f = false → partsL l = done ++ [a]) ∧ (done ++ [a]).all okP = true := by
  refine ⟨fun e => ?_, fun e => ?_, by simp [ha]; simpa using hd⟩
  · rcases parts_of k with ⟨e1, _⟩ | ⟨_, e2⟩
    · rw [e] at e1; cases e1
    · rw [h, e2]; simp
  · rcases parts_of k with ⟨_, e2⟩ | ⟨e1, _⟩
    · rw [h, e2]
    · rw [e] at e1; cases e1
theorem rest_of {b a b' : Bytes8} {f : Bool} (k : CutFact b a b' f) (h : b.length ≤ 500) : b'.length ≤ 500 := by
  rcases k with ⟨_, _, e, _⟩ | ⟨_, e, _⟩
  · subst e; simp
  · rw [bs_data] at e; rw [e] at h; simp at h; omega
theorem meas_of {B : Nat} {W W' : World} {b a b' : Bytes8} {f : Bool} {t : TypeId} (h : Boxed W B t (.string (bs b))) (h' : Boxed W' B t (.string (bs b'))) (k : CutFact b a b' f) :
    boxLen B (.bool f) W' < boxLen B (.bool true) W := by
  rw [boxLen_true h]
  rcases k with ⟨rfl, _⟩ | ⟨rfl, e, _⟩
  · rw [boxLen_false]; omega
  · rw [boxLen_true h']; rw [bs_data] at e; rw [e]; simp; omega
theorem Common.box3 {n : Nat} {w W : World} {done : List Bytes8} (h : Common n w W done) (k : Nat) (u : Value) : Common n w ((W.drewN k).setCell ⟨n + 1 + 1 + 1, 0, none⟩ u) done := by
  obtain ⟨⟨v, h1, h2⟩, h3, h4, h5⟩ := h
  have hb : Below n w (W.drewN k) := ⟨h5.os, h5.tape, h5.output, h5.size, h5.block⟩
  exact ⟨⟨v, boxed_other _ (show Boxed (W.drewN k) _ _ _ from h1) (by simp), ownsRow_far (show (W.drewN k).ownsRow _ _ _ _ _ _ from h2) (by simp) _⟩, boxed_other _ (show Boxed (W.drewN k) _ _ _ from h3) (by simp; try omega), boxed_other _ (show Boxed (W.drewN k) _ _ _ from h4) (by simp), hb.setCell (p := ⟨n + 1 + 1 + 1, 0, none⟩) (by simp; omega) _⟩
set_option maxHeartbeats 1000000 in
set_option maxRecDepth 100000 in
theorem split_main (s t : ByteArray) (w : World) (hs : (s.size : Int) ≤ 500) (hts : t.size ≤ 500) (hp : Lib.hasPrefix s.data.toList [47] = true) (ht : (⟨(Lib.trimPrefix s.data.toList [47]).toArray⟩ : ByteArray) = t) (hne : t.data.toList ≠ []) :
    Calls Try.prog 26 #[.string s] w (SplitPost t w) := by
  have HP := hide hp
  have HT := hide ht
  have e0 : t.toList.isEmpty = false := by rw [ByteArray.toList_eq]; simpa using hne
  clear hp ht hne
  refine (callsIn_wide (n := 0)).1 ?_
  refine callsIn_of_wp_marks Try.func26 rfl trivial ?_
  simp only [Try.ntmps26, List.size_toArray, List.length_cons, List.length_nil, Nat.reduceAdd, Nat.reduceSub, Array.replicate_succ, Array.replicate_zero, List.push_toArray, List.append_toArray, List.nil_append, List.cons_append]
  gi_wp2_with (first | (with_reducible refine wide_calls ?_; go_at_call 39; refine (cutPrefix_c s _ _ HP.out HT.out _).mono ?_; rintro e w' ⟨rfl, rfl⟩) | (with_reducible refine wide_calls ?_; go_at_call 40; refine (parts_c t _).mono ?_; rintro e w' ⟨rfl, rfl⟩))
  have bx0 : Boxed ((((w.alloc (.cells #[.slice none 0 0] 44)).alloc (.cells #[.int .i64 0] 38)).alloc (.cells #[.slice none 0 0] 44)).alloc (.cells #[.string t] 9)) w.heap.size 44 (.slice none 0 0) := (((Boxed.new w 44 _).alloc _).alloc _).alloc _
  have bx1 : Boxed ((((w.alloc (.cells #[.slice none 0 0] 44)).alloc (.cells #[.int .i64 0] 38)).alloc (.cells #[.slice none 0 0] 44)).alloc (.cells #[.string t] 9)) (w.heap.size + 1) 38 (.int .i64 0) := by
    have := Boxed.new (w.alloc (.cells #[.slice none 0 0] 44)) 38 (.int .i64 0)
    rw [World.size_alloc] at this
    exact (this.alloc _).alloc _
  have bx2 : Boxed ((((w.alloc (.cells #[.slice none 0 0] 44)).alloc (.cells #[.int .i64 0] 38)).alloc (.cells #[.slice none 0 0] 44)).alloc (.cells #[.string t] 9)) (w.heap.size + 1 + 1) 44 (.slice none 0 0) := by
    have := Boxed.new ((w.alloc (.cells #[.slice none 0 0] 44)).alloc (.cells #[.int .i64 0] 38)) 44 (.slice none 0 0)
    rw [World.size_alloc, World.size_alloc] at this
    exact this.alloc _
  have bx3 : Boxed ((((w.alloc (.cells #[.slice none 0 0] 44)).alloc (.cells #[.int .i64 0] 38)).alloc (.cells #[.slice none 0 0] 44)).alloc (.cells #[.string t] 9)) (w.heap.size + 1 + 1 + 1) 9 (.string t) := by
    have := Boxed.new (((w.alloc (.cells #[.slice none 0 0] 44)).alloc (.cells #[.int .i64 0] 38)).alloc (.cells #[.slice none 0 0] 44)) 9 (.string t)
    rw [World.size_alloc, World.size_alloc, World.size_alloc] at this
    exact this
  have hbl : Below w.heap.size w ((((w.alloc (.cells #[.slice none 0 0] 44)).alloc (.cells #[.int .i64 0] 38)).alloc (.cells #[.slice none 0 0] 44)).alloc (.cells #[.string t] 9)) := ((((Below.refl _ _).alloc (Nat.le_refl _) _).alloc (by simp) _).alloc (by simp; omega) _).alloc (by simp; omega) _
  have hsz : ((((w.alloc (.cells #[.slice none 0 0] 44)).alloc (.cells #[.int .i64 0] 38)).alloc (.cells #[.slice none 0 0] 44)).alloc (.cells #[.string t] 9)).heap.size ≥ w.heap.size + 1 + 1 + 1 + 1 := by simp
  generalize (((w.alloc (.cells #[.slice none 0 0] 44)).alloc (.cells #[.int .i64 0] 38)).alloc (.cells #[.slice none 0 0] 44)).alloc (.cells #[.string t] 9) = W4 at bx0 bx1 bx2 bx3 hbl hsz ⊢
  have hcom : Common w.heap.size w W4 [] := ⟨⟨_, bx2, World.ownsRow_nil _ _ _ _⟩, bx0, bx1, hbl⟩
  clear bx0 bx1 bx2 hbl
  refine wpIn_rangeFunc_dir (σ := List Bytes8 × Bytes8 × Bytes8) (gf := 48) (lb := #[.pointer (some ⟨w.heap.size + 1 + 1 + 1, 0, none⟩)]) rfl (enters_of Try.func48 (by kernel_rfl) rfl)
    (InS w.heap.size w t.data.toList) (JnS w.heap.size w) (JxS w.heap.size w t.data.toList) (fun s' a₁ W => InS w.heap.size w t.data.toList s' W ∧ a₁ = (fun x : Bytes8 => ({ tmps := #[.string s, undef, .pointer (some ⟨w.heap.size, 0, none⟩), .pointer (some ⟨w.heap.size + 1, 0, none⟩), .string t, .bool true, .pointer (some ⟨w.heap.size + 1 + 1, 0, none⟩), .string (bs x), .tuple #[.string t, .bool true], .string s, .tuple #[.string t, .bool true], .string t, .bool true, .bool true, .bool false, .bool false, .string s, .int .i64 s.size, .bool (decide (500 < (s.size : Int))), .bool (decide (500 < (s.size : Int))), .string t, .bool false, .string t, .func (.func 48) #[] #[.pointer (some ⟨w.heap.size + 1 + 1 + 1, 0, none⟩)], .string (bs x), undef, undef, undef, undef, undef, undef, undef, undef, undef, undef, undef, undef, undef, undef, undef, undef], defers := [] } : Act)) s'.2.1) (DoneS w.heap.size w t.data.toList) (fun s' => #[.string (bs s'.2.1)])
    ?hI ?hJ ?hJx ?hMid ?hDone (fun _ => rfl) ?assign ?body ?iter ?done ?stop
  case hI => exact fun s' W r o' ⟨h1, h2, h3, h4⟩ hl => ⟨h1.turn _ hl rfl (by omega), boxed_putLoop _ h2 hl rfl, h3, h4⟩
  case hJ => exact fun s' W r o' ⟨h1, h2, h3⟩ hl => ⟨h1, h2.turn _ hl rfl (by omega), boxed_putLoop _ h3 hl rfl⟩
  case hJx => exact fun s' c W r o' ⟨h1, h2, h3, h4, h5, h6⟩ hl => ⟨h1, h2, h3, boxed_putLoop _ h4 hl rfl, boxed_putLoop _ h5 hl rfl, below_putObj _ h6 (by omega) (Array.getElem?_eq_some_iff.1 hl).1⟩
  case hMid => exact fun s' a₁ W r o' ⟨⟨h1, h2, h3, h4⟩, h5⟩ hl => ⟨⟨h1.turn _ hl rfl (by omega), boxed_putLoop _ h2 hl rfl, h3, h4⟩, h5⟩
  case hDone => exact fun W r o' ⟨h1, h2⟩ hl => ⟨h1, h2.turn _ hl rfl (by omega)⟩
  case assign =>
    intro l s' W hi hl
    have HI := hide hi
    clear hi
    gi_wp2
    exact ⟨Keeps2.refl _ _, HI.out, by first | rfl | trivial⟩
  case body =>
    rintro l ⟨done, p, b⟩ a₁ W hl ⟨⟨⟨⟨v, hv, hown⟩, hr0, hr1, hb⟩, hbox3, hmem, hlen⟩, rfl⟩
    simp only at hmem hlen hbox3 hown
    have c2 := hv.cell
    have c0 := hr0.cell
    have c1 := hr1.cell
    have f0 := hr0.frozen
    have f1 := hr1.frozen
    have hWs : w.heap.size + 1 + 1 + 1 + 1 ≤ W.heap.size := by have := hbox3.lt; omega
    have HM := hide hmem
    have HB := hide hb
    clear hmem hb
    by_cases hbad : okP p = false
    · have fin : ∀ W', W' = ((W.setCell ⟨w.heap.size, 0, none⟩ (.slice none 0 0)).setCell ⟨w.heap.size + 1, 0, none⟩ (.int .i64 15)) → Keeps2 W4.heap.size W W' ∧ JxS w.heap.size w t.data.toList (done, p, b) .ret W' := by
        rintro W' rfl
        refine ⟨(Keeps2.setCell _ _ _ _).trans (Keeps2.setCell _ _ _ _), rfl, hbad, HM.out, boxed_other _ (hr0.set _) (by simp), (boxed_other _ hr1 (by simp)).set _, ?_⟩
        exact (HB.out.setCell (p := ⟨w.heap.size, 0, none⟩) (Nat.le_refl _) _).setCell (p := ⟨w.heap.size + 1, 0, none⟩) (by simp) _
      by_cases hn : nameL p = false
      · have HN := hide hn
        clear hn hbad
        gi_wp2_with (with_reducible refine wide_callsR ?_; go_at_call 41; refine (name_b p _ HN.out _).mono ?_; rintro e w' ⟨rfl, rfl⟩)
        exact fin _ rfl
      · have HN := hide (show nameL p = true by simpa using hn)
        have hd : p = [46] ∨ p = [46, 46] := by
          have : nameL p = true := HN.out
          simp [okP, this] at hbad
          by_cases e : p = [46]
          · exact .inl e
          · exact .inr (hbad e)
        clear hn hbad
        rcases hd with rfl | rfl
        · have t1 : ((bs [46]).toList == [46]) = true := by rw [ByteArray.toList_eq, bs_data]; rfl
          gi_wp2_with (with_reducible refine wide_callsR ?_; go_at_call 41; refine (name_b _ _ HN.out _).mono ?_; rintro e w' ⟨rfl, rfl⟩)
          exact fin _ rfl
        · have t1 : ((bs [46, 46]).toList == [46]) = false := by rw [ByteArray.toList_eq, bs_data]; rfl
          have t2 : ((bs [46, 46]).toList == [46, 46]) = true := by rw [ByteArray.toList_eq, bs_data]; rfl
          gi_wp2_with (with_reducible refine wide_callsR ?_; go_at_call 41; refine (name_b _ _ HN.out _).mono ?_; rintro e w' ⟨rfl, rfl⟩)
          exact fin _ rfl
    · have hok : okP p = true := by simpa using hbad
      have HO := hide hok
      have HN := hide (show nameL p = true by simp [okP] at hok; exact hok.1.1)
      have t1 : ((bs p).toList == [46]) = false := by
        rw [ByteArray.toList_eq, bs_data]; simp [okP] at hok; simpa using hok.1.2
      have t2 : ((bs p).toList == [46, 46]) = false := by
        rw [ByteArray.toList_eq, bs_data]; simp [okP] at hok; simpa using hok.2
      clear hok hbad
      obtain ⟨i0, hi, hz0, hz1, hz2⟩ := info_parts info9
      gi_wp2_with (first | (with_reducible refine wide_callsR ?_; go_at_call 41; refine (name_b p _ HN.out _).mono ?_; rintro e w' ⟨rfl, rfl⟩) | (gi_at_builtin; go_must (refine wpListIn_append_own _ rfl _ _ 44 rfl (w.heap.size + 1 + 1 + 1 + 1) 9 i0 (.string ⟨#[]⟩) 1 16 Try.underlying44 hi hz0 hz1 hz2 rfl (by decide) _ _ _ rfl (hown.alloc _) ⟨W.heap.size, 0, none⟩ 1 1 [.string (bs p)] rfl rfl (cell_one_new _ _ _) (by simp [Value.oneCell']) (by unfold maxLen; omega) (by omega) (by simp; omega) ?_); intro v' w1 hown' hgrow _; obtain ⟨g', cap', rfl⟩ := ownsRow_succ hown'; obtain ⟨hbox, hko⟩ := appended_box hv hown (by omega) hgrow; have hv1 := hbox _ _ _ (by omega) hv; have hc1 := hv1.cell; have hf1 := hv1.frozen))
      obtain ⟨st1, st2, st3, st4⟩ := stored_box hv1 hown' (by omega)
      refine ⟨(Keeps2.of_others hko).trans (Keeps2.of_others st4), HO.out, ⟨⟨_, st2, ?_⟩, st1 _ _ _ (by omega) (hbox _ _ _ (by omega) hr0), st1 _ _ _ (by omega) (hbox _ _ _ (by omega) hr1), ?_⟩, st1 _ _ _ (by omega) (hbox _ _ _ (by omega) hbox3)⟩
      · simpa [OwnS, strs] using st3
      · exact ((HB.out.alloc (by omega) _).grown hgrow (by simp; omega) (fun k hk => by have := (hown.lt k hk).1; omega)).setCell (p := ⟨w.heap.size + 1 + 1, 0, none⟩) (by simp; omega) _
  case iter =>
    rintro rec W1 hW1 hrdy hY
    have hcom1 : Common w.heap.size w W1 [] := by
      obtain ⟨⟨v, h1, h2⟩, h3, h4, h5⟩ := hcom
      subst hW1
      exact ⟨⟨v, (h1.alloc _).alloc _, (h2.alloc _).alloc _⟩, (h3.alloc _).alloc _, (h4.alloc _).alloc _, (h5.alloc (by omega) _).alloc (by simp; omega) _⟩
    have hbx3 : Boxed W1 (w.heap.size + 1 + 1 + 1) 9 (.string (bs t.data.toList)) := by rw [bs_of]; subst hW1; exact (bx3.alloc _).alloc _
    have HY := hide hY
    clear hY hW1 hcom bx3
    refine callsIn_of_wp Try.func48 rfl trivial ?_ rfl
    simp only [Try.ntmps48, List.size_toArray, List.length_cons, List.length_nil, Nat.reduceAdd, Nat.reduceSub, Array.replicate_succ, Array.replicate_zero, List.push_toArray, List.append_toArray, List.nil_append, List.cons_append]
    gi_wp2
    gi_loopw [3] (fun ag wr => ∃ (done : List Bytes8) (b : Bytes8) (f : Bool), ag = .bool f ∧ Hid ((f = true → partsL t.data.toList = done ++ partsL b) ∧ (f = false → partsL t.data.toList = done) ∧ done.all okP = true) ∧ b.length ≤ 500 ∧ Common w.heap.size w wr done ∧ Boxed wr (w.heap.size + 1 + 1 + 1) 9 (.string (bs b)) ∧ Ready W4.heap.size rec wr)
      (fun ag wr => boxLen (w.heap.size + 1 + 1 + 1) ag wr)
    case atStart => exact ⟨[], t.data.toList, true, rfl, ⟨fun _ => rfl, fun h => (by cases h), rfl⟩, by rw [← size_toList]; exact hts, hcom1, hbx3, hrdy⟩
    case round =>
      obtain ⟨done, b, f, rfl, HF, hbl, hcm, hbx, hrd⟩ := hrel
      cases f with
      | false =>
        have HG := hide (show DoneS w.heap.size w t.data.toList wr from ⟨by rw [HF.out.2.1 rfl]; exact HF.out.2.2, by rw [HF.out.2.1 rfl]; exact hcm⟩)
        gi_wp2
        go_end0
        exact ⟨⟨_, rfl⟩, .inl ⟨HG.out, hrd⟩⟩
      | true =>
        have HF1 := hide (HF.out.1 rfl)
        have HF2 := hide HF.out.2.2
        clear HF
        have hbs : (bs b).size ≤ 140737488355328 := by rw [bs_size]; omega
        have cb := hbx.cell
        have fb := hbx.frozen
        gi_wp2_with (with_reducible refine wide_calls ?_; go_at_call 49; refine (strCut_c (bs b) _ hbs).mono ?_; rintro e w' ⟨a, b', f', rfl, ⟨nq, rfl⟩, hc⟩; have HC := hide hc; clear hc)
        obtain ⟨fn, tmps, assign, body, hy, hR⟩ := HY.out (done, a, b') ((wr.drewN nq).setCell ⟨w.heap.size + 1 + 1 + 1, 0, none⟩ (.string (bs b')))
          ⟨hcm.box3 nq _, (show Boxed (wr.drewN nq) (w.heap.size + 1 + 1 + 1) 9 (.string (bs b)) from hbx).set _, mem_of HF1.out HC.out, len_of HF1.out (by rw [← size_toList]; exact hts)⟩
          (hrd.keeps (Keeps2.setCell _ (wr.drewN nq) _ _))
        dsimp only at hy
        clear HY
        rw [hy, Oper.uponIn_round]
        refine ⟨fun h => by simp [Fence.wide] at h, ?_⟩
        refine hR.mono ?_
        rintro e W3 (⟨rfl, ⟨hok3, hcm3, hbx3'⟩, hrd3⟩ | ⟨rfl, c, hJx, hst⟩)
        · have G := hide (step_of HF1.out HF2.out hok3 HC.out)
          have M := hide (meas_of hbx hbx3' HC.out)
          have B3 := hide (rest_of HC.out hbl)
          clear HF1 HF2 HC hok3
          gi_wp2
          go_roundw
          case rel => exact ⟨done ++ [a], b', f', rfl, G, B3.out, hcm3, hbx3', hrd3⟩
          case measure => exact M.out
        · gi_wp2
          refine bodyPost_ret (results_none rfl _ _ _) rfl ?_
          exact ⟨⟨_, rfl⟩, .inr ⟨_, c, hJx, hst⟩⟩
  case done =>
    rintro W ⟨hok, ⟨v, hv, hown⟩, hr0, hr1, hb⟩ hD
    obtain ⟨A, c, rfl⟩ := own_slice hown
    have cv := hv.cell
    have c0 := hr0.cell
    have c1 := hr1.cell
    have f0 := hr0.frozen
    have f1 := hr1.frozen
    have hD2 := (Keeps2.setCell W4.heap.size W ⟨w.heap.size, 0, none⟩ (.slice A (partsL t.data.toList).length c)).trans (Keeps2.setCell W4.heap.size _ ⟨w.heap.size + 1, 0, none⟩ (.int .i64 0)) _ _ (.inl rfl) hD rfl
    have b0 := boxed_other (a := ⟨w.heap.size + 1, 0, none⟩) (.int .i64 0) (hr0.set (.slice A (partsL t.data.toList).length c)) (by simp)
    have b1 := (boxed_other (a := ⟨w.heap.size, 0, none⟩) (.slice A (partsL t.data.toList).length c) hr1 (by simp)).set (.int .i64 0)
    have hb2 := (hb.setCell (p := ⟨w.heap.size, 0, none⟩) (Nat.le_refl _) (.slice A (partsL t.data.toList).length c)).setCell (p := ⟨w.heap.size + 1, 0, none⟩) (by simp) (.int .i64 0)
    have ho2 := ownsRow_far (a := ⟨w.heap.size + 1, 0, none⟩) (ownsRow_far (a := ⟨w.heap.size, 0, none⟩) hown (by simp; try omega) (.slice A (partsL t.data.toList).length c)) (by simp; try omega) (.int .i64 0)
    have H := hide (And.intro hD2 (And.intro b0 (And.intro b1 (And.intro hb2 (And.intro ho2 hok)))))
    clear hD2 b0 b1 hb2 ho2 hok hD hown hv hr0 hr1 hb
    gi_wp2
    obtain ⟨hD2, b0, b1, hb2, ho2, hok⟩ := H.out
    refine ⟨by simp, .inl ⟨_, _, rfl, run_takeDeferred hD2, ?_⟩⟩
    have hok' : (partsL t.data.toList).all okP = true := hok
    refine ⟨_, results8 rfl rfl (boxed_putLoop _ b0 hD2 rfl).cell (boxed_putLoop _ b1 hD2 rfl).cell, .slice A (partsL t.data.toList).length c, by rw [if_pos hok'], ?_, below_putObj _ hb2 (by omega) (Array.getElem?_eq_some_iff.1 hD2).1⟩
    try rw [if_pos hok']
    exact own_base (ownsRow_putObj ho2 _ hD2 rfl) (by omega)
  case stop =>
    rintro s' c W ⟨rfl, hbad, hmem, h0, h1, hb⟩ hD
    have hok' : ¬ (partsL t.data.toList).all okP = true := fun h => by
      have := List.all_eq_true.1 h _ hmem
      rw [hbad] at this; cases this
    gi_wp2
    refine ⟨by simp, .inl ⟨_, _, rfl, run_takeDeferred hD, ?_⟩⟩
    refine ⟨_, results8 rfl rfl (boxed_putLoop _ h0 hD rfl).cell (boxed_putLoop _ h1 hD rfl).cell, .slice none 0 0, by rw [if_neg hok'], ?_, below_putObj _ hb (by omega) (Array.getElem?_eq_some_iff.1 hD).1⟩
    try rw [if_neg hok']
    exact World.ownsRow_nil _ _ _ _
/-- path.Split -/
theorem split_c (s : ByteArray) (w : World) (hs : s.size ≤ 140737488355328) :
    Calls Try.prog 26 #[.string s] w fun e w' => ∃ v, e = .returned (.tuple #[v, .int .i64 (if (splitL s.data.toList).isSome then 0 else 15)]) ∧ OwnS w' w.heap.size v ((splitL s.data.toList).getD []) ∧ Below w.heap.size w w' := by
  have hsz := size_toList s
  have none_case : splitL s.data.toList = none → Calls Try.prog 26 #[.string s] w (fun e w' => e = .returned (.tuple #[.slice none 0 0, .int .i64 15]) ∧ Below w.heap.size w w') →
      Calls Try.prog 26 #[.string s] w fun e w' => ∃ v, e = .returned (.tuple #[v, .int .i64 (if (splitL s.data.toList).isSome then 0 else 15)]) ∧ OwnS w' w.heap.size v ((splitL s.data.toList).getD []) ∧ Below w.heap.size w w' := fun h k =>
    k.mono fun e w' ⟨h1, h2⟩ => ⟨.slice none 0 0, by subst h1; rw [h]; rfl, by rw [h]; exact World.ownsRow_nil _ _ _ _, h2⟩
  cases hl : s.data.toList with
  | nil => rw [← hl]; exact none_case (by rw [hl]; rfl) (split_none s w _ false hs (by rw [hl]; rfl) rfl (.inl rfl))
  | cons c l =>
    by_cases hc : c = 47
    · subst hc
      have hpre : Lib.hasPrefix s.data.toList [47] = true := by rw [hl]; simp [Lib.hasPrefix]
      have htr : (⟨(Lib.trimPrefix s.data.toList [47]).toArray⟩ : ByteArray) = bs l := by
        have : Lib.trimPrefix s.data.toList [47] = l := by unfold Lib.trimPrefix; rw [hpre, hl]; rfl
        rw [this]; rfl
      rw [hl] at hsz
      by_cases hlong : 500 < s.size
      · rw [← hl]
        exact none_case (by rw [hl]; rw [splitL_cons, if_pos (.inr (by simp at hsz; omega))]) (split_none s w _ true hs hpre htr (.inr hlong))
      · have hlen : l.length + 1 ≤ 500 := by simp at hsz; omega
        have hne : ¬ ((47 : UInt8) ≠ 47 ∨ 500 < l.length + 1) := by simp; omega
        by_cases hnil : l = []
        · subst hnil
          have e : splitL [47] = some [] := rfl
          rw [e]
          exact (split_root s w (by omega) hpre htr).mono fun e w' ⟨h1, h2⟩ => ⟨_, h1, World.ownsRow_nil _ _ _ _, h2⟩
        · have e : splitL (47 :: l) = if (partsL l).all okP then some (partsL l) else none := by
            rw [splitL_cons, if_neg hne, if_neg hnil]
          rw [e]
          refine (split_main s (bs l) w (by omega) (by rw [bs_size]; omega) hpre htr (by simpa using hnil)).mono fun e w' ⟨v, h1, h2, h3⟩ => ⟨v, ?_, ?_, h3⟩
          · rw [h1, bs_data]
            by_cases ha : (partsL l).all okP = true
            · rw [if_pos ha, if_pos ha]; rfl
            · rw [if_neg ha, if_neg ha]; rfl
          · rw [bs_data] at h2
            by_cases ha : (partsL l).all okP = true
            · rw [if_pos ha] at h2 ⊢; exact h2
            · rw [if_neg ha] at h2 ⊢; exact h2
    · rw [← hl]
      have hpre : Lib.hasPrefix s.data.toList [47] = false := by rw [hl]; unfold Lib.hasPrefix; simp only [List.isPrefixOf]; simp [Ne.symm hc]
      exact none_case (by rw [hl]; rw [splitL_cons, if_pos (.inl hc)]) (split_none s w _ false hs hpre rfl (.inl rfl))
end Go.Proofs.Ytnmlmbbacicojaa
namespace Go.Proofs.Ytnmlmbbacicojaa
set_option linter.unusedVariables false
set_option linter.unusedSimpArgs false
open Go.RowKit Go.Maps Go.Proofs.YtnmlmbbacicojaaW.PrintWords Go.Proofs.YtnmlmbbacicojaaW.PrintLast Go.Proofs.YtnmlmbbacicojaaW.PrintMore Go.Proofs.Ytnmlmbbacicojaa.PWalkSame

/-- from a node on, down these names: (place, errno) -/
def findGo (l : List S30) : Nat → List ByteArray → Int × Int
  | k, [] => ((k : Int), 0)
  | k, p :: ps => if (l.getD k z30).f1 ≠ 2 then (0, 12) else if slotAt p (l.getD k z30).f5 < 0 then (0, 10) else match atF l ((l.getD k z30).f5.getD (slotAt p (l.getD k z30).f5).toNat z32).f0 with
    | none => (0, 10)
    | some n => findGo l n.toNat ps
def findF (l : List S30) (s : ByteArray) : Int × Int := match splitL s.data.toList with
  | none => (0, 15)
  | some ps => match atF l 1 with
    | none => (0, 10)
    | some k => findGo l k.toNat (ps.map bs)
theorem slotAt_lt {p : ByteArray} {es : List S32} (h : 0 ≤ slotAt p es) : ∃ i : Nat, slotAt p es = (i : Int) ∧ i < es.length := by
  unfold slotAt at h ⊢
  cases hq : es.findIdx? (slotIs p) with
  | none => rw [hq] at h; simp at h
  | some i =>
    obtain ⟨h1, _⟩ := List.findIdx?_eq_some_iff_getElem.1 hq
    exact ⟨i, rfl, h1⟩

theorem split_len {l : Bytes8} {ps : List Bytes8} (h : splitL l = some ps) : ps.length ≤ 501 := by
  cases l with
  | nil => simp [splitL] at h
  | cons c t =>
    rw [splitL_cons] at h
    split at h
    · cases h
    · rename_i h1
      split at h
      · injection h with h; subst h; simp
      · split at h
        · injection h with h
          have := partsL_len t
          rw [← h]
          have h2 : ¬ 500 < t.length + 1 := fun e => h1 (.inr e)
          omega
        · cases h
theorem findGo_cons (l : List S30) (k : Nat) (hk : k < l.length) (p : ByteArray) (ps : List ByteArray) : findGo l k (p :: ps) = if (l[k]).f1 ≠ 2 then (0, 12) else if slotAt p (l[k]).f5 < 0 then (0, 10) else match atF l ((l[k]).f5.getD (slotAt p (l[k]).f5).toNat z32).f0 with
    | none => (0, 10)
    | some n => findGo l n.toNat ps := by
  have hgd : l.getD k z30 = l[k] := by simp [hk]
  conv => lhs; unfold findGo
  rw [hgd]
set_option maxHeartbeats 4000000 in
set_option maxRecDepth 100000 in
theorem find_c (l : List S30) (A : Option Addr) (N c : Nat) (s : ByteArray) (w : World) (hN : l.length = N) (hNc : N ≤ c) (hok : NodesOk l) (hC : Kd.C k30 w A N l) (hs : s.size ≤ 140737488355328) :
    Calls Try.prog 16 #[.slice A N c, .string s] w fun e w' => e = .returned (.tuple #[.int .i64 (findF l s).1, .int .i64 (findF l s).2]) ∧ Below w.heap.size w w' := by
  have hr47 := reach47
  have hll : l.length ≤ 140737488355328 := by have := hok.2; omega
  subst hN
  have HI := hide (fun (V : World) (hb : Below w.heap.size w V) => index_c A l.length c l V rfl (Kd.C_below hC hb) hNc (by omega) (fun x hx => (hok.1 x hx).1))
  have HC := hide hC
  have HOK := hide hok
  clear hC hok
  cases hq : splitL s.data.toList with
  | none =>
    have HS := hide (split_c s w hs)
    have HF := hide (show findF l s = (0, 15) by unfold findF; rw [hq])
    rw [hq] at HS
    simp only [Option.isSome_none, Option.getD_none] at HS
    clear hq
    go_enter Try.func16, Try.ntmps16
    go_wp2_with (go_at_call 26; refine HS.out.mono ?_; rintro e w1 ⟨v, rfl, hv, hb1⟩)
    refine bodyPost_ret (results_tmp2 rfl _ _ _) rfl ?_
    rw [HF.out]
    exact ⟨by first | rfl | simp, hb1⟩
  | some ps =>
    have HS := hide (split_c s w hs)
    rw [hq] at HS
    simp only [Option.isSome_some, Option.getD_some, ↓reduceIte] at HS
    cases h1 : atF l 1 with
    | none =>
      have HF := hide (show findF l s = (0, 10) by unfold findF; rw [hq]; simp only []; rw [h1])
      clear hq
      go_enter Try.func16, Try.ntmps16
      go_upto_region 5 with (first | (go_at_call 26; refine HS.out.mono ?_; rintro e w1 ⟨v, rfl, hv, hb1⟩) | (go_at_call 27; refine (HI.out _ hb1).mono ?_; rintro e w2 ⟨ba, m, rfl, hba, hii, hm, hb2⟩))
      have hlk := hii.look Try.underlying3 Try.underlying3 Try.underlying56 (zero3 _) 1 (by decide)
      rw [h1] at hlk
      simp only [Option.getD_none, Option.isSome_none] at hlk
      clear h1
      go_wp2
      refine bodyPost_ret (results_tmp2 rfl _ _ _) rfl ?_
      rw [HF.out]
      exact ⟨by first | rfl | simp, hb1.trans (hb2.mono hb1.size)⟩
    | some kk =>
      obtain ⟨k0, rfl, hk0, _⟩ := atF_lt h1
      have HF := hide (show findF l s = findGo l k0 (ps.map bs) by unfold findF; rw [hq]; simp only []; rw [h1]; rfl)
      have hpl : ps.length ≤ 501 := split_len hq
      clear hq
      go_enter Try.func16, Try.ntmps16
      go_upto_region 5 with (first | (go_at_call 26; refine HS.out.mono ?_; rintro e w1 ⟨v, rfl, hv, hb1⟩; obtain ⟨A1, c1, rfl⟩ := own_slice hv; have HV := hide hv; clear hv) | (go_at_call 27; refine (HI.out _ hb1).mono ?_; rintro e w2 ⟨ba, m, rfl, hba, hii, hm, hb2⟩))
      have hlk := hii.look Try.underlying3 Try.underlying3 Try.underlying56 (zero3 _) 1 (by decide)
      rw [h1] at hlk
      simp only [Option.getD_some, Option.isSome_some] at hlk
      have HII := hide hii
      clear h1 hii
      go_upto_region 9 with (fail)
      have hb12 := hb1.trans (hb2.mono hb1.size)
      have hsz12 := hb2.size
      have HB12 := hide hb12
      have HL2 := hide hb2
      clear hlk hb12 hb1
      go_loopw [9, 33] (fun k9 i wr => ∃ (i' k : Nat), i' ≤ ps.length ∧ i = .int .i64 i' ∧ k9 = .int .i64 k ∧ k < l.length ∧ Hid (findGo l k ((ps.map bs).drop i') = findF l s) ∧ Below w2.heap.size w2 wr) (fun _ i _ => ps.length - (intOf i).toNat)
      case atStart => exact ⟨0, k0, by omega, rfl, rfl, hk0, hide (by rw [HF.out, List.drop_zero]), Below.refl _ _⟩
      case round =>
        obtain ⟨i, k, hi, rfl, rfl, hk, HT, hbr⟩ := hrel
        have hszr := hbr.size
        by_cases hlt : i < ps.length
        · obtain ⟨g, cap, hv, _, hg⟩ := (show w1.ownsRow _ 9 1 (.slice A1 ps.length c1) ps.length (strs ps) from HV.out).form (by omega)
          injection hv with hA _ hc
          subst hA
          subst hc
          have hcell := (show w1.ownsRow _ 9 1 (.slice (some ⟨g, 0, none⟩) ps.length c1) ps.length (strs ps) from HV.out).cellAt i (by omega)
          have hcell2 : w1.cell? ⟨g, i, none⟩ = some (.string (bs ps[i])) := by rw [hcell]; simp [strs, hlt]
          replace hcell2 := ((HL2.out.trans (hbr.mono hsz12)).cell (World.block_lt_of_cell? w1 _ hcell2)).trans hcell2
          have hdr : (ps.map bs).drop i = bs ps[i] :: (ps.map bs).drop (i + 1) := by rw [List.drop_eq_getElem_cons (by simpa using hlt)]; simp
          have HG := hide (show findGo l k (bs ps[i] :: (ps.map bs).drop (i + 1)) = findF l s by rw [← hdr]; exact HT.out)
          rw [findGo_cons l k hk] at HG
          generalize bs ps[i] = p at hcell2 HG
          clear hcell hdr HT
          obtain ⟨ad, A4, c4, A5, c5, e5, x0, x1, x2, x3, x4, x5, l4, g4, l5, g5⟩ := at_T30 HC.out (k : Int) (by omega) (by omega)
          rw [rd30 hk] at x1 x5 l5 g5
          rw [Int.toNat_natCast] at x1 x5
          subst e5
          have hx := HOK.out.1 _ (List.getElem_mem hk)
          have hE5 := hx.2.2.2.2.2
          generalize l[k] = y at x1 x5 l5 g5 HG hE5
          have hl5 : y.f5.length ≤ 140737488355328 := by have := hE5.2; omega
          have HE5 := hide hE5.1
          have G5 := hide g5
          have hbW : Below w.heap.size w (wr.alloc (.cells #[.string p] 9)) := (HB12.out.trans (hbr.mono (by have := HB12.out.size; omega))).alloc (by have := HB12.out.size; omega) _
          have X5 := hide x5
          replace x1 := (hbW.cell (World.block_lt_of_cell? w _ x1)).trans x1
          replace x5 := (hbW.cell (World.block_lt_of_cell? w _ x5)).trans x5
          have HBW := hide hbW
          have o1 : (0 : Int) ≤ (k : Int) := by omega
          have o2 : (k : Int) < (l.length : Int) := by omega
          have o3 : (0 : Int) ≤ (i : Int) := by omega
          have o4 : (i : Int) < (ps.length : Int) := by omega
          have HCB := hide (show (wr.alloc (.cells #[.string p] 9)).cell? ⟨wr.heap.size, 0, none⟩ = some (.string p) from cell_one_new _ _ _ 0 _ rfl)
          clear x0 x2 x3 x4 l4 g4 g5 hx hE5 hbW
          by_cases hkind : y.f1 = 2
          · rw [if_neg (by simp [hkind])] at HG
            rw [hkind] at x1
            have HIF := hide (indexFunc_c A5 c5 wr.heap.size y.f5 p (wr.alloc (.cells #[.string p] 9)) (Kd.C_below G5.out HBW.out) l5 HCB.out hl5)
            clear hkind
            by_cases hneg : slotAt p y.f5 < 0
            · rw [if_pos hneg] at HG
              have HG2 := hide HG.out
              clear HG
              generalize slotAt p y.f5 = sl at HIF hneg
              go_wp2_with (go_at_call 28; refine HIF.out.mono ?_; rintro r w4 ⟨rfl, hb4⟩)
              refine bodyPost_ret (results_tmp2 rfl _ _ _) rfl ?_
              rw [← HG2.out]
              exact ⟨by first | rfl | simp, HBW.out.trans (hb4.mono HBW.out.size)⟩
            · obtain ⟨j, hj, hjl⟩ := slotAt_lt (Int.not_lt.1 hneg)
              rw [if_neg hneg, hj] at HG
              rw [hj] at HIF
              clear hneg hj
              obtain ⟨ae, e6, u0, u1⟩ := at_T32 G5.out (j : Int) (by omega) (by omega)
              rw [rd32 hjl] at u0 u1
              rw [Int.toNat_natCast] at u0 u1 HG
              have hgd : y.f5.getD j z32 = y.f5[j] := by simp [hjl]
              rw [hgd] at HG
              have he := HE5.out _ (List.getElem_mem hjl)
              have hwf := he.1
              generalize (y.f5[j]).f0 = ino at u0 HG hwf
              subst e6
              have U0 := hide u0
              have HWF := hide hwf
              have p1 : (0 : Int) ≤ (j : Int) := by omega
              have p2 : (j : Int) < (y.f5.length : Int) := by omega
              clear u0 u1 hgd he hwf
              go_upto_region 16 with (go_at_call 28; refine HIF.out.mono ?_; rintro r w4 ⟨rfl, hb4⟩)
              have hb24 : Below w2.heap.size w2 w4 := (hbr.alloc hszr (.cells #[.string p] 9)).trans (hb4.mono (by simp; omega))
              have HBF := hide (HBW.out.trans (hb4.mono HBW.out.size))
              have v5 := (HBF.out.cell (World.block_lt_of_cell? w _ X5.out)).trans X5.out
              have v0 := (HBF.out.cell (World.block_lt_of_cell? w _ U0.out)).trans U0.out
              have hii4 := HII.out.same (hb24.block ba HII.out.lt)
              have hlk := hii4.look Try.underlying3 Try.underlying3 Try.underlying56 (zero3 _) ino HWF.out
              have HB24 := hide hb24
              clear hb24 hii4 x1 x5
              cases hq : atF l ino with
              | none =>
                rw [hq] at HG hlk
                simp only [Option.getD_none, Option.isSome_none] at hlk
                have HG2 := hide HG.out
                clear HG hq
                go_wp2
                refine bodyPost_ret (results_tmp2 rfl _ _ _) rfl ?_
                rw [← HG2.out]
                exact ⟨by first | rfl | simp, HBF.out⟩
              | some v =>
                obtain ⟨k2, rfl, hk2, _⟩ := atF_lt hq
                rw [hq] at HG hlk
                simp only [Option.getD_some, Option.isSome_some] at hlk
                have HG2 := hide (show findGo l k2 ((ps.map bs).drop (i + 1)) = findF l s from HG.out)
                clear HG hq
                go_wp2
                go_roundw
                case rel => exact ⟨i + 1, k2, by omega, by go_num, rfl, hk2, HG2, HB24.out⟩
                case measure => simp [intOf]; omega
          · have n1 := (show (y.f1 == 2) = false ∧ (y.f1 != 2) = true by simp [hkind])
            rw [if_pos hkind] at HG
            have HG2 := hide HG.out
            clear hkind HG
            go_wp2
            refine bodyPost_ret (results_tmp2 rfl _ _ _) rfl ?_
            rw [← HG2.out]
            exact ⟨by first | rfl | simp, HBW.out⟩
        · have hie : i = ps.length := by omega
          subst hie
          have HG := hide (show findF l s = ((k : Int), 0) by rw [← HT.out, List.drop_of_length_le (by simp)]; rfl)
          clear hlt hi HT
          go_wp2
          refine bodyPost_ret (results_tmp2 rfl _ _ _) rfl ?_
          rw [HG.out]
          exact ⟨by first | rfl | simp, HB12.out.trans (hbr.mono (by have := HB12.out.size; omega))⟩
end Go.Proofs.Ytnmlmbbacicojaa
namespace Go.Proofs.Ytnmlmbbacicojaa
set_option linter.unusedVariables false
set_option linter.unusedSimpArgs false
open Go.RowKit Go.Maps Go.Proofs.YtnmlmbbacicojaaW.PrintWords Go.Proofs.YtnmlmbbacicojaaW.PrintLast Go.Proofs.YtnmlmbbacicojaaW.PrintMore Go.Proofs.Ytnmlmbbacicojaa.PWalkSame

theorem atF_hit {l : List S30} {x : Int} {k : Nat} (hk : k < l.length) (h : (l[k]).f0 = x) (hb : ∀ j (hj : j < l.length), j < k → (l[j]).f0 ≠ x) : atF l x = some (k : Int) := by
  unfold atF
  rw [List.findIdx?_eq_some_iff_getElem.2 ⟨hk, by simpa using h, fun j hj => by simpa using hb j (by omega) hj⟩]
  rfl
theorem atF_miss {l : List S30} {x : Int} (h : ∀ j (hj : j < l.length), (l[j]).f0 ≠ x) : atF l x = none := by
  unfold atF
  rw [List.findIdx?_eq_none_iff.2 (fun y hy => by obtain ⟨j, hj, rfl⟩ := List.getElem_of_mem hy; simpa using h j hj)]
  rfl
set_option maxHeartbeats 1000000 in
theorem refAt_c (l : List S30) (A : Option Addr) (N c : Nat) (x : Int) (w : World) (hN : l.length = N) (hNc : N ≤ c) (hll : N ≤ 140737488355328) (hC : Kd.C k30 w A N l) :
    Calls Try.prog 15 #[.slice A N c, .int .i64 x] w fun e w' => e = .returned (.int .i64 ((atF l x).getD (-1))) ∧ ∃ q, w' = w.drewN q := by
  subst hN
  have HC := hide hC
  clear hC
  go_enter Try.func15, Try.ntmps15
  go_wp2
  go_loopw [5] (fun i wr => ∃ k : Nat, k ≤ l.length ∧ i = .int .i64 k ∧ wr = w ∧ ∀ j (hj : j < l.length), j < k → (l[j]).f0 ≠ x) (fun i _ => l.length - (intOf i).toNat)
  case atStart => exact ⟨0, by omega, rfl, rfl, fun j _ h => absurd h (by omega)⟩
  case round =>
    obtain ⟨k, hk, rfl, rfl, hall⟩ := hrel
    have HA := hide hall
    clear hall
    by_cases hlt : k < l.length
    · obtain ⟨ad, A4, c4, A5, c5, e5, x0, x1, x2, x3, x4, x5, l4, g4, l5, g5⟩ := at_T30 HC.out (k : Int) (by omega) (by omega)
      rw [rd30 hlt] at x0
      rw [Int.toNat_natCast] at x0
      subst e5
      clear x1 x2 x3 x4 x5 l4 g4 l5 g5
      have o1 : (0 : Int) ≤ (k : Int) := by omega
      have o2 : (k : Int) < (l.length : Int) := by omega
      by_cases he : (l[k]).f0 = x
      · have HE := hide (show atF l x = some (k : Int) from atF_hit hlt he HA.out)
        have e1 := (show ((l[k]).f0 == x) = true by simpa using he)
        generalize (l[k]).f0 = y at x0 e1
        clear he
        go_wp2
        go_ret
        exact ⟨by rw [HE.out]; first | rfl | simp, 0, rfl⟩
      · have HE := hide (show ∀ j (hj : j < l.length), j < k + 1 → (l[j]).f0 ≠ x from fun j hj hjk => by
          by_cases e : j = k
          · subst e; exact he
          · exact HA.out j hj (by omega))
        have e1 := (show ((l[k]).f0 == x) = false by simpa using he)
        generalize (l[k]).f0 = y at x0 e1
        clear he
        go_wp2
        go_roundw
        case rel => exact ⟨k + 1, by omega, by go_num, by first | rfl | trivial, HE.out⟩
        case measure => simp [intOf]; omega
    · have HE := hide (show atF l x = none from atF_miss (fun j hj => HA.out j hj (by omega)))
      go_wp2
      go_ret
      exact ⟨by rw [HE.out]; first | rfl | simp, 0, rfl⟩
end Go.Proofs.Ytnmlmbbacicojaa
namespace Go.Proofs.Ytnmlmbbacicojaa.SplitRef
set_option linter.unusedVariables false
set_option linter.unusedSimpArgs false
open Go.RowKit Go.Proofs.YtnmlmbbacicojaaW.PrintWords Go.Proofs.Ytnmlmbbacicojaa.PWalkFinds

theorem bt_at (s : ByteArray) (i : Nat) (c : UInt8) (h : s.data.toList[i]? = some c) : bt s (i : Int) = (c.toNat : Int) := by
  obtain ⟨hi, hc⟩ := List.getElem?_eq_some_iff.1 h
  have hi' : i < s.size := by rw [size_toList]; exact hi
  unfold bt
  rw [dif_pos (by simpa using hi')]
  congr 2
theorem wrap_succ (i : Nat) (h : i ≤ 4611686018427387904) : wrap64 ((i : Int) + 1) = ((i + 1 : Nat) : Int) := by unfold wrap64; omega
/-- what Name's loop answers from place i on -/
def nameF (l : Bytes8) (i : Nat) : Bool := if (l.drop i).contains 0 || (l.drop i).contains 47 then false else !l.isEmpty && decide (l.length ≤ 27)
theorem nameF_zero (l : Bytes8) : nameF l 0 = nameL l := by
  unfold nameF nameL
  rw [List.drop_zero]
  cases l.contains 0 <;> cases l.contains 47 <;> simp
theorem name_ev (s : ByteArray) (hs : s.size ≤ 4611686018427387904) (d : Nat) : ∀ i : Nat, i + d = s.size → Ev (fun k => lockgateref1_Name.l0 k s (i : Int)) (nameF s.data.toList i) := by
  induction d with
  | zero =>
    intro i hi
    refine Ev.step (f := fun _ => some (nameF s.data.toList i)) (fun k => ?_) (Ev.now _)
    simp only [lockgateref1_Name.l0]
    rw [if_neg (by omega)]
    have hd : s.data.toList.drop i = [] := List.drop_eq_nil_of_le (by rw [← size_toList]; omega)
    unfold nameF
    rw [hd, ByteArray.toList_eq]
    by_cases e : s.data.toList = []
    · rw [if_pos e, e]; rfl
    · rw [if_neg e, size_toList]
      have : s.data.toList.isEmpty = false := by simpa using e
      rw [this]; simp; omega
  | succ d ih =>
    intro i hi
    have hlt : i < s.data.toList.length := by rw [← size_toList]; omega
    obtain ⟨c, hc⟩ : ∃ c, s.data.toList[i]? = some c := ⟨_, List.getElem?_eq_getElem hlt⟩
    have hd : s.data.toList.drop i = c :: s.data.toList.drop (i + 1) := by
      rw [List.drop_eq_getElem_cons hlt]
      congr 1
      rw [List.getElem?_eq_getElem hlt] at hc; injection hc
    have hb := bt_at s i c hc
    by_cases c0 : c = 0
    · subst c0
      refine Ev.step (f := fun _ => some (nameF s.data.toList i)) (fun k => ?_) (Ev.now _)
      simp only [lockgateref1_Name.l0]
      rw [if_pos (by omega), if_pos (by omega), hb, if_pos (by rfl)]
      unfold nameF; rw [hd]; simp
    · by_cases c47 : c = 47
      · subst c47
        refine Ev.step (f := fun _ => some (nameF s.data.toList i)) (fun k => ?_) (Ev.now _)
        simp only [lockgateref1_Name.l0]
        rw [if_pos (by omega), if_pos (by omega), hb, if_neg (by decide), if_pos (by rfl)]
        unfold nameF; rw [hd]; simp
      · have e0 : ¬ ((c.toNat : Int) = 0) := fun h => c0 (by apply UInt8.toNat_inj.1; simpa using h)
        have e47 : ¬ ((c.toNat : Int) = 47) := fun h => c47 (by apply UInt8.toNat_inj.1; simpa using (by omega : c.toNat = 47))
        have hn : nameF s.data.toList i = nameF s.data.toList (i + 1) := by
          unfold nameF; rw [hd]; simp [c0, c47, Ne.symm c0, Ne.symm c47]
        rw [hn]
        refine Ev.step (f := fun k => lockgateref1_Name.l0 k s ((i + 1 : Nat) : Int)) (fun k => ?_) (ih (i + 1) (by omega))
        simp only [lockgateref1_Name.l0]
        rw [if_pos (by omega), if_pos (by omega), hb, if_neg e0, if_neg e47, wrap_succ i (by omega)]
theorem nameR (s : ByteArray) (hs : s.size ≤ 4611686018427387904) : Ev (fun k => lockgateref1_Name.f k s) (nameL s.data.toList) := by
  have := name_ev s hs s.size 0 (by omega)
  rw [nameF_zero] at this
  exact this
/-- what Split's loop answers from place i on, a part begun at from -/
def splitF (l : Bytes8) (out : List ByteArray) (fr : Nat) : List ByteArray × Bool :=
  if (partsL (l.drop fr)).all okP then (out ++ (partsL (l.drop fr)).map bs, true) else ([], false)
theorem okP_split (p : Bytes8) : okP p = true ↔ nameL p = true ∧ p ≠ [46] ∧ p ≠ [46, 46] := by simp [okP, and_assoc]
theorem split_end (s : ByteArray) (hs : s.size ≤ 500) (out : List ByteArray) (fr i : Nat) (p : Bytes8) (r : List ByteArray × Bool) (hfi : fr ≤ i) (hi : i ≤ s.size) (ho : out.length ≤ 500)
    (hp : (s.data.toList.drop fr).take (i - fr) = p)
    (hbad : okP p = false → r = ([], false)) (hgood : okP p = true → Ev (fun k => lockgateref1_Split.l0 k s (out ++ [bs p]) ((i + 1 : Nat) : Int) ((i + 1 : Nat) : Int)) r) :
    Ev (fun k => lockgateref1_Split.j2 k s out (fr : Int) (i : Int) false) r := by
  have hex : s.extract ((fr : Int)).toNat ((i : Int)).toNat = bs p := by
    apply ba_ext; rw [Lib.extract_data, bs_data]; simpa using hp
  have hN := nameR (bs p) (by rw [bs_size, ← hp, List.length_take]; omega)
  rw [bs_data] at hN
  have hlen : ¬ ¬ (out.length < 8796093022208) := by omega
  refine Ev.step (f := fun k => (lockgateref1_Name.f k (bs p)).bind fun t104 => (if t104 = true then (if (bs p).toList = ([46] : List UInt8) then (some (([] : List ByteArray), false)) else (if (bs p).toList = ([46, 46] : List UInt8) then (some (([] : List ByteArray), false)) else (lockgateref1_Split.l0 k s (out ++ [bs p]) ((i + 1 : Nat) : Int) ((i + 1 : Nat) : Int)))) else (some (([] : List ByteArray), false)))) (fun k => ?_) ?_
  · simp only [lockgateref1_Split.j2]
    rw [if_neg (by simp), if_pos (by omega), if_pos (by omega), if_pos (by omega), hex, wrap_succ i (by omega), if_pos (show out.length < 8796093022208 by omega)]
  · refine Ev.bind hN ?_
    rw [ByteArray.toList_eq, bs_data]
    by_cases e : okP p = true
    · obtain ⟨e1, e2, e3⟩ := (okP_split p).1 e
      refine Ev.congr (fun k => ?_) (hgood e)
      rw [if_pos e1, if_neg e2, if_neg e3]
    · have e' : okP p = false := by simpa using e
      rw [hbad e']
      refine Ev.congr (f := fun _ => some ([], false)) (fun k => ?_) (Ev.now _)
      by_cases e1 : nameL p = true
      · rw [if_pos e1]
        by_cases e2 : p = [46]
        · rw [if_pos e2]
        · rw [if_neg e2]
          by_cases e3 : p = [46, 46]
          · rw [if_pos e3]
          · exact absurd ((okP_split p).2 ⟨e1, e2, e3⟩) e
      · rw [if_neg e1]
theorem drop_split (l : Bytes8) {fr i : Nat} (h : fr ≤ i) : l.drop fr = (l.drop fr).take (i - fr) ++ l.drop i := by
  conv => lhs; rw [← List.take_append_drop (i - fr) (l.drop fr)]
  rw [List.drop_drop]; congr 2; omega
theorem splitF_last {l : Bytes8} {out : List ByteArray} {fr : Nat} {p : Bytes8} (hp : l.drop fr = p) (hn : (47 : UInt8) ∉ p) : splitF l out fr = if okP p then (out ++ [bs p], true) else ([], false) := by
  unfold splitF; rw [hp, partsL_one hn]; simp
theorem splitF_cut {l : Bytes8} {out : List ByteArray} {fr i : Nat} {p : Bytes8} (hp : l.drop fr = p ++ 47 :: l.drop (i + 1)) (hn : (47 : UInt8) ∉ p) : splitF l out fr = if okP p then splitF l (out ++ [bs p]) (i + 1) else ([], false) := by
  unfold splitF; rw [hp, partsL_cut hn]
  by_cases e : okP p = true
  · rw [if_pos e]; simp [e]
  · rw [if_neg e]; simp [e]
theorem split_ev (s : ByteArray) (hs : s.size ≤ 500) (d : Nat) : ∀ (i fr : Nat) (out : List ByteArray), i + d = s.size → fr ≤ i → 1 ≤ fr → out.length < fr → (47 : UInt8) ∉ (s.data.toList.drop fr).take (i - fr) →
    Ev (fun k => lockgateref1_Split.l0 k s out (fr : Int) (i : Int)) (splitF s.data.toList out fr) := by
  have hsl := size_toList s
  induction d with
  | zero =>
    intro i fr out hi hfi h1 ho hn
    have hp : (s.data.toList.drop fr).take (i - fr) = s.data.toList.drop fr := List.take_of_length_le (by rw [List.length_drop]; omega)
    rw [hp] at hn
    rw [splitF_last rfl hn]
    refine Ev.step (f := fun k => lockgateref1_Split.j2 k s out (fr : Int) (i : Int) false) (fun k => ?_) ?_
    · simp only [lockgateref1_Split.l0]
      rw [if_pos (by omega), if_neg (by omega)]
    · refine split_end s hs out fr i _ _ hfi (by omega) (by omega) hp (fun e => by rw [e]; rfl) (fun e => ?_)
      rw [e]
      refine Ev.step (f := fun k => some (out ++ [bs (s.data.toList.drop fr)], true)) (fun k => ?_) (Ev.now _)
      simp only [lockgateref1_Split.l0]
      rw [if_neg (by omega)]
  | succ d ih =>
    intro i fr out hi hfi h1 ho hn
    have hlt : i < s.data.toList.length := by omega
    obtain ⟨c, hc⟩ : ∃ c, s.data.toList[i]? = some c := ⟨_, List.getElem?_eq_getElem hlt⟩
    have hd : s.data.toList.drop i = c :: s.data.toList.drop (i + 1) := by
      rw [List.drop_eq_getElem_cons hlt]
      congr 1
      rw [List.getElem?_eq_getElem hlt] at hc; injection hc
    have hb := bt_at s i c hc
    have hsp := drop_split s.data.toList hfi
    rw [hd] at hsp
    by_cases c47 : c = 47
    · subst c47
      rw [splitF_cut hsp hn]
      refine Ev.step (f := fun k => lockgateref1_Split.j2 k s out (fr : Int) (i : Int) false) (fun k => ?_) ?_
      · simp only [lockgateref1_Split.l0]
        rw [if_pos (by omega), if_pos (by omega), if_pos (by omega), hb]
        rfl
      · refine split_end s hs out fr i _ _ hfi (by omega) (by omega) rfl (fun e => by rw [e]; rfl) (fun e => ?_)
        rw [e]
        exact ih (i + 1) (i + 1) _ (by omega) (by omega) (by omega) (by simp; omega) (by simp)
    · refine Ev.step (f := fun k => lockgateref1_Split.j2 k s out (fr : Int) (i : Int) true) (fun k => ?_) ?_
      · simp only [lockgateref1_Split.l0]
        have e47 : ¬ ((c.toNat : Int) = 47) := fun h => c47 (by apply UInt8.toNat_inj.1; simpa using (by omega : c.toNat = 47))
        rw [if_pos (by omega), if_pos (by omega), if_pos (by omega), hb]
        congr 1
        simpa using e47
      · refine Ev.step (f := fun k => lockgateref1_Split.l0 k s out (fr : Int) ((i + 1 : Nat) : Int)) (fun k => ?_) ?_
        · simp only [lockgateref1_Split.j2]
          rw [if_pos trivial, wrap_succ i (by omega)]
        · refine ih (i + 1) fr out (by omega) (by omega) h1 ho ?_
          have : (s.data.toList.drop fr).take (i + 1 - fr) = (s.data.toList.drop fr).take (i - fr) ++ [c] := by
            have e : i + 1 - fr = (i - fr) + 1 := by omega
            have hk : i - fr < (s.data.toList.drop fr).length := by rw [List.length_drop]; omega
            rw [e, List.take_succ_eq_append_getElem hk]
            congr 2
            rw [List.getElem_drop]
            rw [List.getElem?_eq_getElem hlt] at hc
            injection hc with hc
            rw [← hc]; congr 1; omega
          rw [this]
          simp [hn, Ne.symm c47]
/-- the document's Split -/
theorem splitR (s : ByteArray) (hs : s.size ≤ 4611686018427387904) : Ev (fun k => lockgateref1_Split.f k s) (((splitL s.data.toList).getD []).map bs, (splitL s.data.toList).isSome) := by
  have hsl := size_toList s
  have none_ : ∀ k, lockgateref1_Split.j0 (k + 1) s true = some ([], false) := fun k => by simp [lockgateref1_Split.j0]
  cases hl : s.data.toList with
  | nil =>
    refine Ev.step (f := fun _ => some ([], false)) (fun k => ?_) (Ev.now _)
    unfold lockgateref1_Split.f
    rw [ByteArray.toList_eq, if_pos hl, none_]
  | cons c l =>
    rw [hl] at hsl
    have hne : ¬ s.toList = ([] : List UInt8) := by rw [ByteArray.toList_eq, hl]; simp
    have hb := bt_at s 0 c (by rw [hl]; rfl)
    have hpos : (0 : Int) < (s.size : Int) := by simp at hsl; omega
    rw [splitL_cons]
    by_cases c47 : c = 47
    · subst c47
      by_cases hlong : 500 < s.size
      · rw [if_pos (.inr (by simp at hsl; omega))]
        refine Ev.step (f := fun _ => some ([], false)) (fun k => ?_) (Ev.now _)
        unfold lockgateref1_Split.f
        rw [if_neg hne, if_pos hpos, show bt s 0 = _ from hb, if_pos (by rfl), decide_eq_true (by omega), none_]
      · rw [if_neg (by simp at hsl ⊢; omega)]
        have hj : ∀ k, lockgateref1_Split.f k s = lockgateref1_Split.j0 k s false := fun k => by
          unfold lockgateref1_Split.f
          rw [if_neg hne, if_pos hpos, show bt s 0 = _ from hb, if_pos (by rfl), decide_eq_false (by omega)]
        by_cases hnil : l = []
        · subst hnil
          rw [if_pos rfl]
          refine Ev.congr hj (Ev.step (f := fun _ => some ([], true)) (fun k => ?_) (Ev.now _))
          simp only [lockgateref1_Split.j0]
          rw [if_neg (by simp), ByteArray.toList_eq, if_pos hl]
        · rw [if_neg hnil]
          refine Ev.congr hj (Ev.step (f := fun k => lockgateref1_Split.l0 k s [] 1 1) (fun k => ?_) ?_)
          · simp only [lockgateref1_Split.j0]
            rw [if_neg (by simp), ByteArray.toList_eq, if_neg (by rw [hl]; simpa using hnil)]
          · have := split_ev s (by omega) (s.size - 1) 1 1 [] (by omega) (by omega) (by omega) (by simp) (by simp)
            have e : splitF s.data.toList [] 1 = (((if (partsL l).all okP then some (partsL l) else none : Option (List Bytes8)).getD []).map bs, (if (partsL l).all okP then some (partsL l) else none : Option (List Bytes8)).isSome) := by
              unfold splitF; rw [hl]
              show (if (partsL l).all okP = true then ([] ++ (partsL l).map bs, true) else ([], false)) = _
              by_cases e : (partsL l).all okP = true
              · rw [if_pos e, if_pos e]; rfl
              · rw [if_neg e, if_neg e]; rfl
            rw [← e]
            exact this
    · rw [if_pos (.inl c47)]
      have e47 : ¬ ((c.toNat : Int) = 47) := fun h => c47 (by apply UInt8.toNat_inj.1; simpa using (by omega : c.toNat = 47))
      refine Ev.step (f := fun _ => some ([], false)) (fun k => ?_) (Ev.now _)
      unfold lockgateref1_Split.f
      rw [if_neg hne, if_pos hpos, show bt s 0 = _ from hb, if_neg e47, none_]
theorem splitRef_c (s : ByteArray) (w : World) (hs : s.size ≤ 140737488355328) (ps : List Bytes8) (ok : Bool) (h1 : (splitL s.data.toList).getD [] = ps) (h2 : (splitL s.data.toList).isSome = ok) :
    Calls Try.prog 30 #[.string s] w fun e w' => ∃ A c, e = .returned (.tuple #[.slice A ps.length c, .bool ok]) ∧ ps.length ≤ c ∧ Kd.string.C w' A ps.length (ps.map bs) ∧ Below w.heap.size w w' := by
  obtain ⟨k, hk⟩ := (splitR s (by omega)).rounds
  rw [h1, h2] at hk
  refine (lockgateref1_Split.calls k s _ _ w hk).mono fun e w' ⟨v, he, hR, hb⟩ => ?_
  obtain ⟨A, c, rfl, hc, hC⟩ := Kd.R_reads hR
  rw [List.length_map] at he hc hC
  exact ⟨A, c, he, hc, hC, hb⟩
end Go.Proofs.Ytnmlmbbacicojaa.SplitRef
namespace Go.Proofs.Ytnmlmbbacicojaa
set_option linter.unusedVariables false
set_option linter.unusedSimpArgs false
open Go.RowKit Go.Maps Go.Proofs.YtnmlmbbacicojaaW.PrintWords Go.Proofs.YtnmlmbbacicojaaW.PrintLast Go.Proofs.YtnmlmbbacicojaaW.PrintMore Go.Proofs.Ytnmlmbbacicojaa.PWalkSame

theorem refSplit_y (s : ByteArray) (w : World) (hs : s.size ≤ 140737488355328) (ps : List Bytes8) (h : splitL s.data.toList = some ps) :
    Calls Try.prog 30 #[.string s] w fun e w' => ∃ A c, e = .returned (.tuple #[.slice A ps.length c, .bool true]) ∧ ps.length ≤ c ∧ Kd.string.C w' A ps.length (ps.map bs) ∧ Below w.heap.size w w' :=
  SplitRef.splitRef_c s w hs ps true (by rw [h]; rfl) (by rw [h]; rfl)
theorem refSplit_x (s : ByteArray) (w : World) (hs : s.size ≤ 140737488355328) (h : splitL s.data.toList = none) :
    Calls Try.prog 30 #[.string s] w fun e w' => ∃ A c, e = .returned (.tuple #[.slice A 0 c, .bool false]) ∧ Below w.heap.size w w' :=
  (SplitRef.splitRef_c s w hs [] false (by rw [h]; rfl) (by rw [h]; rfl)).mono fun e w' ⟨A, c, h1, _, _, h2⟩ => ⟨A, c, h1, h2⟩
theorem str_at {w : World} {A : Option Addr} {n : Nat} {xs : List ByteArray} (h : Kd.string.C w A n xs) (i : Nat) (hi : i < n) (hx : i < xs.length) : ∃ ad, A = some ad ∧ w.cell? (ad.add i) = some (.string xs[i]) := by
  obtain ⟨ad, c, e, _, hK, hc⟩ := Kd.C_get h ByteArray.empty (i : Int) (by omega) (by omega)
  have hK' : c = [Value.string ((xs.getD ((i : Int)).toNat ByteArray.empty))] := hK
  subst hK'
  have := hc 0 _ rfl
  refine ⟨ad, e, ?_⟩
  rw [show Kd.string.sz = 1 from rfl] at this
  simp [hx] at this
  exact this

set_option maxHeartbeats 4000000 in
set_option maxRecDepth 100000 in
theorem refFind_c (l : List S30) (A : Option Addr) (N c : Nat) (s : ByteArray) (w : World) (hN : l.length = N) (hNc : N ≤ c) (hok : NodesOk l) (hC : Kd.C k30 w A N l) (hs : s.size ≤ 140737488355328) :
    Calls Try.prog 17 #[.slice A N c, .string s] w fun e w' => e = .returned (.tuple #[.int .i64 (findF l s).1, .int .i64 (findF l s).2]) ∧ Below w.heap.size w w' := by
  have hr47 := reach47
  have hll : l.length ≤ 140737488355328 := by have := hok.2; omega
  subst hN
  have HI := hide (fun (V : World) (x : Int) (hb : Below w.heap.size w V) => refAt_c l A l.length c x V rfl hNc hll (Kd.C_below hC hb))
  have HC := hide hC
  have HOK := hide hok
  clear hC hok
  cases hq : splitL s.data.toList with
  | none =>
    have HS := hide (refSplit_x s w hs hq)
    have HF := hide (show findF l s = (0, 15) by unfold findF; rw [hq])
    clear hq
    go_enter Try.func17, Try.ntmps17
    go_wp2_with (go_at_call 30; refine HS.out.mono ?_; rintro e w1 ⟨A1, c1, rfl, hb1⟩)
    refine bodyPost_ret (results_tmp2 rfl _ _ _) rfl ?_
    rw [HF.out]
    exact ⟨by first | rfl | simp, hb1⟩
  | some ps =>
    have HS := hide (refSplit_y s w hs ps hq)
    cases h1 : atF l 1 with
    | none =>
      have HF := hide (show findF l s = (0, 10) by unfold findF; rw [hq]; simp only []; rw [h1])
      rw [show (none : Option Int) = none from rfl] at h1
      have HI1 := hide (fun V hb => h1 ▸ HI.out V 1 hb)
      clear hq h1
      go_enter Try.func17, Try.ntmps17
      go_wp2_with (first | (go_at_call 30; refine HS.out.mono ?_; rintro e w1 ⟨A1, c1, rfl, hc1, hp1, hb1⟩) | (go_at_call 15; refine (HI1.out _ hb1).mono ?_; rintro e w2 ⟨rfl, q, rfl⟩))
      refine bodyPost_ret (results_tmp2 rfl _ _ _) rfl ?_
      rw [HF.out]
      exact ⟨by first | rfl | simp, below_drewN hb1 q⟩
    | some kk =>
      obtain ⟨k0, rfl, hk0, _⟩ := atF_lt h1
      have HF := hide (show findF l s = findGo l k0 (ps.map bs) by unfold findF; rw [hq]; simp only []; rw [h1]; rfl)
      have HI1 := hide (fun V hb => h1 ▸ HI.out V 1 hb)
      have hpl : ps.length ≤ 501 := split_len hq
      clear hq h1
      go_enter Try.func17, Try.ntmps17
      go_upto_region 8 with (first | (go_at_call 30; refine HS.out.mono ?_; rintro e w1 ⟨A1, c1, rfl, hc1, hp1, hb1⟩; have HP1 := hide hp1; clear hp1) | (go_at_call 15; refine (HI1.out _ hb1).mono ?_; rintro e w2 ⟨rfl, q, rfl⟩))
      go_wp2
      have hb0 : Below w.heap.size w (w1.drewN q) := below_drewN hb1 q
      have HB0 := hide hb0
      clear hb0
      go_loopw [8, 9] (fun k8 i wr => ∃ (i' k : Nat), i' ≤ ps.length ∧ i = .int .i64 i' ∧ k8 = .int .i64 k ∧ k < l.length ∧ Hid (findGo l k ((ps.map bs).drop i') = findF l s) ∧ Below w1.heap.size w1 wr) (fun _ i _ => ps.length - (intOf i).toNat)
      case atStart => exact ⟨0, k0, by omega, rfl, rfl, hk0, hide (by rw [HF.out, List.drop_zero]), below_drewN (Below.refl _ _) q⟩
      case round =>
        rename World => W0
        obtain ⟨i, k, hi, rfl, rfl, hk, HT, hbr⟩ := hrel
        have hszr := hbr.size
        by_cases hlt : i < ps.length
        · have hlm : i < (ps.map bs).length := by simpa using hlt
          obtain ⟨ap, hap, hcp⟩ := str_at HP1.out i hlt hlm
          subst hap
          have hcpr := (hbr.cell (World.block_lt_of_cell? w1 _ hcp)).trans hcp
          have HG := hide (show findGo l k ((ps.map bs)[i] :: (ps.map bs).drop (i + 1)) = findF l s by rw [← List.drop_eq_getElem_cons hlm]; exact HT.out)
          rw [findGo_cons l k hk] at HG
          generalize (ps.map bs)[i] = p at hcpr HG hcp
          have HCP := hide hcp
          clear hcp HT
          obtain ⟨ad, A4, c4, A5, c5, e5, x0, x1, x2, x3, x4, x5, l4, g4, l5, g5⟩ := at_T30 HC.out (k : Int) (by omega) (by omega)
          rw [rd30 hk] at x1 x5 l5 g5
          rw [Int.toNat_natCast] at x1 x5
          subst e5
          have hx := HOK.out.1 _ (List.getElem_mem hk)
          have hE5 := hx.2.2.2.2.2
          generalize l[k] = y at x1 x5 l5 g5 HG hE5
          have hl5 : y.f5.length ≤ 140737488355328 := by have := hE5.2; omega
          have HE5 := hide hE5.1
          have G5 := hide g5
          have HBW := hide (hb1.trans (hbr.mono hb1.size))
          have X5 := hide x5
          replace x1 := (HBW.out.cell (World.block_lt_of_cell? w _ x1)).trans x1
          replace x5 := (HBW.out.cell (World.block_lt_of_cell? w _ x5)).trans x5
          have o1 : (0 : Int) ≤ (k : Int) := by omega
          have o2 : (k : Int) < (l.length : Int) := by omega
          have o3 : (0 : Int) ≤ (i : Int) := by omega
          have o4 : (i : Int) < (ps.length : Int) := by omega
          clear x0 x2 x3 x4 l4 g4 g5 hx hE5
          by_cases hkind : y.f1 = 2
          · rw [if_neg (by simp [hkind])] at HG
            rw [hkind] at x1
            clear hkind
            go_upto_region 14 with (fail)
            go_wp2
            go_loopw [10, 11] (fun nx jj w5 => ∃ (j : Nat) (z : Int), j ≤ y.f5.length ∧ jj = .int .i64 j ∧ nx = .int .i64 z ∧ Hid ((z = -1 ∧ ∀ a (ha : a < y.f5.length), a < j → slotIs p y.f5[a] = false) ∨ (0 ≤ z ∧ z = slotAt p y.f5)) ∧ Below W0.heap.size W0 w5) (fun _ jj _ => y.f5.length - (intOf jj).toNat)
            case atStart => exact ⟨0, -1, by omega, rfl, rfl, hide (.inl ⟨rfl, fun a _ h => absurd h (by omega)⟩), Below.refl _ _⟩
            case round =>
              obtain ⟨j, z, hj, rfl, rfl, HZ, hb5⟩ := hrel
              have hsz5 := hb5.size
              have HBV := hide (HBW.out.trans (hb5.mono HBW.out.size))
              have v1 := (hb5.cell (World.block_lt_of_cell? W0 _ x1)).trans x1
              have v5 := (hb5.cell (World.block_lt_of_cell? W0 _ x5)).trans x5
              have vp := (hb5.cell (World.block_lt_of_cell? W0 _ hcpr)).trans hcpr
              have q1 : (0 : Int) ≤ (j : Int) := by omega
              by_cases hjl : j < y.f5.length
              · have q2 : (j : Int) < (y.f5.length : Int) := by omega
                by_cases hz : z < 0
                · have HZ1 := hide (show z = -1 ∧ ∀ a (ha : a < y.f5.length), a < j → slotIs p y.f5[a] = false by
                    rcases HZ.out with h | ⟨h, _⟩
                    · exact h
                    · omega)
                  obtain ⟨ae, e6, u0, u1⟩ := at_T32 G5.out (j : Int) (by omega) (by omega)
                  rw [rd32 hjl] at u0 u1
                  rw [Int.toNat_natCast] at u0 u1
                  subst e6
                  replace u0 := (HBV.out.cell (World.block_lt_of_cell? w _ u0)).trans u0
                  replace u1 := (HBV.out.cell (World.block_lt_of_cell? w _ u1)).trans u1
                  have HHIT := hide (fun h => slotAt_hit (p := p) hjl h HZ1.out.2)
                  have HMISS := hide (show slotIs p y.f5[j] = false → ∀ a (ha : a < y.f5.length), a < j + 1 → slotIs p y.f5[a] = false from fun h a ha haj => by
                    by_cases e : a = j
                    · subst e; exact h
                    · exact HZ1.out.2 a ha (by omega))
                  have hz1 := HZ1.out.1
                  subst hz1
                  clear HZ hz
                  generalize y.f5[j] = e at u0 u1 HHIT HMISS
                  have bA : Below wr.heap.size wr (wr.alloc (.cells #[.int .i64 e.f0, .string e.f1] 32)) := (Below.refl _ wr).alloc (Nat.le_refl _) _
                  have vp2 := (bA.cell (World.block_lt_of_cell? wr _ vp)).trans vp
                  have HBA := hide (hb5.alloc hb5.size (.cells #[.int .i64 e.f0, .string e.f1] 32))
                  clear bA
                  by_cases h0 : e.f0 = 0
                  · have e1 := (show (e.f0 == 0) = true ∧ (e.f0 != 0) = false by simp [h0])
                    have HM := hide (HMISS.out (by unfold slotIs; rw [e1.2]; rfl))
                    obtain ⟨e1, e2⟩ := e1
                    clear h0
                    go_wp2
                    go_quiet (fail)
                    go_wp2
                    go_roundw
                    case rel => exact ⟨j + 1, -1, by omega, by go_num, rfl, hide (.inl ⟨rfl, HM.out⟩), below_drewN HBA.out _⟩
                    case measure => simp [intOf]; omega
                  · have e1 := (show (e.f0 == 0) = false ∧ (e.f0 != 0) = true by simp [h0])
                    obtain ⟨e1, e2⟩ := e1
                    clear h0
                    by_cases hn : e.f1.toList = p.toList
                    · have e3 : (e.f1.toList == p.toList) = true := by simpa using hn
                      have HM := hide (HHIT.out (by unfold slotIs; rw [e2, e3]; rfl))
                      clear hn
                      go_wp2
                      go_quiet (fail)
                      go_wp2
                      go_roundw
                      case rel => exact ⟨j + 1, (j : Int), by omega, by go_num, rfl, hide (.inr ⟨by omega, HM.out.symm⟩), below_drewN HBA.out _⟩
                      case measure => simp [intOf]; omega
                    · have e3 : (e.f1.toList == p.toList) = false := by simpa using hn
                      have HM := hide (HMISS.out (by unfold slotIs; rw [e3]; simp))
                      clear hn
                      go_wp2
                      go_quiet (fail)
                      go_wp2
                      go_roundw
                      case rel => exact ⟨j + 1, -1, by omega, by go_num, rfl, hide (.inl ⟨rfl, HM.out⟩), below_drewN HBA.out _⟩
                      case measure => simp [intOf]; omega
                · have z0 : (0 : Int) ≤ z := by omega
                  have HZ2 := hide (show 0 ≤ z ∧ z = slotAt p y.f5 by
                    rcases HZ.out with ⟨h, _⟩ | h
                    · omega
                    · exact h)
                  obtain ⟨i2, hi2, hil⟩ := slotAt_lt (p := p) (es := y.f5) (by rw [← HZ2.out.2]; exact HZ2.out.1)
                  obtain rfl : z = (i2 : Int) := by rw [HZ2.out.2, hi2]
                  obtain ⟨ae, e6, u0, u1⟩ := at_T32 G5.out (i2 : Int) (by omega) (by omega)
                  rw [rd32 hil] at u0 u1
                  rw [Int.toNat_natCast] at u0 u1
                  subst e6
                  replace u0 := (HBV.out.cell (World.block_lt_of_cell? w _ u0)).trans u0
                  have HG3 := hide (show (match atF l (y.f5[i2]).f0 with | none => (0, 10) | some n => findGo l n.toNat ((ps.map bs).drop (i + 1))) = findF l s by
                    have := HG.out
                    rw [if_neg (by rw [hi2]; omega), hi2, Int.toNat_natCast, show y.f5.getD i2 z32 = y.f5[i2] by simp [hil]] at this
                    exact this)
                  generalize (y.f5[i2]).f0 = ino at u0 HG3
                  have r1 : (0 : Int) ≤ (i2 : Int) := by omega
                  have r2 : (i2 : Int) < (y.f5.length : Int) := by omega
                  have HBX := hide (hbr.trans (hb5.mono hbr.size))
                  clear u1 HZ HZ2 hi2 hz HG x1 x5 hcpr vp hil
                  cases hq : atF l ino with
                  | none =>
                    have HA := hide (fun V hb => hq ▸ HI.out V ino hb)
                    have HG4 := hide (show ((0 : Int), (10 : Int)) = findF l s by have := HG3.out; rw [hq] at this; exact this)
                    clear hq HG3
                    go_wp2_with (go_at_call 15; refine (HA.out _ HBV.out).mono ?_; rintro e w9 ⟨rfl, q9, rfl⟩)
                    refine bodyPost_ret (results_tmp2 rfl _ _ _) rfl ?_
                    rw [← HG4.out]
                    exact ⟨by first | rfl | simp, below_drewN HBV.out q9⟩
                  | some v =>
                    obtain ⟨k2, rfl, hk2, _⟩ := atF_lt hq
                    have HA := hide (fun V hb => hq ▸ HI.out V ino hb)
                    have HG4 := hide (show findGo l k2 ((ps.map bs).drop (i + 1)) = findF l s by have := HG3.out; rw [hq] at this; exact this)
                    clear hq HG3
                    go_wp2_with (go_at_call 15; refine (HA.out _ HBV.out).mono ?_; rintro e w9 ⟨rfl, q9, rfl⟩)
                    go_roundw
                    case rel => exact ⟨i + 1, k2, by omega, by go_num, rfl, hk2, HG4, below_drewN HBX.out q9⟩
                    case measure => simp [intOf]; omega
              · have q2 : (y.f5.length : Int) ≤ (j : Int) := by omega
                by_cases hz : z < 0
                · have HN := hide (show slotAt p y.f5 = -1 by
                    rcases HZ.out with ⟨_, h⟩ | ⟨h, _⟩
                    · exact slotAt_miss fun a ha => h a ha (by omega)
                    · omega)
                  have HG4 := hide (show ((0 : Int), (10 : Int)) = findF l s by have := HG.out; rw [HN.out, if_pos (by omega)] at this; exact this)
                  clear HZ HN HG x1 x5 hcpr vp
                  go_wp2
                  refine bodyPost_ret (results_tmp2 rfl _ _ _) rfl ?_
                  rw [← HG4.out]
                  exact ⟨by first | rfl | simp, HBV.out⟩
                · have z0 : (0 : Int) ≤ z := by omega
                  have HZ2 := hide (show 0 ≤ z ∧ z = slotAt p y.f5 by
                    rcases HZ.out with ⟨h, _⟩ | h
                    · omega
                    · exact h)
                  obtain ⟨i2, hi2, hil⟩ := slotAt_lt (p := p) (es := y.f5) (by rw [← HZ2.out.2]; exact HZ2.out.1)
                  obtain rfl : z = (i2 : Int) := by rw [HZ2.out.2, hi2]
                  obtain ⟨ae, e6, u0, u1⟩ := at_T32 G5.out (i2 : Int) (by omega) (by omega)
                  rw [rd32 hil] at u0 u1
                  rw [Int.toNat_natCast] at u0 u1
                  subst e6
                  replace u0 := (HBV.out.cell (World.block_lt_of_cell? w _ u0)).trans u0
                  have HG3 := hide (show (match atF l (y.f5[i2]).f0 with | none => (0, 10) | some n => findGo l n.toNat ((ps.map bs).drop (i + 1))) = findF l s by
                    have := HG.out
                    rw [if_neg (by rw [hi2]; omega), hi2, Int.toNat_natCast, show y.f5.getD i2 z32 = y.f5[i2] by simp [hil]] at this
                    exact this)
                  generalize (y.f5[i2]).f0 = ino at u0 HG3
                  have r1 : (0 : Int) ≤ (i2 : Int) := by omega
                  have r2 : (i2 : Int) < (y.f5.length : Int) := by omega
                  have HBX := hide (hbr.trans (hb5.mono hbr.size))
                  clear u1 HZ HZ2 hi2 hz HG x1 x5 hcpr vp hil
                  cases hq : atF l ino with
                  | none =>
                    have HA := hide (fun V hb => hq ▸ HI.out V ino hb)
                    have HG4 := hide (show ((0 : Int), (10 : Int)) = findF l s by have := HG3.out; rw [hq] at this; exact this)
                    clear hq HG3
                    go_wp2_with (go_at_call 15; refine (HA.out _ HBV.out).mono ?_; rintro e w9 ⟨rfl, q9, rfl⟩)
                    refine bodyPost_ret (results_tmp2 rfl _ _ _) rfl ?_
                    rw [← HG4.out]
                    exact ⟨by first | rfl | simp, below_drewN HBV.out q9⟩
                  | some v =>
                    obtain ⟨k2, rfl, hk2, _⟩ := atF_lt hq
                    have HA := hide (fun V hb => hq ▸ HI.out V ino hb)
                    have HG4 := hide (show findGo l k2 ((ps.map bs).drop (i + 1)) = findF l s by have := HG3.out; rw [hq] at this; exact this)
                    clear hq HG3
                    go_wp2_with (go_at_call 15; refine (HA.out _ HBV.out).mono ?_; rintro e w9 ⟨rfl, q9, rfl⟩)
                    go_roundw
                    case rel => exact ⟨i + 1, k2, by omega, by go_num, rfl, hk2, HG4, below_drewN HBX.out q9⟩
                    case measure => simp [intOf]; omega
          · have n1 := (show (y.f1 == 2) = false ∧ (y.f1 != 2) = true by simp [hkind])
            rw [if_pos hkind] at HG
            have HG2 := hide HG.out
            clear hkind HG
            go_wp2
            refine bodyPost_ret (results_tmp2 rfl _ _ _) rfl ?_
            rw [← HG2.out]
            exact ⟨by first | rfl | simp, HBW.out⟩
        · have hie : i = ps.length := by omega
          have HG := hide (show findF l s = ((k : Int), 0) by rw [← HT.out, hie, List.drop_of_length_le (by simp)]; rfl)
          have hge : (ps.length : Int) ≤ (i : Int) := by omega
          clear hlt hi HT hie
          go_wp2
          refine bodyPost_ret (results_tmp2 rfl _ _ _) rfl ?_
          rw [HG.out]
          exact ⟨by first | rfl | simp, hb1.trans (hbr.mono hb1.size)⟩
end Go.Proofs.Ytnmlmbbacicojaa
namespace Go.Proofs.Ytnmlmbbacicojaa
open Go.RowKit
set_option linter.unusedVariables false

/-- block b holds the cells cs of elements of type t -/
def Blk (W : World) (b : Nat) (cs : Array Value) (t : TypeId) : Prop := W.heap[b]? = some (.cells cs t (0, 0))
section
variable {W W' : World} {b : Nat} {cs : Array Value} {t : TypeId}
theorem Blk.lt (h : Blk W b cs t) : b < W.heap.size := (Array.getElem?_eq_some_iff.1 h).1
theorem Blk.cell (h : Blk W b cs t) (i : Nat) : W.cell? ⟨b, i, none⟩ = cs[i]? := by simp [World.cell?, show W.heap[b]? = _ from h]
theorem Blk.frozen (h : Blk W b cs t) (i : Nat) : W.frozen? ⟨b, i, none⟩ = false := by simp [World.frozen?, show W.heap[b]? = _ from h]
theorem Blk.same (h : Blk W b cs t) (e : W'.heap[b]? = W.heap[b]?) : Blk W' b cs t := e.trans h
theorem Blk.kept {row : Option Nat} (h : Blk W b cs t) (hg : W.grownBy W' row) (hne : some b ≠ row) : Blk W' b cs t := (hg.block b h.lt hne).trans h
theorem Blk.alloc (h : Blk W b cs t) (o : Obj) : Blk (W.alloc o) b cs t := h.kept (World.grownBy_alloc W o none) (by simp)
theorem Blk.below {B : Nat} (h : Blk W b cs t) (hb : Below B W W') (hB : b < B) : Blk W' b cs t := (hb.block b hB).trans h
theorem Blk.other (h : Blk W b cs t) {a : Addr} (hne : b ≠ a.block) (u : Value) : Blk (W.setCell a u) b cs t := (Below.heap_setCell W a u b hne).trans h
theorem Blk.set (h : Blk W b cs t) (i : Nat) (u : Value) : Blk (W.setCell ⟨b, i, none⟩ u) b (cs.setIfInBounds i u) t := by
  obtain ⟨hlt, hk⟩ := Array.getElem?_eq_some_iff.1 h
  show (W.heap.modify b _)[b]? = _
  rw [Array.getElem?_eq_getElem (by rw [Array.size_modify]; exact hlt), Array.getElem_modify_self, hk]
  rfl
theorem Blk.new (W : World) (cs : Array Value) (t : TypeId) : Blk (W.alloc (.cells cs t)) W.heap.size cs t := World.alloc_heap_new W _
end
/-- blocks of other element types are no rows of one -/
theorem Blk.not_row {W : World} {b : Nat} {cs : Array Value} {t e : TypeId} (h : Blk W b cs t) (hte : t ≠ e) {base size k : Nat} {v : Value} {xs : List Value} (hr : W.ownsRow base e size v k xs) : some b ≠ v.ownBlock := by
  rcases hr.2 with ⟨rfl, _⟩ | ⟨g, cap, cur, rfl, _, hgb, _⟩
  · simp [Value.ownBlock]
  · intro e'
    obtain rfl : b = g := by simpa [Value.ownBlock] using e'
    rw [show W.heap[b]? = _ from h] at hgb
    injection hgb with hgb
    injection hgb with _ h2 _
    exact hte h2
theorem results_nil {fn : Func} (h : fn.results = #[]) (tmps : Array Value) (P : Program) (w : World) : (results fn tmps).run P w = .ok (.tuple #[]) w := by simp [results, h]
theorem below_drewN' {B : Nat} {w W : World} (h : Below B w W) (q : Nat) : Below B w (W.drewN q) := ⟨h.os, h.tape, h.output, h.size, h.block⟩
theorem own_drewN {W : World} {base : Nat} {e : TypeId} {size n : Nat} {v : Value} {xs : List Value} (h : W.ownsRow base e size v n xs) (q : Nat) : (W.drewN q).ownsRow base e size v n xs := h
end Go.Proofs.Ytnmlmbbacicojaa
namespace Go.Proofs.Ytnmlmbbacicojaa
set_option linter.unusedVariables false
set_option linter.unusedSimpArgs false
open Go.RowKit Go.Maps Go.Proofs.YtnmlmbbacicojaaW.PrintWords Go.Proofs.YtnmlmbbacicojaaW.PrintLast Go.Proofs.YtnmlmbbacicojaaW.PrintMore Go.Proofs.Ytnmlmbbacicojaa.PWalkSame

/-- the paths so far, the directories that were gone into -/
abbrev St := List ByteArray × (Int → Bool)
def nextS (ahead name : ByteArray) : ByteArray := ahead ++ (⟨#[47]⟩ : ByteArray) ++ name
def slotsF (rec : Nat → ByteArray → St → Bool × St) (l : List S30) (ahead : ByteArray) : List S32 → St → Bool × St
  | [], st => (true, st)
  | e :: es, st =>
    if e.f0 = 0 ∨ 500 < (nextS ahead e.f1).size then slotsF rec l ahead es st
    else if st.1.length = 10000 then (false, st)
    else match atF l e.f0 with
      | none => slotsF rec l ahead es (st.1 ++ [nextS ahead e.f1], st.2)
      | some n => if (rec n.toNat (nextS ahead e.f1) (st.1 ++ [nextS ahead e.f1], st.2)).1 then slotsF rec l ahead es (rec n.toNat (nextS ahead e.f1) (st.1 ++ [nextS ahead e.f1], st.2)).2 else (false, (rec n.toNat (nextS ahead e.f1) (st.1 ++ [nextS ahead e.f1], st.2)).2)
def into (st : St) (k : Nat) : St := (st.1, fun x => if x = (k : Int) then true else st.2 x)
def dn (l : List S30) : Nat → Nat → ByteArray → St → Bool × St
  | 0, _, _, st => (true, st)
  | f + 1, k, ahead, st => if st.2 (k : Int) = true ∨ (l.getD k z30).f1 ≠ 2 then (true, st) else slotsF (dn l f) l ahead (l.getD k z30).f5 (into st k)
/-- directories that were not gone into -/
def left (l : List S30) (g : Int → Bool) : Nat := ((List.range l.length).filter (fun k : Nat => !g (k : Int))).length
theorem left_le {l : List S30} {g h : Int → Bool} (hgh : ∀ x, g x = true → h x = true) : left l h ≤ left l g := by
  unfold left
  rw [← List.countP_eq_length_filter, ← List.countP_eq_length_filter]
  refine List.countP_mono_left fun k _ hk => ?_
  cases hq : g (k : Int) with
  | false => rfl
  | true => rw [hgh _ hq] at hk; exact hk
theorem left_into {l : List S30} {st : St} {k : Nat} (hk : k < l.length) (h : st.2 (k : Int) = false) : left l (into st k).2 < left l st.2 := by
  unfold left into
  have key : ∀ (xs : List Nat), xs.Nodup → k ∈ xs → (xs.filter (fun j : Nat => !(if (j : Int) = (k : Int) then true else st.2 (j : Int)))).length < (xs.filter (fun j : Nat => !st.2 (j : Int))).length := by
    intro xs
    induction xs with
    | nil => intro _ h; cases h
    | cons x xs ih =>
      intro hn hm
      have hn' := List.nodup_cons.1 hn
      by_cases e : x = k
      · subst e
        have h1 : (!(if ((x : Nat) : Int) = (x : Int) then true else st.2 (x : Int))) = false := by simp
        have h2 : (!st.2 (x : Int)) = true := by rw [h]; rfl
        rw [List.filter_cons_of_neg (by rw [h1]; simp), List.filter_cons_of_pos (by exact h2), List.length_cons]
        have : (xs.filter (fun j : Nat => !(if (j : Int) = (x : Int) then true else st.2 (j : Int)))).length ≤ (xs.filter (fun j : Nat => !st.2 (j : Int))).length := by
          rw [← List.countP_eq_length_filter, ← List.countP_eq_length_filter]
          refine List.countP_mono_left fun j _ hj => ?_
          by_cases e : (j : Int) = (x : Int)
          · simp [e] at hj
          · simpa [e] using hj
        omega
      · have hm' : k ∈ xs := by rcases List.mem_cons.1 hm with h | h
                                · exact absurd h.symm e
                                · exact h
        have := ih hn'.2 hm'
        have e' : ¬ ((x : Int) = (k : Int)) := by omega
        cases hq : st.2 (x : Int) with
        | true =>
          rw [List.filter_cons_of_neg (by simp [e', hq]), List.filter_cons_of_neg (by simp [hq])]; exact this
        | false =>
          rw [List.filter_cons_of_pos (by simp [e', hq]), List.filter_cons_of_pos (by simp [hq]), List.length_cons, List.length_cons]; omega
  exact key _ List.nodup_range (List.mem_range.2 hk)
theorem slotsF_mono {l : List S30} {rec : Nat → ByteArray → St → Bool × St} (hr : ∀ k a st x, st.2 x = true → (rec k a st).2.2 x = true) (ahead : ByteArray) : ∀ (es : List S32) (st : St) (x : Int), st.2 x = true → (slotsF rec l ahead es st).2.2 x = true
  | [], st, x, h => h
  | e :: es, st, x, h => by
    unfold slotsF
    split
    · exact slotsF_mono hr ahead es st x h
    · split
      · exact h
      · split
        · exact slotsF_mono hr ahead es _ x h
        · split
          · exact slotsF_mono hr ahead es _ x (hr _ _ _ _ h)
          · exact hr _ _ _ _ h
theorem dn_mono (l : List S30) : ∀ (f k : Nat) (a : ByteArray) (st : St) (x : Int), st.2 x = true → (dn l f k a st).2.2 x = true
  | 0, _, _, _, _, h => h
  | f + 1, k, a, st, x, h => by
    unfold dn
    split
    · exact h
    · refine slotsF_mono (fun k a st x h => dn_mono l f k a st x h) a _ _ x ?_
      unfold into
      dsimp only
      split
      · rfl
      · exact h
theorem drop_cons {α : Type} {es : List α} {j : Nat} (h : j < es.length) : es.drop j = es[j] :: es.drop (j + 1) := List.drop_eq_getElem_cons h
theorem slotsF_skip {rec : Nat → ByteArray → St → Bool × St} {l : List S30} {a : ByteArray} {es : List S32} {st : St} {j : Nat} (h : j < es.length) (hs : es[j].f0 = 0 ∨ 500 < (nextS a es[j].f1).size) : slotsF rec l a (es.drop j) st = slotsF rec l a (es.drop (j + 1)) st := by
  rw [drop_cons h]; conv => lhs; unfold slotsF
  rw [if_pos hs]
theorem slotsF_full {rec : Nat → ByteArray → St → Bool × St} {l : List S30} {a : ByteArray} {es : List S32} {st : St} {j : Nat} (h : j < es.length) (hs : ¬ (es[j].f0 = 0 ∨ 500 < (nextS a es[j].f1).size)) (hf : st.1.length = 10000) : slotsF rec l a (es.drop j) st = (false, st) := by
  rw [drop_cons h]; conv => lhs; unfold slotsF
  rw [if_neg hs, if_pos hf]
theorem slotsF_none {rec : Nat → ByteArray → St → Bool × St} {l : List S30} {a : ByteArray} {es : List S32} {st : St} {j : Nat} (h : j < es.length) (hs : ¬ (es[j].f0 = 0 ∨ 500 < (nextS a es[j].f1).size)) (hf : st.1.length ≠ 10000) (hn : atF l es[j].f0 = none) :
    slotsF rec l a (es.drop j) st = slotsF rec l a (es.drop (j + 1)) (st.1 ++ [nextS a es[j].f1], st.2) := by
  rw [drop_cons h]; conv => lhs; unfold slotsF
  rw [if_neg hs, if_neg hf, hn]
theorem slotsF_some {rec : Nat → ByteArray → St → Bool × St} {l : List S30} {a : ByteArray} {es : List S32} {st : St} {j : Nat} (h : j < es.length) (hs : ¬ (es[j].f0 = 0 ∨ 500 < (nextS a es[j].f1).size)) (hf : st.1.length ≠ 10000) (i : Nat) (hn : atF l es[j].f0 = some (i : Int)) :
    slotsF rec l a (es.drop j) st = if (rec i (nextS a es[j].f1) (st.1 ++ [nextS a es[j].f1], st.2)).1 then slotsF rec l a (es.drop (j + 1)) (rec i (nextS a es[j].f1) (st.1 ++ [nextS a es[j].f1], st.2)).2 else (false, (rec i (nextS a es[j].f1) (st.1 ++ [nextS a es[j].f1], st.2)).2) := by
  rw [drop_cons h]; conv => lhs; unfold slotsF
  rw [if_neg hs, if_neg hf, hn]; rfl
/-- all paths -/
def pathsF (l : List S30) : List ByteArray := match atF l 1 with
  | none => []
  | some k => (dn l (l.length + 1) k.toNat ⟨#[]⟩ ([], fun _ => false)).2.1
theorem left_all (l : List S30) : left l (fun _ => false) = l.length := by unfold left; rw [List.filter_eq_self.2 (by simp)]; simp
end Go.Proofs.Ytnmlmbbacicojaa
namespace Go.Proofs.Ytnmlmbbacicojaa
set_option linter.unusedVariables false
set_option linter.unusedSimpArgs false
open Go.RowKit Go.Maps Go.Proofs.YtnmlmbbacicojaaW.PrintWords Go.Proofs.YtnmlmbbacicojaaW.PrintLast Go.Proofs.YtnmlmbbacicojaaW.PrintMore Go.Proofs.Ytnmlmbbacicojaa.PWalkSame

/-- the consumer: a box with a row of the paths so far -/
def ConsP (n : Nat) (w : World) (out : List ByteArray) (W : World) : Prop := (∃ v, Boxed W n 44 v ∧ W.ownsRow (n + 2) 9 1 v out.length (out.map Value.string)) ∧ Below n w W
/-- a block that neither the consumer nor the loop's record is -/
def kindOk : Obj → Prop
  | .map _ _ => True
  | .cells _ t _ => t ≠ 9
  | _ => False
def KeepP (n : Nat) (W0 W : World) : Prop := W0.heap.size ≤ W.heap.size ∧ ∀ b o, W0.heap[b]? = some o → b ≠ n → kindOk o → W.heap[b]? = some o
theorem KeepP.refl (n : Nat) (W : World) : KeepP n W W := ⟨Nat.le_refl _, fun _ _ h _ _ => h⟩
theorem KeepP.trans {n : Nat} {A B C : World} (h : KeepP n A B) (k : KeepP n B C) : KeepP n A C := ⟨Nat.le_trans h.1 k.1, fun b o h1 h2 h3 => k.2 b o (h.2 b o h1 h2 h3) h2 h3⟩
theorem ConsP.drewN {n : Nat} {w W : World} {out : List ByteArray} (h : ConsP n w out W) (q : Nat) : ConsP n w out (W.drewN q) := by
  obtain ⟨⟨v, h1, h2⟩, h3⟩ := h
  exact ⟨⟨v, h1, h2⟩, ⟨h3.os, h3.tape, h3.output, h3.size, h3.block⟩⟩
theorem ConsP.alloc {n : Nat} {w W : World} {out : List ByteArray} (h : ConsP n w out W) (o : Obj) : ConsP n w out (W.alloc o) := by
  obtain ⟨⟨v, h1, h2⟩, h3⟩ := h
  exact ⟨⟨v, h1.alloc _, h2.alloc _⟩, h3.alloc (by have := h1.lt; omega) _⟩
/-- another block than the consumer's has turned -/
theorem ConsP.turned {n : Nat} {w W W' : World} {out : List ByteArray} {b : Nat} (h : ConsP n w out W) (hg : W.grownBy W' (some b)) (hb : ∀ c t, W.heap[b]? ≠ some (.cells c t (0, 0))) (hn : n ≤ b) : ConsP n w out W' := by
  obtain ⟨⟨v, h1, h2⟩, h3⟩ := h
  refine ⟨⟨v, h1.kept hg (fun e => ?_), h2.kept hg ?_⟩, h3.grown hg (by have := h1.lt; omega) (fun k e => by cases e; exact hn)⟩
  · cases e
    exact hb _ _ (show W.heap[n]? = _ from h1)
  · by_cases e : v.ownBlock = none
    · exact .inl e
    · refine .inr fun e2 => ?_
      obtain ⟨cells, hc⟩ := own_typed h2 b e2
      exact hb _ _ hc
theorem ConsP.putObj {n : Nat} {w W : World} {out : List ByteArray} {l : Nat} {r : Loop} (o' : Obj) (h : ConsP n w out W) (hl : W.heap[l]? = some (.loop r)) (hn : n ≤ l) : ConsP n w out (W.putObj l o') := by
  obtain ⟨⟨v, h1, h2⟩, h3⟩ := h
  exact ⟨⟨v, boxed_putLoop _ h1 hl rfl, ownsRow_putObj h2 _ hl rfl⟩, below_putObj _ h3 hn (Array.getElem?_eq_some_iff.1 hl).1⟩
theorem KeepP.putObj {n : Nat} {W0 W : World} {l : Nat} {r : Loop} (o' : Obj) (h : KeepP n W0 W) (hl : W.heap[l]? = some (.loop r)) : KeepP n W0 (W.putObj l o') := by
  refine ⟨by have := h.1; simp [World.putObj]; exact this, fun b o h1 h2 h3 => ?_⟩
  have := h.2 b o h1 h2 h3
  refine (World.putObj_heap_other (fun e => ?_)).trans this
  subst e
  rw [hl] at this
  injection this with this
  subst this
  exact h3
/-- the iterator: the walker and its maps -/
def ItP (l : List S30) (A : Option Addr) (N c n bw ba bi : Nat) (g : Int → Bool) (W : World) : Prop :=
  W.heap[bw]? = some (.cells #[.slice A N c, .map (some ba), .map (some bi)] 84 (0, 0)) ∧ (∃ m, OwnII Try.prog 3 3 W ba m (atF l)) ∧ (∃ m, m + left l g ≤ l.length ∧ OwnIB Try.prog 3 4 W bi m g) ∧ (n < bw ∧ n < ba ∧ n < bi ∧ ba ≠ bi)
section
variable {l : List S30} {A : Option Addr} {N c n bw ba bi : Nat} {g : Int → Bool} {W W' : World}
theorem ItP.keep (h : ItP l A N c n bw ba bi g W) (hk : KeepP n W W') : ItP l A N c n bw ba bi g W' := by
  obtain ⟨h1, ⟨m, h2⟩, ⟨m', h3, h4⟩, h5⟩ := h
  obtain ⟨es, ck, e1⟩ := h2.obj
  obtain ⟨es', ck', e2⟩ := h4.obj
  exact ⟨hk.2 _ _ h1 (by omega) (by simp [kindOk]), ⟨m, h2.same ((hk.2 _ _ e1 (by omega) trivial).trans e1.symm)⟩, ⟨m', h3, h4.same ((hk.2 _ _ e2 (by omega) trivial).trans e2.symm)⟩, h5⟩
theorem ItP.drewN (h : ItP l A N c n bw ba bi g W) (q : Nat) : ItP l A N c n bw ba bi g (W.drewN q) := h
theorem ItP.alloc (h : ItP l A N c n bw ba bi g W) (o : Obj) : ItP l A N c n bw ba bi g (W.alloc o) :=
  h.keep ⟨by simp, fun b o' h1 _ _ => (Below.heap_alloc _ _ _ (Array.getElem?_eq_some_iff.1 h1).1).trans h1⟩
theorem ItP.cells (h : ItP l A N c n bw ba bi g W) : W.cell? ⟨bw, 0, none⟩ = some (.slice A N c) ∧ W.cell? ⟨bw, 1, none⟩ = some (.map (some ba)) ∧ W.cell? ⟨bw, 2, none⟩ = some (.map (some bi)) := by
  obtain ⟨h1, _⟩ := h
  exact ⟨blk_cell h1 0, blk_cell h1 1, blk_cell h1 2⟩
end
theorem wfk {k : Nat} (h : k ≤ 140737488355328) : (Lit.int .i64 (k : Int)).wf = true := WalkArith.wf_i64 ⟨by omega, by omega⟩
end Go.Proofs.Ytnmlmbbacicojaa
