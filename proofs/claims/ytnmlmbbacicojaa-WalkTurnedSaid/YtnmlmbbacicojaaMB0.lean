/-
  General words of this session over any program: a slice that reads as a list of cells; an append from such a slice onto a row of the call's own. No condition on a program.
  Maps of the call's own from int to int and from int to bool, as functions. General words; conditions on the types alone.
  Opening of an argument that reads: what 'trod' met, as a kind of the printed words. General words: whole numbers, strings, slices.
  Opening of nodes that came in.
  Contracts of walk.Same and of what it calls: it answers whether two lists of nodes are one, part by part. Conditions: none.
  Contracts of walk.same and walk.Same: are two nodes, are two lists of nodes one? Printed by b_gen.py. Condition: lists shorter than 2^62.
  The law's Big, over nodes that came in: it answers; and where it answers no, all is small.
  The contract of renum.Index: the place of the first node of each inode. Conditions: the nodes are as they came in.
  What walk.Paths answers, as a plain function: no program in sight.
  A law of this session for 'for x := range f { .. }' over a function: the iterator's body and the loop's body are walked over ONE invariant of the caller's. No condition on a program.
  What lies in memory while walk.Paths goes down: the consumer's row, the iterator's walker and maps.
  The walk of (*walker).down, inside a range over a function. Condition: what the yield function does, by HY.
-/
import Derived.WalkKit
import Derived.Maps.AppendAt
import Derived.Laws.OwnMore
import Derived.Laws.AppendOwnNone
import Derived.OpenShut
import Derived.Deep.DeepMust
import Derived.Maps.OwnSet
import Derived.Maps.OwnOps
import Derived.Maps.Keyed
import Derived.Test.YtnmlmbbacicojaaWWords
import Derived.SizedLaws
import Derived.SliceStrings
import Derived.ProofKit
import Derived.DataElems
import Derived.Test.YtnmlmbbacicojaaPWalkSamex0
import Derived.Test.YtnmlmbbacicojaaPWalkSamex4
import Derived.Deep.QuietTactic
import Derived.BigQuiet
import Derived.WalkSmall
import Derived.Test.YtnmlmbbacicojaaPWalkSamex3
import Derived.RangeFuncNested
import Derived.RangeFuncBound
import Derived.RangeFuncCalls
import Derived.RangeFuncLeaves
import Derived.RangeFuncBox
import Derived.Shelf.Abstract
import Derived.Shelf.RegionOpen
import Derived.OwnWalkIn
import Derived.TacticsInMore
import Derived.LoopNIn
import Derived.LoopIn
import Derived.Maps.OwnIn
import Derived.Sort.QuietIn
namespace Go.Proofs.Ytnmlmbbacicojaa
open Go.RowKit

theorem hide {p : Prop} (h : p) : Hid p := h
theorem results_tmp4 {fn : Func} {t u v x : Tmp} (h : fn.results = #[.tmp t, .tmp u, .tmp v, .tmp x]) (tmps : Array Value) (P : Program) (w : World) :
    (results fn tmps).run P w = .ok (.tuple #[tmps.getD t undef, tmps.getD u undef, tmps.getD v undef, tmps.getD x undef]) w := by simp [results, h]

def I64 (n : Int) : Prop := -9223372036854775808 ≤ n ∧ n ≤ 9223372036854775807
theorem i64_of_wf {n : Int} (h : (Lit.int .i64 n).wf = true) : I64 n := bounds_i64 h
theorem wf64 {n : Int} (h : I64 n) : (Lit.int .i64 n).wf = true := WalkArith.wf_i64 ⟨h.1, h.2⟩

/-- the slice's address A leads to the cells xs, below block B -/
def Cells (B : Nat) (w : World) (A : Option Addr) (xs : List Value) : Prop :=
  xs ≠ [] → ∃ b off, A = some ⟨b, off, none⟩ ∧ b < B ∧ ∀ i u, xs[i]? = some u → w.cell? ⟨b, off + i, none⟩ = some u
/-- a slice of ints below block B that reads as zs -/
def Ints (B : Nat) (w : World) (A : Option Addr) (zs : List Int) : Prop :=
  zs ≠ [] → ∃ b off, A = some ⟨b, off, none⟩ ∧ b < B ∧ ∀ i, i < zs.length → w.cell? ⟨b, off + i, none⟩ = some (.int .i64 (zs.getD i 0))
theorem Ints.cells {B : Nat} {w : World} {A : Option Addr} {zs : List Int} (h : Ints B w A zs) : Cells B w A (zs.map (Value.int .i64)) := fun hne => by
  obtain ⟨b, off, rfl, hlt, hc⟩ := h (by intro e; simp [e] at hne)
  refine ⟨b, off, rfl, hlt, fun i u hu => ?_⟩
  rw [List.getElem?_map, Option.map_eq_some_iff] at hu
  obtain ⟨n, hn, rfl⟩ := hu
  obtain ⟨hi, rfl⟩ := List.getElem?_eq_some_iff.1 hn
  rw [hc i hi]; simp [hi]
theorem Ints.below {B B' : Nat} {w w' : World} {A : Option Addr} {zs : List Int} (h : Ints B w A zs) (hb : Below B' w w') (hB : B ≤ B') : Ints B w' A zs := fun hne => by
  obtain ⟨b, off, rfl, hlt, hc⟩ := h hne
  exact ⟨b, off, rfl, hlt, fun i hi => (hb.cell (p := ⟨b, off + i, none⟩) (show b < B' by omega)).trans (hc i hi)⟩
theorem Ints.more {B B' : Nat} {w : World} {A : Option Addr} {zs : List Int} (h : Ints B w A zs) (hB : B ≤ B') : Ints B' w A zs := fun hne => by
  obtain ⟨b, off, rfl, hlt, hc⟩ := h hne
  exact ⟨b, off, rfl, by omega, hc⟩
/-- what the row's opening gives -/
theorem Ints.of_open {B : Nat} {w : World} {A : Option Addr} {zs : List Int} (h : zs ≠ [] → ∃ x, A = some x ∧ x.block < B ∧ ∀ j, j < zs.length → w.cell? (x.add j) = some (.int .i64 (zs.getD j 0))) : Ints B w A zs := fun hne => by
  obtain ⟨x, rfl, hb, hc⟩ := h hne
  have hl : 0 < zs.length := List.length_pos_iff.2 hne
  obtain ⟨b, off, spot⟩ := x
  have h0 := hc 0 hl
  have hspot : spot = none := by simpa [Addr.add] using World.cell?_spot h0
  subst hspot
  refine ⟨b, off, rfl, hb, fun i hi => ?_⟩
  have := hc i hi
  simp only [Addr.add] at this
  split at this
  · rename_i e; rw [e] at this ⊢; simpa using this
  · simpa using this
theorem Ints.of_own {B base : Nat} {w : World} {e : TypeId} {A : Option Addr} {n c : Nat} {zs : List Int} (h : w.ownsRow base e 1 (.slice A n c) n (zs.map (Value.int .i64))) (hB : w.heap.size ≤ B) : Ints B w A zs := fun hne => by
  have hl : 0 < zs.length := List.length_pos_iff.2 hne
  have hlen : zs.length = n := by have := h.1; simpa using this
  rcases h.2 with ⟨hv, h0⟩ | ⟨g, cap, cur, hv, _, hg, _⟩
  · omega
  · injection hv with hA _ hcap
    subst hA
    subst hcap
    have hlt : g < w.heap.size := (Array.getElem?_eq_some_iff.1 hg).1
    refine ⟨g, 0, rfl, by omega, fun i hi => ?_⟩
    rw [Nat.zero_add, h.cellAt i (by omega)]
    simp [hi]

section
variable {P : Program} (w : World)
theorem run_append_nil_src (base : Nat) (t ty e : TypeId) (i : TypeInfo) (size : Nat) (ht : P.underlying t = some (.slice e)) (hi : P.info? e = some i)
    (v : Value) (n : Nat) (xs : List Value) (hown : w.ownsRow base e size v n xs) (c : Nat) : (Builtin.append_ #[t, t] ty #[v, .slice none 0 c]).run P w = .ok v w := by
  rcases hown.2 with ⟨rfl, rfl⟩ | ⟨g, cap, cur, rfl, _, _, hnc, _⟩
  · simp [Builtin.append_, run_underlying ht, sizeOf, typeInfo, hi, Builtin.lenOf, Builtin.firstCells]
  · simp [Builtin.append_, run_underlying ht, sizeOf, typeInfo, hi, Builtin.lenOf, Builtin.firstCells, hnc, storeCells]
theorem cells_add {B : Nat} {b off : Nat} {xs : List Value} (h : ∀ i u, xs[i]? = some u → w.cell? ⟨b, off + i, none⟩ = some u) (_ : b < B) :
    ∀ j u, xs[j]? = some u → w.cell? ((⟨b, off, none⟩ : Addr).add j) = some u := fun j u hu => by
  have := h j u hu
  unfold Addr.add
  split
  · rename_i e; subst e; simpa using this
  · exact this
/-- append(v, src...) whatever src is -/
theorem run_append_src (base : Nat) (t ty e : TypeId) (i : TypeInfo) (z : Value) (size bytes : Nat) (ht : P.underlying t = some (.slice e)) (hi : P.info? e = some i) (hz : i.zero = some z)
    (hsize : i.size = size) (hby : i.bytes = bytes) (hzs : z.cells.size = size) (hsz : 0 < size)
    (v : Value) (n : Nat) (xs : List Value) (hown : w.ownsRow base e size v n xs)
    (B : Nat) (A : Option Addr) (m c : Nat) (news : List Value) (hm : news.length = m * size) (hr : Cells B w A news) (h1 : ∀ u ∈ news, u.oneCell' = true)
    (h63 : n + m ≤ maxLen) (hbytes : (n + m) * bytes ≤ 140737488355328) (hbase : base ≤ w.heap.size) :
    ∃ v' w', (Builtin.append_ #[t, t] ty #[v, .slice A m c]).run P w = .ok v' w' ∧ w'.ownsRow base e size v' (n + m) (xs ++ news) ∧ w.grownBy w' v.ownBlock ∧
      (v'.ownBlock = v.ownBlock ∨ v'.ownBlock = some w.heap.size) := by
  by_cases hne : news = []
  · subst hne
    have hm0 : m = 0 := by
      have : m * size = 0 := by simpa using hm.symm
      rcases Nat.mul_eq_zero.1 this with h | h <;> omega
    subst hm0
    rcases A with _ | ad
    · exact ⟨v, w, run_append_nil_src w base t ty e i size ht hi v n xs hown c, by simpa using hown, World.grownBy.refl w _, .inl rfl⟩
    · obtain ⟨v', w', hrun, h2, h3, _, h5⟩ := run_append_own_at (P := P) w base t ty e i z size bytes ht hi hz hsize hby hzs hsz v n xs hown ad 0 c [] (by simp) (by simp) (by simp) h63 hbytes hbase
      exact ⟨v', w', hrun, h2, h3, h5⟩
  · obtain ⟨b, off, rfl, hb, hc⟩ := hr hne
    obtain ⟨v', w', hrun, h2, h3, _, h5⟩ := run_append_own_at (P := P) w base t ty e i z size bytes ht hi hz hsize hby hzs hsz v n xs hown _ m c news hm (cells_add w hc hb) h1 h63 hbytes hbase
    exact ⟨v', w', hrun, h2, h3, h5⟩
theorem wpList_append_src {ops : Array Oper} {rest : List Oper} {o : Oper} {a : Act} {Q : Exit → Act → World → Prop} (hgd : o.guard = none) (s x : Operand) (t : TypeId)
    (ho : o.op = .call { callee := .builtin .append, args := #[s, x], argTypes := #[t, t] })
    (base : Nat) (e : TypeId) (i : TypeInfo) (z : Value) (size bytes : Nat) (ht : P.underlying t = some (.slice e)) (hi : P.info? e = some i) (hz : i.zero = some z)
    (hsize : i.size = size) (hby : i.bytes = bytes) (hzs : z.cells.size = size) (hsz : 0 < size)
    (v : Value) (n : Nat) (xs : List Value) (hs : a.eval s = v) (hown : w.ownsRow base e size v n xs)
    (B : Nat) (A : Option Addr) (m c : Nat) (news : List Value) (hx : a.eval x = .slice A m c) (hm : news.length = m * size) (hr : Cells B w A news) (h1 : ∀ u ∈ news, u.oneCell' = true)
    (h63 : n + m ≤ maxLen) (hbytes : (n + m) * bytes ≤ 140737488355328) (hbase : base ≤ w.heap.size)
    (h : ∀ v' w', w'.ownsRow base e size v' (n + m) (xs ++ news) → w.grownBy w' v.ownBlock → (v'.ownBlock = v.ownBlock ∨ v'.ownBlock = some w.heap.size) → wpList P ops Q rest (a.put o.dst v') w') : wpList P ops Q (o :: rest) a w := by
  refine wpList_plain hgd fun _ hK => ?_
  obtain ⟨v', w', hrun, h2, h3, h4⟩ := run_append_src (P := P) w base t o.type e i z size bytes ht hi hz hsize hby hzs hsz v n xs hown B A m c news hm hr h1 h63 hbytes hbase
  unfold Oper.wp execOp
  simp only [ho, resolve, invoke, builtin, Sem.run_bind, Sem.run_pure, Result.andThen_ok, List.map_toArray, List.map_cons, List.map_nil, hs, hx, hrun]
  exact hK _ _ (h v' w' h2 h3 h4)
end
/-- what an append leaves of the call's own row and below it -/
theorem below_append {n₀ : Nat} {w W w' : World} {v : Value} {e : TypeId} {size n : Nat} {xs : List Value} (hb : Below n₀ w W) (hown : W.ownsRow n₀ e size v n xs) (hg : W.grownBy w' v.ownBlock) (hn : n₀ ≤ W.heap.size) : Below n₀ w w' :=
  hb.grown hg hn (fun k hk => (hown.lt k hk).1)
theorem own_slice {base : Nat} {w : World} {e : TypeId} {size n : Nat} {v : Value} {xs : List Value} (h : w.ownsRow base e size v n xs) : ∃ A c, v = .slice A n c := by
  rcases h.2 with ⟨rfl, rfl⟩ | ⟨g, cap, cur, rfl, _⟩
  · exact ⟨_, _, rfl⟩
  · exact ⟨_, _, rfl⟩
end Go.Proofs.Ytnmlmbbacicojaa
namespace Go.Proofs.Ytnmlmbbacicojaa
set_option linter.unusedVariables false
set_option linter.unusedSimpArgs false
open Go.RowKit Go.Maps

theorem plainElem_bool_inv {P : Program} {e : TypeId} (he : P.underlying e = some .bool) {v : Value} {z : DataW Unit × List MemPlace} (h : plainElem P e v = some z) : ∃ a, v = .bool a ∧ z = (.lit (.bool a), []) := by
  unfold plainElem at h
  rw [he] at h
  cases v <;> simp at h
  subst h
  exact ⟨_, rfl, rfl⟩
abbrev kI (k : Int) : Lit := .int .i64 k
theorem kI_key (k : Int) : WideAt.IsKeyLit (kI k) := trivial
theorem kI_ne {a b : Int} (h : a ≠ b) : kI a ≠ kI b := fun e => h (by injection e)

/-- what a map from int to int holds -/
def MapII (D : DataW Unit) (f : Int → Option Int) : Prop := IsMap D ∧ ∀ k, has D (kI k) = (f k).isSome ∧ ∀ z, D.atKey (kI k) z = match f k with | some c => .lit (.int .i64 c) | none => z
theorem MapII.none_ : MapII (.map []) (fun _ => none) := ⟨⟨_, rfl⟩, fun k => ⟨rfl, fun z => rfl⟩⟩
theorem MapII.put {D : DataW Unit} {f : Int → Option Int} (h : MapII D f) (k c : Int) : MapII (D.put (kI k) (.lit (.int .i64 c))) (fun x => if x = k then some c else f x) := by
  obtain ⟨h1, h2⟩ := h
  refine ⟨h1.put _ _, fun x => ?_⟩
  by_cases e : x = k
  · subst e
    dsimp only
    rw [if_pos rfl]
    exact ⟨has_put_same h1 (kI_key _) _, fun z => atKey_put_same h1 (kI_key _) _ _⟩
  · dsimp only
    rw [if_neg e]
    refine ⟨(has_put_other (kI_ne e) _).trans (h2 x).1, fun z => (atKey_put_other (kI_ne e) _ _).trans ((h2 x).2 z)⟩
/-- what a map from int to bool holds -/
def MapIB (D : DataW Unit) (g : Int → Bool) : Prop := IsMap D ∧ ∀ k, D.atKey (kI k) (.lit (.bool false)) = .lit (.bool (g k))
theorem MapIB.none_ : MapIB (.map []) (fun _ => false) := ⟨⟨_, rfl⟩, fun k => rfl⟩
theorem MapIB.put {D : DataW Unit} {g : Int → Bool} (h : MapIB D g) (k : Int) (c : Bool) : MapIB (D.put (kI k) (.lit (.bool c))) (fun x => if x = k then c else g x) := by
  obtain ⟨h1, h2⟩ := h
  refine ⟨h1.put _ _, fun x => ?_⟩
  by_cases e : x = k
  · subst e
    dsimp only
    rw [if_pos rfl]
    exact atKey_put_same h1 (kI_key _) _ _
  · dsimp only
    rw [if_neg e]
    exact (atKey_put_other (kI_ne e) _ _).trans (h2 x)
def OwnII (P : Program) (kt et : TypeId) (w : World) (b n : Nat) (f : Int → Option Int) : Prop := ∃ D : DataW Unit, w.ownsMap P kt (plainElem P et) b n D ∧ MapII D f
def OwnIB (P : Program) (kt et : TypeId) (w : World) (b n : Nat) (g : Int → Bool) : Prop := ∃ D : DataW Unit, w.ownsMap P kt (plainElem P et) b n D ∧ MapIB D g
section
variable {P : Program} {kt et t : TypeId} {w w' : World} {b n : Nat} {f : Int → Option Int} {g : Int → Bool}
theorem OwnII.kept {row : Option Nat} (h : OwnII P kt et w b n f) (hg : w.grownBy w' row) (hne : some b ≠ row) : OwnII P kt et w' b n f := by
  obtain ⟨D, h1, h2⟩ := h
  exact ⟨D, h1.kept hg hne, h2⟩
theorem OwnIB.kept {row : Option Nat} (h : OwnIB P kt et w b n g) (hg : w.grownBy w' row) (hne : some b ≠ row) : OwnIB P kt et w' b n g := by
  obtain ⟨D, h1, h2⟩ := h
  exact ⟨D, h1.kept hg hne, h2⟩
theorem OwnII.same (h : OwnII P kt et w b n f) (hb : w'.heap[b]? = w.heap[b]?) : OwnII P kt et w' b n f := by
  obtain ⟨D, ⟨es, clock, h1, h2⟩, h3⟩ := h
  exact ⟨D, ⟨es, clock, hb.trans h1, h2⟩, h3⟩
theorem OwnIB.same (h : OwnIB P kt et w b n g) (hb : w'.heap[b]? = w.heap[b]?) : OwnIB P kt et w' b n g := by
  obtain ⟨D, ⟨es, clock, h1, h2⟩, h3⟩ := h
  exact ⟨D, ⟨es, clock, hb.trans h1, h2⟩, h3⟩
theorem OwnII.lt (h : OwnII P kt et w b n f) : b < w.heap.size := by obtain ⟨D, h1, _⟩ := h; exact h1.lt
theorem OwnIB.lt (h : OwnIB P kt et w b n g) : b < w.heap.size := by obtain ⟨D, h1, _⟩ := h; exact h1.lt
theorem OwnII.mono (h : OwnII P kt et w b n f) {n' : Nat} (hn : n ≤ n') : OwnII P kt et w b n' f := by obtain ⟨D, h1, h2⟩ := h; exact ⟨D, h1.mono hn, h2⟩
theorem OwnIB.mono (h : OwnIB P kt et w b n g) {n' : Nat} (hn : n ≤ n') : OwnIB P kt et w b n' g := by obtain ⟨D, h1, h2⟩ := h; exact ⟨D, h1.mono hn, h2⟩
/-- a map's block is no cells -/
theorem OwnII.obj (h : OwnII P kt et w b n f) : ∃ es clock, w.heap[b]? = some (.map es clock) := by obtain ⟨D, ⟨es, clock, h1, _⟩, _⟩ := h; exact ⟨es, clock, h1⟩
theorem OwnIB.obj (h : OwnIB P kt et w b n g) : ∃ es clock, w.heap[b]? = some (.map es clock) := by obtain ⟨D, ⟨es, clock, h1, _⟩, _⟩ := h; exact ⟨es, clock, h1⟩
theorem OwnII.look (h : OwnII P kt et w b n f) (hk : P.underlying kt = some (.int .i64)) (he : P.underlying et = some (.int .i64)) (ht : P.underlying t = some (.map kt et)) (hz : (zeroValue et).run P w = .ok (.int .i64 0) w) (k : Int) (hw : (Lit.int .i64 k).wf = true) :
    (Instr.lookup t (.map (some b)) (.int .i64 k) true).run P w = .ok (.tuple #[.int .i64 ((f k).getD 0), .bool (f k).isSome]) w := by
  obtain ⟨D, h1, h2, h3⟩ := h
  obtain ⟨v, ps, hrun, hv⟩ := h1.look_ok (int_keyed hk) ht hz (plainElem_int he (by decide)) (keyOf_int_mk hk hw)
  obtain ⟨e1, e2⟩ := h3 k
  rw [hrun]
  obtain ⟨c, rfl, hc, _⟩ := plainElem_int_inv he hv
  have e3 : D.atKey (kI k) (.lit (.int .i64 0)) = .lit (.int .i64 c) := by have := congrArg Prod.fst hc; exact this
  rw [e2] at e3
  have e4 : c = (f k).getD 0 := by
    cases hf : f k with
    | none => rw [hf] at e3; simp at e3; simp [e3]
    | some x => rw [hf] at e3; simp at e3; simp [e3]
  rw [e4, ← e1]
theorem OwnII.look0 (h : OwnII P kt et w b n f) (hk : P.underlying kt = some (.int .i64)) (he : P.underlying et = some (.int .i64)) (ht : P.underlying t = some (.map kt et)) (hz : (zeroValue et).run P w = .ok (.int .i64 0) w) (k : Int) (hw : (Lit.int .i64 k).wf = true) :
    (Instr.lookup t (.map (some b)) (.int .i64 k) false).run P w = .ok (.int .i64 ((f k).getD 0)) w := by
  obtain ⟨D, h1, h2, h3⟩ := h
  obtain ⟨c, hrun, hat, _⟩ := h1.lookup_int (int_keyed hk) ht he hz (keyOf_int_mk hk hw)
  rw [hrun]
  rw [show (Lit.int .i64 k) = kI k from rfl, (h3 k).2] at hat
  cases hf : f k with
  | none => rw [hf] at hat; injection hat with hat; injection hat with _ hat; rw [← hat]; rfl
  | some x => rw [hf] at hat; injection hat with hat; injection hat with _ hat; rw [← hat]; rfl
theorem OwnIB.look (h : OwnIB P kt et w b n g) (hk : P.underlying kt = some (.int .i64)) (he : P.underlying et = some .bool) (ht : P.underlying t = some (.map kt et)) (hz : (zeroValue et).run P w = .ok (.bool false) w) (k : Int) (hw : (Lit.int .i64 k).wf = true) :
    (Instr.lookup t (.map (some b)) (.int .i64 k) false).run P w = .ok (.bool (g k)) w := by
  obtain ⟨D, h1, h2, h3⟩ := h
  obtain ⟨v, ps, hrun, hv⟩ := h1.lookup (int_keyed hk) ht hz (plainElem_bool he false) (keyOf_int_mk hk hw)
  rw [hrun]
  rw [show (Lit.int .i64 k) = kI k from rfl, h3 k] at hv
  obtain ⟨c, rfl, hc⟩ := plainElem_bool_inv he hv
  have h5 : (DataW.lit (Lit.bool (g k)) : DataW Unit) = .lit (.bool c) := congrArg Prod.fst hc
  injection h5 with h5
  injection h5 with h5
  rw [h5]
end
end Go.Proofs.Ytnmlmbbacicojaa
namespace Go.Proofs.Ytnmlmbbacicojaa
set_option linter.unusedVariables false
set_option linter.unusedSimpArgs false
open Go.RowKit Go.Proofs.YtnmlmbbacicojaaW.PrintWords

/-- what reads as type t, and weighs no more than memory holds, is of kind d, and S -/
def Opens {α : Type} (P : Program) (t : TypeId) (d : Kd α) (S : α → Prop) : Prop :=
  ∀ {H : Type} {enc : TypeId × Value → H} {w : World} {base : Nat} {spare : Nat → Bool} {held : Bool} {fuel : Nat} {cs : List Value} {x : DataW H × List MemPlace},
    DataW.trod enc P w base spare held fuel t cs = some x → (x.1.weights P t).all (· ≤ reachBytes) = true → ∃ v, d.K w v cs ∧ S v
theorem opens_int {P : Program} {t : TypeId} {k : IntKind} (ht : P.underlying t = some (.int k)) : Opens P t (Kd.int k) (fun n => (Lit.int k n).wf = true) := by
  intro H enc w base spare held fuel cs x h _
  obtain ⟨n, rfl, _, hw⟩ := DataW.trod_int ht h
  exact ⟨n, rfl, hw⟩
theorem opens_string {P : Program} {t : TypeId} (ht : P.underlying t = some .string) : Opens P t Kd.string (fun s => s.size ≤ reachBytes) := by
  intro H enc w base spare held fuel cs x h hw
  obtain ⟨s, rfl, rfl, _⟩ := DataW.trod_string ht h
  refine ⟨s, rfl, ?_⟩
  have : s.data.toList.length ≤ reachBytes := by simpa [DataW.weights] using hw
  rwa [Array.length_toList] at this
theorem mem_weightsAll {H : Type} {P : Program} {e : TypeId} : ∀ {ds : List (DataW H)} {d : DataW H}, d ∈ ds → ∀ n ∈ d.weights P e, n ∈ DataW.weightsAll P e ds
  | d0 :: ds, d, hd, n, hn => by
    rw [DataW.weightsAll, List.mem_append]
    rcases List.mem_cons.1 hd with rfl | hd
    · exact .inl hn
    · exact .inr (mem_weightsAll hd n hn)
theorem opens_slice {α : Type} {P : Program} {t e : TypeId} {d : Kd α} {S : α → Prop} (ht : P.underlying t = some (.slice e)) (hd : Opens P e d S) (hsz : P.cellsOf e = d.sz) (e' : Nat) : Opens P t (Kd.slice e' d) (fun xs => (∀ x ∈ xs, S x) ∧ xs.length * P.bytesOf e ≤ reachBytes ∧ xs.length ≤ maxLen) := by
  intro H enc w base spare held fuel cs x h hw
  rcases DataW.trod_slice ht h with ⟨rfl, _⟩ | ⟨a, len, cap, elems, rest, n, _, rfl, rfl, hb, hl, hm, hlen, hel, _, _⟩
  · exact ⟨[], ⟨none, 0, rfl, Nat.le_refl _, rfl, by simp, fun h => absurd h (by simp)⟩, by simp⟩
  · simp only [DataW.weights, ht, List.all_cons, Bool.and_eq_true, List.all_append] at hw
    obtain ⟨hw1, hw2, _⟩ := hw
    have each : ∀ i : Fin len, ∃ v, S v ∧ ∃ c, c.length = d.sz ∧ d.K w v c ∧ ∀ j u, c[j]? = some u → w.cell? (a.add (i.val * d.sz + j)) = some u := by
      intro i
      have hi := hel i.val i.isLt
      have hlt : i.val < elems.length := by omega
      rw [List.getElem?_eq_getElem hlt, hsz, Option.bind_eq_some_iff] at hi
      obtain ⟨c, hc, hy⟩ := hi
      obtain ⟨_, hcl, hcell⟩ := World.cells?_some hc
      obtain ⟨v, hK, hS⟩ := hd hy (by
        rw [List.all_eq_true] at hw2 ⊢
        intro n hn
        exact hw2 n (mem_weightsAll (List.mem_map.2 ⟨_, List.getElem_mem hlt, rfl⟩) n hn))
      refine ⟨v, hS, c, hcl, hK, fun j u hu => ?_⟩
      have hj : j < d.sz := by have := (List.getElem?_eq_some_iff.1 hu).1; omega
      have := hcell j hj
      rw [Addr.add_add, hu] at this
      exact this
    let f : Fin len → α := fun i => Classical.choose (each i)
    have hf := fun i => Classical.choose_spec (each i)
    have hfl : (List.ofFn f).length = len := List.length_ofFn
    refine ⟨List.ofFn f, ⟨some a, cap, by rw [hfl], by rw [hfl]; exact hl, rfl, ?_, fun _ => ⟨a, rfl, fun j p hj => ?_⟩⟩, fun y hy => ?_, ?_, ?_⟩
    · rw [hfl]; have h2 : cap ≤ 9223372036854775807 := hm; omega
    · rw [List.getElem?_ofFn] at hj
      split at hj
      · rename_i hlt
        injection hj with hj
        subst hj
        obtain ⟨_, c, h1, h2, h3⟩ := hf ⟨j, hlt⟩
        exact ⟨c, h1, h2, fun i u hu => h3 i u hu⟩
      · cases hj
    · obtain ⟨i, hi⟩ := List.mem_ofFn.1 hy
      rw [← hi]
      exact (hf i).1
    · rw [hfl]
      have h2 : (elems.length + rest.length) * P.bytesOf e ≤ reachBytes := by simpa using hw1
      have h3 : len * P.bytesOf e ≤ (elems.length + rest.length) * P.bytesOf e := Nat.mul_le_mul_right _ (by omega)
      omega
    · rw [hfl]; omega
theorem field_weights {H : Type} {P : Program} {t u : TypeId} {fs : Array Field} {ds : List (DataW H)} {d : DataW H} (ht : P.underlying t = some (.struct fs)) (hw : ((DataW.agg ds).weights P t).all (· ≤ reachBytes) = true) (j : Nat) (hu : (fs.toList.map (·.type))[j]? = some u) (hd : ds[j]? = some d) : (d.weights P u).all (· ≤ reachBytes) = true := by
  simp only [DataW.weights, ht] at hw
  rw [List.all_eq_true] at hw ⊢
  exact fun n hn => hw n (DataW.weights_mem_each hu hd n hn)
/-- one field of a struct that was opened -/
theorem opens_field {H : Type} {α : Type} {P : Program} {t u : TypeId} {d : Kd α} {S : α → Prop} {fs : Array Field} {enc : TypeId × Value → H} {w : World} {base : Nat} {spare : Nat → Bool} {held : Bool} {n : Nat} {cs : List Value} {xs : List (DataW H × List MemPlace)}
    (ht : P.underlying t = some (.struct fs)) (ho : Opens P u d S) (hf : ∀ (i : Nat) (f : Field), fs[i]? = some f → DataW.trod enc P w base spare held n f.type ((cs.drop f.offset).take (P.cellsOf f.type)) = xs[i]?)
    (hw : ((DataW.agg (xs.map (·.1))).weights P t).all (· ≤ reachBytes) = true) (hl : xs.length = fs.size) (j off : Nat) (hj : j < fs.size) (hu : fs[j].type = u) (hoff : fs[j].offset = off) :
    ∃ v, d.K w v ((cs.drop off).take (P.cellsOf u)) ∧ S v := by
  have h1 := hf j fs[j] (Array.getElem?_eq_getElem hj)
  have hlt : j < xs.length := by omega
  rw [List.getElem?_eq_getElem hlt, hu, hoff] at h1
  refine ho h1 (field_weights ht hw j ?_ ?_)
  · rw [List.getElem?_map, Array.getElem?_toList, Array.getElem?_eq_getElem hj]; simp [hu]
  · rw [List.getElem?_map, List.getElem?_eq_getElem hlt]; rfl
end Go.Proofs.Ytnmlmbbacicojaa
namespace Go.Proofs.Ytnmlmbbacicojaa
set_option linter.unusedVariables false
set_option linter.unusedSimpArgs false
open Go.RowKit Go.Proofs.YtnmlmbbacicojaaW.PrintWords Go.Proofs.YtnmlmbbacicojaaW.PrintLast Go.Proofs.YtnmlmbbacicojaaW.PrintMore Go.Proofs.Ytnmlmbbacicojaa.PWalkSame

theorem bytes5 : Try.prog.bytesOf 5 = 1 := by kernel_rfl
theorem bytes35 : Try.prog.bytesOf 35 = 32 := by kernel_rfl
theorem bytes32 : Try.prog.bytesOf 32 = 24 := by kernel_rfl
theorem bytes30 : Try.prog.bytesOf 30 = 80 := by kernel_rfl
theorem cells30 : Try.prog.cellsOf 30 = 6 := by kernel_rfl
theorem cells32 : Try.prog.cellsOf 32 = 2 := by kernel_rfl
theorem cells35 : Try.prog.cellsOf 35 = 2 := by kernel_rfl
theorem cells3 : Try.prog.cellsOf 3 = 1 := by kernel_rfl
theorem cells9 : Try.prog.cellsOf 9 = 1 := by kernel_rfl
theorem cells33 : Try.prog.cellsOf 33 = 1 := by kernel_rfl
theorem cells27 : Try.prog.cellsOf 27 = 1 := by kernel_rfl
theorem cells28 : Try.prog.cellsOf 28 = 1 := by kernel_rfl
theorem cells5 : Try.prog.cellsOf 5 = 1 := by kernel_rfl

def PartOk (x : S35) : Prop := (Lit.int .i64 x.f0).wf = true ∧ (∀ b ∈ x.f1, (Lit.int .u8 b).wf = true) ∧ x.f1.length ≤ reachBytes
def EntOk (x : S32) : Prop := (Lit.int .i64 x.f0).wf = true ∧ x.f1.size ≤ reachBytes
def NodeOk (x : S30) : Prop := (Lit.int .i64 x.f0).wf = true ∧ (Lit.int .i64 x.f1).wf = true ∧ (Lit.int .i64 x.f2).wf = true ∧ (Lit.int .i64 x.f3).wf = true ∧ ((∀ p ∈ x.f4, PartOk p) ∧ x.f4.length * 32 ≤ reachBytes) ∧ ((∀ p ∈ x.f5, EntOk p) ∧ x.f5.length * 24 ≤ reachBytes)
def NodesOk (xs : List S30) : Prop := (∀ x ∈ xs, NodeOk x) ∧ xs.length * 80 ≤ reachBytes

theorem opens_bytes : Opens Try.prog 33 (Kd.slice 5 (Kd.int .u8)) (fun xs => (∀ x ∈ xs, (Lit.int .u8 x).wf = true) ∧ xs.length * Try.prog.bytesOf 5 ≤ reachBytes ∧ xs.length ≤ maxLen) := opens_slice Try.underlying33 (opens_int Try.underlying5) cells5 5
theorem opens_part : Opens Try.prog 35 k35 PartOk := by
  intro H enc w base spare held fuel cs x h hw
  obtain ⟨xs, n, _, rfl, hl, hlen, hf⟩ := DataW.trod_struct Try.underlying35 h
  obtain ⟨v0, k0, s0⟩ := opens_field Try.underlying35 (opens_int Try.underlying3) hf hw hlen 0 0 (by decide) rfl rfl
  obtain ⟨v1, k1, s1⟩ := opens_field Try.underlying35 opens_bytes hf hw hlen 1 1 (by decide) rfl rfl
  rw [cells35] at hl
  rw [cells3] at k0
  rw [cells33] at k1
  match cs, hl with
  | [c0, c1], _ =>
    have e0 : [c0] = [Value.int .i64 v0] := k0
    obtain ⟨A, c, e1, l1, g1⟩ := k1
    have e1' : [c1] = [Value.slice A v1.length c] := e1
    rw [List.singleton_inj] at e0 e1'
    subst e0
    subst e1'
    exact ⟨⟨v0, v1⟩, k35_mk w ⟨v0, v1⟩ l1 g1, s0, s1.1, by have := s1.2.1; rw [bytes5, Nat.mul_one] at this; exact this⟩
theorem opens_ent : Opens Try.prog 32 k32 EntOk := by
  intro H enc w base spare held fuel cs x h hw
  obtain ⟨xs, n, _, rfl, hl, hlen, hf⟩ := DataW.trod_struct Try.underlying32 h
  obtain ⟨v0, k0, s0⟩ := opens_field Try.underlying32 (opens_int Try.underlying3) hf hw hlen 0 0 (by decide) rfl rfl
  obtain ⟨v1, k1, s1⟩ := opens_field Try.underlying32 (opens_string Try.underlying9) hf hw hlen 1 1 (by decide) rfl rfl
  rw [cells32] at hl
  rw [cells3] at k0
  rw [cells9] at k1
  match cs, hl with
  | [c0, c1], _ =>
    have e0 : [c0] = [Value.int .i64 v0] := k0
    have e1 : [c1] = [Value.string v1] := k1
    rw [List.singleton_inj] at e0 e1
    subst e0
    subst e1
    exact ⟨⟨v0, v1⟩, k32_mk w ⟨v0, v1⟩, s0, s1⟩
theorem opens_parts : Opens Try.prog 27 (Kd.slice 35 k35) (fun xs => (∀ x ∈ xs, PartOk x) ∧ xs.length * Try.prog.bytesOf 35 ≤ reachBytes ∧ xs.length ≤ maxLen) := opens_slice Try.underlying27 opens_part cells35 35
theorem opens_ents : Opens Try.prog 28 (Kd.slice 32 k32) (fun xs => (∀ x ∈ xs, EntOk x) ∧ xs.length * Try.prog.bytesOf 32 ≤ reachBytes ∧ xs.length ≤ maxLen) := opens_slice Try.underlying28 opens_ent cells32 32
theorem opens_node : Opens Try.prog 30 k30 NodeOk := by
  intro H enc w base spare held fuel cs x h hw
  obtain ⟨xs, n, _, rfl, hl, hlen, hf⟩ := DataW.trod_struct Try.underlying30 h
  obtain ⟨v0, k0, s0⟩ := opens_field Try.underlying30 (opens_int Try.underlying3) hf hw hlen 0 0 (by decide) rfl rfl
  obtain ⟨v1, k1, s1⟩ := opens_field Try.underlying30 (opens_int Try.underlying3) hf hw hlen 1 1 (by decide) rfl rfl
  obtain ⟨v2, k2, s2⟩ := opens_field Try.underlying30 (opens_int Try.underlying3) hf hw hlen 2 2 (by decide) rfl rfl
  obtain ⟨v3, k3, s3⟩ := opens_field Try.underlying30 (opens_int Try.underlying3) hf hw hlen 3 3 (by decide) rfl rfl
  obtain ⟨v4, k4, s4⟩ := opens_field Try.underlying30 opens_parts hf hw hlen 4 4 (by decide) rfl rfl
  obtain ⟨v5, k5, s5⟩ := opens_field Try.underlying30 opens_ents hf hw hlen 5 5 (by decide) rfl rfl
  rw [cells30] at hl
  rw [cells3] at k0 k1 k2 k3
  rw [cells27] at k4
  rw [cells28] at k5
  match cs, hl with
  | [c0, c1, c2, c3, c4, c5], _ =>
    have e0 : [c0] = [Value.int .i64 v0] := k0
    have e1 : [c1] = [Value.int .i64 v1] := k1
    have e2 : [c2] = [Value.int .i64 v2] := k2
    have e3 : [c3] = [Value.int .i64 v3] := k3
    obtain ⟨A4, q4, e4, l4, g4⟩ := k4
    obtain ⟨A5, q5, e5, l5, g5⟩ := k5
    have e4' : [c4] = [Value.slice A4 v4.length q4] := e4
    have e5' : [c5] = [Value.slice A5 v5.length q5] := e5
    rw [List.singleton_inj] at e0 e1 e2 e3 e4' e5'
    subst e0
    subst e1
    subst e2
    subst e3
    subst e4'
    subst e5'
    rw [bytes35] at s4
    rw [bytes32] at s5
    exact ⟨⟨v0, v1, v2, v3, v4, v5⟩, k30_mk w ⟨v0, v1, v2, v3, v4, v5⟩ l4 g4 l5 g5, s0, s1, s2, s3, ⟨s4.1, s4.2.1⟩, ⟨s5.1, s5.2.1⟩⟩
theorem opens_nodes : Opens Try.prog 22 (Kd.slice 30 k30) NodesOk := by
  intro H enc w base spare held fuel cs x h hw
  obtain ⟨v, hK, hS⟩ := opens_slice Try.underlying22 opens_node cells30 30 h hw
  exact ⟨v, hK, hS.1, by have := hS.2.1; rw [bytes30] at this; exact this⟩
end Go.Proofs.Ytnmlmbbacicojaa
namespace Go.Proofs.Ytnmlmbbacicojaa
set_option linter.unusedVariables false
set_option linter.unusedSimpArgs false
open Go.RowKit Go.Proofs.YtnmlmbbacicojaaW.PrintWords Go.Proofs.YtnmlmbbacicojaaW.PrintLast Go.Proofs.YtnmlmbbacicojaaW.PrintMore Go.Proofs.Ytnmlmbbacicojaa.PWalkSame

theorem bytesEqual_c (A A' : Option Addr) (c c' : Nat) (xs ys : List Int) (w : World) (h1 : (Kd.int .u8).C w A xs.length xs) (h2 : (Kd.int .u8).C w A' ys.length ys) :
    Calls Try.prog 36 #[.slice A xs.length c, .slice A' ys.length c'] w fun e w' => e = .returned (.bool ((strOfNums xs).toList == (strOfNums ys).toList)) ∧ w = w' := by
  have hc1 := Kd.C_string (P := Try.prog) (c := c) Try.underlying33 Try.underlying5 Try.underlying9 h1
  have hc2 := Kd.C_string (P := Try.prog) (c := c') Try.underlying33 Try.underlying5 Try.underlying9 h2
  go_enter Try.func36, Try.ntmps36
  go_wp2
  go_ret
  exact ⟨rfl, rfl⟩
/-- are two parts one? -/
def partEq (x y : S35) : Bool := (x.f0 == y.f0) && ((strOfNums x.f1).toList == (strOfNums y.f1).toList)
theorem partEq_c (x y : S35) (A A' : Option Addr) (c c' : Nat) (w : World) (h1 : (Kd.int .u8).C w A x.f1.length x.f1) (h2 : (Kd.int .u8).C w A' y.f1.length y.f1) :
    Calls Try.prog 35 #[.agg #[.int .i64 x.f0, .slice A x.f1.length c], .agg #[.int .i64 y.f0, .slice A' y.f1.length c']] w fun e w' => e = .returned (.bool (partEq x y)) ∧ Below w.heap.size w w' := by
  by_cases e : x.f0 = y.f0
  · have e1 : (x.f0 == y.f0) = true := by simpa using e
    have e2 : partEq x y = ((strOfNums x.f1).toList == (strOfNums y.f1).toList) := by unfold partEq; rw [e1]; rfl
    rw [e2]
    clear e e2
    have H1 := hide h1
    have H2 := hide h2
    clear h1 h2
    go_enter Try.func35, Try.ntmps35
    go_wp2_with (go_at_call 36; refine (bytesEqual_c _ _ _ _ _ _ _ (Kd.C_below H1.out (((Below.refl _ w).alloc (Nat.le_refl _) _).alloc (by simp) _)) (Kd.C_below H2.out (((Below.refl _ w).alloc (Nat.le_refl _) _).alloc (by simp) _))).mono ?_; rintro e w' ⟨rfl, rfl⟩)
    go_ret
    exact ⟨by first | rfl | simp, ((Below.refl _ w).alloc (Nat.le_refl _) _).alloc (by simp) _⟩
  · have e1 : (x.f0 == y.f0) = false := by simpa using e
    have e2 : partEq x y = false := by unfold partEq; rw [e1]; rfl
    rw [e2]
    clear e e2 h1 h2
    go_enter Try.func35, Try.ntmps35
    go_wp2
    go_ret
    exact ⟨by first | rfl | simp, ((Below.refl _ w).alloc (Nat.le_refl _) _).alloc (by simp) _⟩
/-- are two lists one, element by element? -/
def eqL {α : Type} (f : α → α → Bool) (xs ys : List α) : Bool := (xs.length == ys.length) && (xs.zip ys).all fun p => f p.1 p.2

theorem eqL_len {α : Type} {f : α → α → Bool} {xs ys : List α} (h : (xs.length == ys.length) = false) : eqL f xs ys = false := by unfold eqL; rw [h]; rfl
theorem eqL_bad {α : Type} {f : α → α → Bool} {xs ys : List α} (k : Nat) (hk : k < xs.length) (hk' : k < ys.length) (h : f (xs[k]) (ys[k]) = false) : eqL f xs ys = false := by
  unfold eqL
  rw [Bool.and_eq_false_iff]
  refine .inr ?_
  rw [List.all_eq_false]
  refine ⟨(xs[k], ys[k]), ?_, by simp [h]⟩
  have : (xs.zip ys)[k]'(by rw [List.length_zip]; omega) = (xs[k], ys[k]) := List.getElem_zip
  rw [← this]; exact List.getElem_mem _
theorem eqL_good {α : Type} {f : α → α → Bool} {xs ys : List α} (hl : (xs.length == ys.length) = true) (h : ∀ k (hk : k < xs.length) (hk' : k < ys.length), f (xs[k]) (ys[k]) = true) : eqL f xs ys = true := by
  unfold eqL
  rw [hl, Bool.true_and, List.all_eq_true]
  intro p hp
  obtain ⟨k, hk, rfl⟩ := List.getElem_of_mem hp
  rw [List.getElem_zip]
  rw [List.length_zip] at hk
  exact h k (by omega) (by omega)

set_option maxHeartbeats 1000000 in
set_option maxRecDepth 100000 in
theorem partsEq_c (A A' : Option Addr) (c c' : Nat) (xs ys : List S35) (w : World) (h1 : Kd.C k35 w A xs.length xs) (hc : xs.length ≤ c) (h2 : Kd.C k35 w A' ys.length ys) (hc' : ys.length ≤ c') (hl : xs.length ≤ 9223372036854775807) :
    Calls Try.prog 34 #[.slice A xs.length c, .slice A' ys.length c', .func (.func 35) #[] #[]] w fun e w' => e = .returned (.bool (eqL partEq xs ys)) ∧ Below w.heap.size w w' := by
  have H1 := hide h1
  have H2 := hide h2
  clear h1 h2
  by_cases e : xs.length = ys.length
  · have e1 : ((xs.length : Int) == (ys.length : Int)) = true := by rw [e]; simp
    have e2 : ((xs.length : Int) != (ys.length : Int)) = false := by rw [e]; simp
    have e3 : (xs.length : Int) ≤ (ys.length : Int) := by omega
    have e4 : (ys.length : Int) ≤ (xs.length : Int) := by omega
    have E2 := hide (show (xs.length == ys.length) = true by simpa using e)
    clear e
    go_enter Try.func34, Try.ntmps34
    go_wp2
    go_loopw [17] (fun i wr => ∃ k : Nat, k ≤ xs.length ∧ i = .int .i64 k ∧ Below w.heap.size w wr ∧ ∀ j (hj : j < xs.length) (hj' : j < ys.length), j < k → partEq xs[j] ys[j] = true) (fun i _ => xs.length - (intOf i).toNat)
    case atStart => exact ⟨0, by omega, rfl, Below.refl _ _, fun j _ _ h => absurd h (by omega)⟩
    case round =>
      obtain ⟨k, hk, rfl, hbr, hall⟩ := hrel
      have HA := hide hall
      clear hall
      by_cases hlt : k < xs.length
      · have hlt' : k < ys.length := by omega
        obtain ⟨ad, A1, c1, e5, x0, x1, l1, g1⟩ := at_T35 H1.out (k : Int) (by omega) (by omega)
        obtain ⟨ad', A2, c2, e6, y0, y1, l2, g2⟩ := at_T35 H2.out (k : Int) (by omega) (by omega)
        have ex : rd_T35 xs (k : Int) = xs[k] := by unfold rd_T35; simp [hlt]
        have ey : rd_T35 ys (k : Int) = ys[k] := by unfold rd_T35; simp [hlt']
        rw [ex] at x0 x1 g1
        rw [ey] at y0 y1 g2
        rw [Int.toNat_natCast] at x0 x1 y0 y1
        subst e5
        subst e6
        replace x0 := (hbr.cell (World.block_lt_of_cell? w _ x0)).trans x0
        replace x1 := (hbr.cell (World.block_lt_of_cell? w _ x1)).trans x1
        replace y0 := (hbr.cell (World.block_lt_of_cell? w _ y0)).trans y0
        replace y1 := (hbr.cell (World.block_lt_of_cell? w _ y1)).trans y1
        have G1 := hide g1
        have G2 := hide g2
        generalize hx : xs[k] = x at x0 x1 G1
        generalize hy : ys[k] = y at y0 y1 G2
        clear g1 g2 ex ey l1 l2
        have HX := hide hx
        have HY := hide hy
        clear hx hy
        have bA : Below wr.heap.size wr (wr.alloc (.cells #[.int .i64 x.f0, .slice A1 x.f1.length c1] 35)) := (Below.refl _ wr).alloc (Nat.le_refl _) _
        replace y0 := (bA.cell (World.block_lt_of_cell? wr _ y0)).trans y0
        replace y1 := (bA.cell (World.block_lt_of_cell? wr _ y1)).trans y1
        have HBA := hide (hbr.trans ((bA.alloc (by simp) (.cells #[.int .i64 y.f0, .slice A2 y.f1.length c2] 35)).mono hbr.size))
        clear bA
        cases hq : partEq x y with
        | true =>
          have HC := hide (hq ▸ partEq_c x y A1 A2 c1 c2 _ (Kd.C_below G1.out HBA.out) (Kd.C_below G2.out HBA.out))
          have HQ := hide hq
          clear hq
          go_wp2_with (go_at_call 35; refine HC.out.mono ?_; rintro e w3 ⟨rfl, hb3⟩)
          go_roundw
          case rel => exact ⟨k + 1, by omega, by go_num, HBA.out.trans (hb3.mono HBA.out.size), fun j hj hj' hjk => by
            by_cases e : j = k
            · subst e; rw [HX.out, HY.out]; exact HQ.out
            · exact HA.out j hj hj' (by omega)⟩
          case measure => simp [intOf]; omega
        | false =>
          have HC := hide (hq ▸ partEq_c x y A1 A2 c1 c2 _ (Kd.C_below G1.out HBA.out) (Kd.C_below G2.out HBA.out))
          have HE := hide (eqL_bad (f := partEq) k hlt hlt' (by rw [HX.out, HY.out]; exact hq))
          clear hq
          go_wp2_with (go_at_call 35; refine HC.out.mono ?_; rintro e w3 ⟨rfl, hb3⟩)
          go_ret
          exact ⟨by rw [HE.out]; first | rfl | simp, HBA.out.trans (hb3.mono HBA.out.size)⟩
      · have hkn : xs.length ≤ k := by omega
        have HE := hide (eqL_good (f := partEq) E2.out (fun j hj hj' => HA.out j hj hj' (by omega)))
        go_wp2
        go_ret
        exact ⟨by rw [HE.out]; first | rfl | simp, hbr⟩
  · have e1 : ((xs.length : Int) == (ys.length : Int)) = false := by rw [beq_eq_false_iff_ne]; omega
    have e2 : ((xs.length : Int) != (ys.length : Int)) = true := by rw [bne_iff_ne]; omega
    have HE := hide (eqL_len (f := partEq) (show (xs.length == ys.length) = false by simpa using e))
    clear e
    go_enter Try.func34, Try.ntmps34
    go_wp2
    go_ret
    exact ⟨by rw [HE.out]; first | rfl | simp, Below.refl _ _⟩
end Go.Proofs.Ytnmlmbbacicojaa
namespace Go.Proofs.Ytnmlmbbacicojaa
set_option linter.unusedVariables false
set_option linter.unusedSimpArgs false
open Go.RowKit Go.Proofs.YtnmlmbbacicojaaW.PrintWords Go.Proofs.YtnmlmbbacicojaaW.PrintLast Go.Proofs.YtnmlmbbacicojaaW.PrintMore Go.Proofs.Ytnmlmbbacicojaa.PWalkSame

def entEq (x y : S32) : Bool := (x.f0 == y.f0) && (x.f1.toList == y.f1.toList)
theorem wrap_succ (i : Nat) (h : i ≤ 9223372036854775806) : wrap64 ((i : Int) + 1) = ((i + 1 : Nat) : Int) := by unfold wrap64; omega
theorem ents_ev (a b : List S32) (hab : a.length = b.length) (hl : a.length ≤ 9223372036854775807) (d : Nat) : ∀ i : Nat, i + d = a.length → (∀ j (h : j < a.length) (h' : j < b.length), j < i → entEq a[j] b[j] = true) → Ev (fun k => api_Entry.l0 k a b (a.length : Int) (i : Int)) (eqL entEq a b) := by
  induction d with
  | zero =>
    intro i hi ha
    rw [eqL_good (by simpa using hab) (fun k h h' => ha k h h' (by omega))]
    refine Ev.step (f := fun _ => some true) (fun k => ?_) (Ev.now _)
    simp only [api_Entry.l0]
    rw [if_neg (by omega)]
  | succ d ih =>
    intro i hi ha
    have hlt : i < a.length := by omega
    have hlt' : i < b.length := by omega
    have e1 : rd_T32 a (i : Int) = a[i] := by unfold rd_T32; simp [hlt]
    have e2 : rd_T32 b (i : Int) = b[i] := by unfold rd_T32; simp [hlt']
    have e3 : (!((a[i]).f0 == (b[i]).f0) || !((a[i]).f1.toList == (b[i]).f1.toList)) = !(entEq a[i] b[i]) := by unfold entEq; rw [Bool.not_and]
    cases hq : entEq a[i] b[i] with
    | true =>
      refine Ev.step (f := fun k => api_Entry.l0 k a b (a.length : Int) ((i + 1 : Nat) : Int)) (fun k => ?_) (ih (i + 1) (by omega) fun j h h' hj => by
        by_cases e : j = i
        · subst e; exact hq
        · exact ha j h h' (by omega))
      simp only [api_Entry.l0]
      rw [if_pos (by omega), if_pos (by omega), if_pos (by omega), if_pos (by omega), e1, e2, e3, hq, if_neg (by simp), wrap_succ i (by omega)]
    | false =>
      rw [eqL_bad i hlt hlt' hq]
      refine Ev.step (f := fun _ => some false) (fun k => ?_) (Ev.now _)
      simp only [api_Entry.l0]
      rw [if_pos (by omega), if_pos (by omega), if_pos (by omega), if_pos (by omega), e1, e2, e3, hq, if_pos (by simp)]
theorem entsR (a b : List S32) (hl : a.length ≤ 9223372036854775807) : Ev (fun k => api_Entry.f k a b) (eqL entEq a b) := by
  by_cases e : a.length = b.length
  · refine Ev.congr (f := fun k => api_Entry.l0 k a b (a.length : Int) 0) (fun k => ?_) (ents_ev a b e hl a.length 0 (by omega) (fun j _ _ h => absurd h (by omega)))
    unfold api_Entry.f
    rw [if_pos (by omega)]
  · rw [eqL_len (by simpa using e)]
    refine Ev.congr (f := fun _ => some false) (fun k => ?_) (Ev.now _)
    unfold api_Entry.f
    rw [if_neg (by omega)]
theorem entsEq_c (A A' : Option Addr) (c c' : Nat) (xs ys : List S32) (w : World) (h1 : Kd.C k32 w A xs.length xs) (hc : xs.length ≤ c) (h2 : Kd.C k32 w A' ys.length ys) (hc' : ys.length ≤ c') (hl : xs.length ≤ 9223372036854775807) :
    Calls Try.prog 33 #[.slice A xs.length c, .slice A' ys.length c'] w fun e w' => e = .returned (.bool (eqL entEq xs ys)) ∧ Below w.heap.size w w' := by
  obtain ⟨k, hk⟩ := (entsR xs ys hl).rounds
  exact (api_Entry.calls k A c xs A' c' ys _ w h1 hc h2 hc' hk).mono fun e w' ⟨he, hd⟩ => ⟨he, by obtain ⟨q, rfl⟩ := hd.out; exact below_drewN (Below.refl _ _) q⟩
/-- are two nodes one? -/
def nodeEq (x y : S30) : Bool := (x.f0 == y.f0) && ((x.f1 == y.f1) && ((x.f2 == y.f2) && ((x.f3 == y.f3) && (eqL entEq x.f5 y.f5 && eqL partEq x.f4 y.f4))))
def Mod (x : S30) : Prop := x.f4.length ≤ 9223372036854775807 ∧ x.f5.length ≤ 9223372036854775807
def nodeV (x : S30) (A4 : Option Addr) (c4 : Nat) (A5 : Option Addr) (c5 : Nat) : Value := .agg #[.int .i64 x.f0, .int .i64 x.f1, .int .i64 x.f2, .int .i64 x.f3, .slice A4 x.f4.length c4, .slice A5 x.f5.length c5]

set_option maxHeartbeats 1000000 in
set_option maxRecDepth 100000 in
theorem nodeEq_f0 (x y : S30) (A4 A4' A5 A5' : Option Addr) (c4 c4' c5 c5' : Nat) (w : World) (hm : Mod x) (h4 : k35.C w A4 x.f4.length x.f4) (h4' : k35.C w A4' y.f4.length y.f4) (h5 : k32.C w A5 x.f5.length x.f5) (h5' : k32.C w A5' y.f5.length y.f5) (l4 : x.f4.length ≤ c4) (l4' : y.f4.length ≤ c4') (l5 : x.f5.length ≤ c5) (l5' : y.f5.length ≤ c5') (e0 : x.f0 ≠ y.f0) :
    Calls Try.prog 23 #[.agg #[.int .i64 x.f0, .int .i64 x.f1, .int .i64 x.f2, .int .i64 x.f3, .slice A4 x.f4.length c4, .slice A5 x.f5.length c5], .agg #[.int .i64 y.f0, .int .i64 y.f1, .int .i64 y.f2, .int .i64 y.f3, .slice A4' y.f4.length c4', .slice A5' y.f5.length c5']] w fun e w' => e = .returned (.bool (nodeEq x y)) ∧ Below w.heap.size w w' := by
  have b0 : (x.f0 == y.f0) = false := by simpa using e0
  have d0 : (x.f0 != y.f0) = true := by simpa using e0
  have HE := hide (show nodeEq x y = false by unfold nodeEq; simp [b0])
  clear hm h4 h4' h5 h5' l4 l4' l5 l5' e0
  go_enter Try.func23, Try.ntmps23
  go_wp2
  go_ret
  exact ⟨by rw [HE.out]; first | rfl | simp, ((Below.refl _ w).alloc (Nat.le_refl _) _).alloc (by simp) _⟩
set_option maxHeartbeats 1000000 in
set_option maxRecDepth 100000 in
theorem nodeEq_f1 (x y : S30) (A4 A4' A5 A5' : Option Addr) (c4 c4' c5 c5' : Nat) (w : World) (hm : Mod x) (h4 : k35.C w A4 x.f4.length x.f4) (h4' : k35.C w A4' y.f4.length y.f4) (h5 : k32.C w A5 x.f5.length x.f5) (h5' : k32.C w A5' y.f5.length y.f5) (l4 : x.f4.length ≤ c4) (l4' : y.f4.length ≤ c4') (l5 : x.f5.length ≤ c5) (l5' : y.f5.length ≤ c5') (e0 : x.f0 = y.f0) (e1 : x.f1 ≠ y.f1) :
    Calls Try.prog 23 #[.agg #[.int .i64 x.f0, .int .i64 x.f1, .int .i64 x.f2, .int .i64 x.f3, .slice A4 x.f4.length c4, .slice A5 x.f5.length c5], .agg #[.int .i64 y.f0, .int .i64 y.f1, .int .i64 y.f2, .int .i64 y.f3, .slice A4' y.f4.length c4', .slice A5' y.f5.length c5']] w fun e w' => e = .returned (.bool (nodeEq x y)) ∧ Below w.heap.size w w' := by
  have b0 : (x.f0 == y.f0) = true := by simpa using e0
  have d0 : (x.f0 != y.f0) = false := by simpa using e0
  have b1 : (x.f1 == y.f1) = false := by simpa using e1
  have d1 : (x.f1 != y.f1) = true := by simpa using e1
  have HE := hide (show nodeEq x y = false by unfold nodeEq; simp [b0, b1])
  clear hm h4 h4' h5 h5' l4 l4' l5 l5' e0 e1
  go_enter Try.func23, Try.ntmps23
  go_wp2
  go_ret
  exact ⟨by rw [HE.out]; first | rfl | simp, ((Below.refl _ w).alloc (Nat.le_refl _) _).alloc (by simp) _⟩
set_option maxHeartbeats 1000000 in
set_option maxRecDepth 100000 in
theorem nodeEq_f2 (x y : S30) (A4 A4' A5 A5' : Option Addr) (c4 c4' c5 c5' : Nat) (w : World) (hm : Mod x) (h4 : k35.C w A4 x.f4.length x.f4) (h4' : k35.C w A4' y.f4.length y.f4) (h5 : k32.C w A5 x.f5.length x.f5) (h5' : k32.C w A5' y.f5.length y.f5) (l4 : x.f4.length ≤ c4) (l4' : y.f4.length ≤ c4') (l5 : x.f5.length ≤ c5) (l5' : y.f5.length ≤ c5') (e0 : x.f0 = y.f0) (e1 : x.f1 = y.f1) (e2 : x.f2 ≠ y.f2) :
    Calls Try.prog 23 #[.agg #[.int .i64 x.f0, .int .i64 x.f1, .int .i64 x.f2, .int .i64 x.f3, .slice A4 x.f4.length c4, .slice A5 x.f5.length c5], .agg #[.int .i64 y.f0, .int .i64 y.f1, .int .i64 y.f2, .int .i64 y.f3, .slice A4' y.f4.length c4', .slice A5' y.f5.length c5']] w fun e w' => e = .returned (.bool (nodeEq x y)) ∧ Below w.heap.size w w' := by
  have b0 : (x.f0 == y.f0) = true := by simpa using e0
  have d0 : (x.f0 != y.f0) = false := by simpa using e0
  have b1 : (x.f1 == y.f1) = true := by simpa using e1
  have d1 : (x.f1 != y.f1) = false := by simpa using e1
  have b2 : (x.f2 == y.f2) = false := by simpa using e2
  have d2 : (x.f2 != y.f2) = true := by simpa using e2
  have HE := hide (show nodeEq x y = false by unfold nodeEq; simp [b0, b1, b2])
  clear hm h4 h4' h5 h5' l4 l4' l5 l5' e0 e1 e2
  go_enter Try.func23, Try.ntmps23
  go_wp2
  go_ret
  exact ⟨by rw [HE.out]; first | rfl | simp, ((Below.refl _ w).alloc (Nat.le_refl _) _).alloc (by simp) _⟩
set_option maxHeartbeats 1000000 in
set_option maxRecDepth 100000 in
theorem nodeEq_f3 (x y : S30) (A4 A4' A5 A5' : Option Addr) (c4 c4' c5 c5' : Nat) (w : World) (hm : Mod x) (h4 : k35.C w A4 x.f4.length x.f4) (h4' : k35.C w A4' y.f4.length y.f4) (h5 : k32.C w A5 x.f5.length x.f5) (h5' : k32.C w A5' y.f5.length y.f5) (l4 : x.f4.length ≤ c4) (l4' : y.f4.length ≤ c4') (l5 : x.f5.length ≤ c5) (l5' : y.f5.length ≤ c5') (e0 : x.f0 = y.f0) (e1 : x.f1 = y.f1) (e2 : x.f2 = y.f2) (e3 : x.f3 ≠ y.f3) :
    Calls Try.prog 23 #[.agg #[.int .i64 x.f0, .int .i64 x.f1, .int .i64 x.f2, .int .i64 x.f3, .slice A4 x.f4.length c4, .slice A5 x.f5.length c5], .agg #[.int .i64 y.f0, .int .i64 y.f1, .int .i64 y.f2, .int .i64 y.f3, .slice A4' y.f4.length c4', .slice A5' y.f5.length c5']] w fun e w' => e = .returned (.bool (nodeEq x y)) ∧ Below w.heap.size w w' := by
  have b0 : (x.f0 == y.f0) = true := by simpa using e0
  have d0 : (x.f0 != y.f0) = false := by simpa using e0
  have b1 : (x.f1 == y.f1) = true := by simpa using e1
  have d1 : (x.f1 != y.f1) = false := by simpa using e1
  have b2 : (x.f2 == y.f2) = true := by simpa using e2
  have d2 : (x.f2 != y.f2) = false := by simpa using e2
  have b3 : (x.f3 == y.f3) = false := by simpa using e3
  have d3 : (x.f3 != y.f3) = true := by simpa using e3
  have HE := hide (show nodeEq x y = false by unfold nodeEq; simp [b0, b1, b2, b3])
  clear hm h4 h4' h5 h5' l4 l4' l5 l5' e0 e1 e2 e3
  go_enter Try.func23, Try.ntmps23
  go_wp2
  go_ret
  exact ⟨by rw [HE.out]; first | rfl | simp, ((Below.refl _ w).alloc (Nat.le_refl _) _).alloc (by simp) _⟩
set_option maxHeartbeats 1000000 in
set_option maxRecDepth 100000 in
theorem nodeEq_g (x y : S30) (A4 A4' A5 A5' : Option Addr) (c4 c4' c5 c5' : Nat) (w : World) (hm : Mod x) (h4 : k35.C w A4 x.f4.length x.f4) (h4' : k35.C w A4' y.f4.length y.f4) (h5 : k32.C w A5 x.f5.length x.f5) (h5' : k32.C w A5' y.f5.length y.f5) (l4 : x.f4.length ≤ c4) (l4' : y.f4.length ≤ c4') (l5 : x.f5.length ≤ c5) (l5' : y.f5.length ≤ c5') (e0 : x.f0 = y.f0) (e1 : x.f1 = y.f1) (e2 : x.f2 = y.f2) (e3 : x.f3 = y.f3) (hq : eqL entEq x.f5 y.f5 = false) :
    Calls Try.prog 23 #[.agg #[.int .i64 x.f0, .int .i64 x.f1, .int .i64 x.f2, .int .i64 x.f3, .slice A4 x.f4.length c4, .slice A5 x.f5.length c5], .agg #[.int .i64 y.f0, .int .i64 y.f1, .int .i64 y.f2, .int .i64 y.f3, .slice A4' y.f4.length c4', .slice A5' y.f5.length c5']] w fun e w' => e = .returned (.bool (nodeEq x y)) ∧ Below w.heap.size w w' := by
  have b0 : (x.f0 == y.f0) = true := by simpa using e0
  have d0 : (x.f0 != y.f0) = false := by simpa using e0
  have b1 : (x.f1 == y.f1) = true := by simpa using e1
  have d1 : (x.f1 != y.f1) = false := by simpa using e1
  have b2 : (x.f2 == y.f2) = true := by simpa using e2
  have d2 : (x.f2 != y.f2) = false := by simpa using e2
  have b3 : (x.f3 == y.f3) = true := by simpa using e3
  have d3 : (x.f3 != y.f3) = false := by simpa using e3
  have HE := hide (show nodeEq x y = false by unfold nodeEq; simp [b0, b1, b2, b3, hq])
  have HC := hide (fun W (hb : Below w.heap.size w W) => hq ▸ entsEq_c A5 A5' c5 c5' x.f5 y.f5 W (Kd.C_below h5 hb) l5 (Kd.C_below h5' hb) l5' hm.2)
  have HD := hide (fun W (hb : Below w.heap.size w W) => partsEq_c A4 A4' c4 c4' x.f4 y.f4 W (Kd.C_below h4 hb) l4 (Kd.C_below h4' hb) l4' hm.1)
  clear hm h4 h4' h5 h5' l4 l4' l5 l5' e0 e1 e2 e3 hq
  go_enter Try.func23, Try.ntmps23
  go_wp2_with (go_at_call 33; refine (HC.out _ (((Below.refl _ w).alloc (Nat.le_refl _) _).alloc (by simp) _)).mono ?_; rintro e w3 ⟨rfl, hb3⟩)
  go_ret
  exact ⟨by rw [HE.out]; first | rfl | simp, (((Below.refl _ w).alloc (Nat.le_refl _) _).alloc (by simp) _).trans (hb3.mono (by simp; omega))⟩
set_option maxHeartbeats 1000000 in
set_option maxRecDepth 100000 in
theorem nodeEq_h (x y : S30) (A4 A4' A5 A5' : Option Addr) (c4 c4' c5 c5' : Nat) (w : World) (hm : Mod x) (h4 : k35.C w A4 x.f4.length x.f4) (h4' : k35.C w A4' y.f4.length y.f4) (h5 : k32.C w A5 x.f5.length x.f5) (h5' : k32.C w A5' y.f5.length y.f5) (l4 : x.f4.length ≤ c4) (l4' : y.f4.length ≤ c4') (l5 : x.f5.length ≤ c5) (l5' : y.f5.length ≤ c5') (e0 : x.f0 = y.f0) (e1 : x.f1 = y.f1) (e2 : x.f2 = y.f2) (e3 : x.f3 = y.f3) (hq : eqL entEq x.f5 y.f5 = true) :
    Calls Try.prog 23 #[.agg #[.int .i64 x.f0, .int .i64 x.f1, .int .i64 x.f2, .int .i64 x.f3, .slice A4 x.f4.length c4, .slice A5 x.f5.length c5], .agg #[.int .i64 y.f0, .int .i64 y.f1, .int .i64 y.f2, .int .i64 y.f3, .slice A4' y.f4.length c4', .slice A5' y.f5.length c5']] w fun e w' => e = .returned (.bool (nodeEq x y)) ∧ Below w.heap.size w w' := by
  have b0 : (x.f0 == y.f0) = true := by simpa using e0
  have d0 : (x.f0 != y.f0) = false := by simpa using e0
  have b1 : (x.f1 == y.f1) = true := by simpa using e1
  have d1 : (x.f1 != y.f1) = false := by simpa using e1
  have b2 : (x.f2 == y.f2) = true := by simpa using e2
  have d2 : (x.f2 != y.f2) = false := by simpa using e2
  have b3 : (x.f3 == y.f3) = true := by simpa using e3
  have d3 : (x.f3 != y.f3) = false := by simpa using e3
  have HE := hide (show nodeEq x y = eqL partEq x.f4 y.f4 by unfold nodeEq; simp [b0, b1, b2, b3, hq])
  have HC := hide (fun W (hb : Below w.heap.size w W) => hq ▸ entsEq_c A5 A5' c5 c5' x.f5 y.f5 W (Kd.C_below h5 hb) l5 (Kd.C_below h5' hb) l5' hm.2)
  have HD := hide (fun W (hb : Below w.heap.size w W) => partsEq_c A4 A4' c4 c4' x.f4 y.f4 W (Kd.C_below h4 hb) l4 (Kd.C_below h4' hb) l4' hm.1)
  clear hm h4 h4' h5 h5' l4 l4' l5 l5' e0 e1 e2 e3 hq
  go_enter Try.func23, Try.ntmps23
  go_upto_region 3 with (go_at_call 33; refine (HC.out _ (((Below.refl _ w).alloc (Nat.le_refl _) _).alloc (by simp) _)).mono ?_; rintro e w3 ⟨rfl, hb3⟩)
  have z1 : w3.cell? ⟨w.heap.size, 4, none⟩ = some (.slice A4 x.f4.length c4) := (hb3.cell (by simp; omega)).trans (by first | (go_simp; done) | rfl | simp [World.cell?])
  have z2 : w3.cell? ⟨w.heap.size + 1, 4, none⟩ = some (.slice A4' y.f4.length c4') := (hb3.cell (by simp)).trans (by first | (go_simp; done) | rfl | simp [World.cell?])
  go_wp2_with (go_at_call 34; refine (HD.out _ ((((Below.refl _ w).alloc (Nat.le_refl _) _).alloc (by simp) _).trans (hb3.mono (by simp; omega)))).mono ?_; rintro e w4 ⟨rfl, hb4⟩)
  go_ret
  exact ⟨by rw [HE.out]; first | rfl | simp, ((((Below.refl _ w).alloc (Nat.le_refl _) _).alloc (by simp) _).trans (hb3.mono (by simp; omega))).trans (hb4.mono (by have := hb3.size; simp at this; omega))⟩
theorem nodeEq_c (x y : S30) (A4 A4' A5 A5' : Option Addr) (c4 c4' c5 c5' : Nat) (w : World) (hm : Mod x) (h4 : k35.C w A4 x.f4.length x.f4) (h4' : k35.C w A4' y.f4.length y.f4) (h5 : k32.C w A5 x.f5.length x.f5) (h5' : k32.C w A5' y.f5.length y.f5) (l4 : x.f4.length ≤ c4) (l4' : y.f4.length ≤ c4') (l5 : x.f5.length ≤ c5) (l5' : y.f5.length ≤ c5') :
    Calls Try.prog 23 #[.agg #[.int .i64 x.f0, .int .i64 x.f1, .int .i64 x.f2, .int .i64 x.f3, .slice A4 x.f4.length c4, .slice A5 x.f5.length c5], .agg #[.int .i64 y.f0, .int .i64 y.f1, .int .i64 y.f2, .int .i64 y.f3, .slice A4' y.f4.length c4', .slice A5' y.f5.length c5']] w fun e w' => e = .returned (.bool (nodeEq x y)) ∧ Below w.heap.size w w' := by
  by_cases e0 : x.f0 = y.f0
  · by_cases e1 : x.f1 = y.f1
    · by_cases e2 : x.f2 = y.f2
      · by_cases e3 : x.f3 = y.f3
        · cases hq : eqL entEq x.f5 y.f5 with
          | true => exact nodeEq_h x y A4 A4' A5 A5' c4 c4' c5 c5' w hm h4 h4' h5 h5' l4 l4' l5 l5' e0 e1 e2 e3 hq
          | false => exact nodeEq_g x y A4 A4' A5 A5' c4 c4' c5 c5' w hm h4 h4' h5 h5' l4 l4' l5 l5' e0 e1 e2 e3 hq
        · exact nodeEq_f3 x y A4 A4' A5 A5' c4 c4' c5 c5' w hm h4 h4' h5 h5' l4 l4' l5 l5' e0 e1 e2 e3
      · exact nodeEq_f2 x y A4 A4' A5 A5' c4 c4' c5 c5' w hm h4 h4' h5 h5' l4 l4' l5 l5' e0 e1 e2
    · exact nodeEq_f1 x y A4 A4' A5 A5' c4 c4' c5 c5' w hm h4 h4' h5 h5' l4 l4' l5 l5' e0 e1
  · exact nodeEq_f0 x y A4 A4' A5 A5' c4 c4' c5 c5' w hm h4 h4' h5 h5' l4 l4' l5 l5' e0
set_option maxHeartbeats 1000000 in
set_option maxRecDepth 100000 in
theorem nodesEq_c (A A' : Option Addr) (c c' : Nat) (xs ys : List S30) (w : World) (h1 : Kd.C k30 w A xs.length xs) (hc : xs.length ≤ c) (h2 : Kd.C k30 w A' ys.length ys) (hc' : ys.length ≤ c') (hl : xs.length ≤ 9223372036854775807) (hm : ∀ x ∈ xs, Mod x) :
    Calls Try.prog 22 #[.slice A xs.length c, .slice A' ys.length c', .func (.func 23) #[] #[]] w fun e w' => e = .returned (.bool (eqL nodeEq xs ys)) ∧ Below w.heap.size w w' := by
  have H1 := hide h1
  have H2 := hide h2
  clear h1 h2
  by_cases e : xs.length = ys.length
  · have e1 : ((xs.length : Int) == (ys.length : Int)) = true := by rw [e]; simp
    have e2 : ((xs.length : Int) != (ys.length : Int)) = false := by rw [e]; simp
    have e3 : (xs.length : Int) ≤ (ys.length : Int) := by omega
    have e4 : (ys.length : Int) ≤ (xs.length : Int) := by omega
    have E2 := hide (show (xs.length == ys.length) = true by simpa using e)
    clear e
    go_enter Try.func22, Try.ntmps22
    go_wp2
    go_loopw [17] (fun i wr => ∃ k : Nat, k ≤ xs.length ∧ i = .int .i64 k ∧ Below w.heap.size w wr ∧ ∀ j (hj : j < xs.length) (hj' : j < ys.length), j < k → nodeEq xs[j] ys[j] = true) (fun i _ => xs.length - (intOf i).toNat)
    case atStart => exact ⟨0, by omega, rfl, Below.refl _ _, fun j _ _ h => absurd h (by omega)⟩
    case round =>
      obtain ⟨k, hk, rfl, hbr, hall⟩ := hrel
      have HA := hide hall
      clear hall
      by_cases hlt : k < xs.length
      · have hlt' : k < ys.length := by omega
        obtain ⟨ad, A4, c4, A5, c5, e5, x0, x1, x2, x3, x4, x5, l4, g4, l5, g5⟩ := at_T30 H1.out (k : Int) (by omega) (by omega)
        obtain ⟨ad', A4', c4', A5', c5', e6, y0, y1, y2, y3, y4, y5, l4', g4', l5', g5'⟩ := at_T30 H2.out (k : Int) (by omega) (by omega)
        have ex : rd_T30 xs (k : Int) = xs[k] := by unfold rd_T30; simp [hlt]
        have ey : rd_T30 ys (k : Int) = ys[k] := by unfold rd_T30; simp [hlt']
        rw [ex] at x0 x1 x2 x3 x4 x5 l4 g4 l5 g5
        rw [ey] at y0 y1 y2 y3 y4 y5 l4' g4' l5' g5'
        rw [Int.toNat_natCast] at x0 x1 x2 x3 x4 x5 y0 y1 y2 y3 y4 y5
        subst e5
        subst e6
        replace x0 := (hbr.cell (World.block_lt_of_cell? w _ x0)).trans x0
        replace x1 := (hbr.cell (World.block_lt_of_cell? w _ x1)).trans x1
        replace x2 := (hbr.cell (World.block_lt_of_cell? w _ x2)).trans x2
        replace x3 := (hbr.cell (World.block_lt_of_cell? w _ x3)).trans x3
        replace x4 := (hbr.cell (World.block_lt_of_cell? w _ x4)).trans x4
        replace x5 := (hbr.cell (World.block_lt_of_cell? w _ x5)).trans x5
        replace y0 := (hbr.cell (World.block_lt_of_cell? w _ y0)).trans y0
        replace y1 := (hbr.cell (World.block_lt_of_cell? w _ y1)).trans y1
        replace y2 := (hbr.cell (World.block_lt_of_cell? w _ y2)).trans y2
        replace y3 := (hbr.cell (World.block_lt_of_cell? w _ y3)).trans y3
        replace y4 := (hbr.cell (World.block_lt_of_cell? w _ y4)).trans y4
        replace y5 := (hbr.cell (World.block_lt_of_cell? w _ y5)).trans y5
        have hmx := hm xs[k] (List.getElem_mem hlt)
        clear hm
        have G4 := hide g4
        have L4 := hide l4
        have G4' := hide g4'
        have L4' := hide l4'
        have G5 := hide g5
        have L5 := hide l5
        have G5' := hide g5'
        have L5' := hide l5'
        have HM := hide hmx
        clear g4 g4' g5 g5' l4 l4' l5 l5' hmx ex ey
        generalize hx : xs[k] = x at x0 x1 x2 x3 x4 x5 G4 G5 L4 L5 HM
        generalize hy : ys[k] = y at y0 y1 y2 y3 y4 y5 G4' G5' L4' L5'
        have HX := hide hx
        have HY := hide hy
        clear hx hy
        have bA : Below wr.heap.size wr (wr.alloc (.cells #[.int .i64 x.f0, .int .i64 x.f1, .int .i64 x.f2, .int .i64 x.f3, .slice A4 x.f4.length c4, .slice A5 x.f5.length c5] 30)) := (Below.refl _ wr).alloc (Nat.le_refl _) _
        replace y0 := (bA.cell (World.block_lt_of_cell? wr _ y0)).trans y0
        replace y1 := (bA.cell (World.block_lt_of_cell? wr _ y1)).trans y1
        replace y2 := (bA.cell (World.block_lt_of_cell? wr _ y2)).trans y2
        replace y3 := (bA.cell (World.block_lt_of_cell? wr _ y3)).trans y3
        replace y4 := (bA.cell (World.block_lt_of_cell? wr _ y4)).trans y4
        replace y5 := (bA.cell (World.block_lt_of_cell? wr _ y5)).trans y5
        have HBA := hide (hbr.trans ((bA.alloc (by simp) (.cells #[.int .i64 y.f0, .int .i64 y.f1, .int .i64 y.f2, .int .i64 y.f3, .slice A4' y.f4.length c4', .slice A5' y.f5.length c5'] 30)).mono hbr.size))
        clear bA
        cases hq : nodeEq x y with
        | true =>
          have HC := hide (hq ▸ nodeEq_c x y A4 A4' A5 A5' c4 c4' c5 c5' _ HM.out (Kd.C_below G4.out HBA.out) (Kd.C_below G4'.out HBA.out) (Kd.C_below G5.out HBA.out) (Kd.C_below G5'.out HBA.out) L4.out L4'.out L5.out L5'.out)
          have HQ := hide hq
          clear hq
          go_wp2_with (go_at_call 23; refine HC.out.mono ?_; rintro e w3 ⟨rfl, hb3⟩)
          go_roundw
          case rel => exact ⟨k + 1, by omega, by go_num, HBA.out.trans (hb3.mono HBA.out.size), fun j hj hj' hjk => by
            by_cases e : j = k
            · subst e; rw [HX.out, HY.out]; exact HQ.out
            · exact HA.out j hj hj' (by omega)⟩
          case measure => simp [intOf]; omega
        | false =>
          have HC := hide (hq ▸ nodeEq_c x y A4 A4' A5 A5' c4 c4' c5 c5' _ HM.out (Kd.C_below G4.out HBA.out) (Kd.C_below G4'.out HBA.out) (Kd.C_below G5.out HBA.out) (Kd.C_below G5'.out HBA.out) L4.out L4'.out L5.out L5'.out)
          have HE := hide (eqL_bad (f := nodeEq) k hlt hlt' (by rw [HX.out, HY.out]; exact hq))
          clear hq
          go_wp2_with (go_at_call 23; refine HC.out.mono ?_; rintro e w3 ⟨rfl, hb3⟩)
          go_ret
          exact ⟨by rw [HE.out]; first | rfl | simp, HBA.out.trans (hb3.mono HBA.out.size)⟩
      · have hkn : xs.length ≤ k := by omega
        have HE := hide (eqL_good (f := nodeEq) E2.out (fun j hj hj' => HA.out j hj hj' (by omega)))
        go_wp2
        go_ret
        exact ⟨by rw [HE.out]; first | rfl | simp, hbr⟩
  · have e1 : ((xs.length : Int) == (ys.length : Int)) = false := by rw [beq_eq_false_iff_ne]; omega
    have e2 : ((xs.length : Int) != (ys.length : Int)) = true := by rw [bne_iff_ne]; omega
    have HE := hide (eqL_len (f := nodeEq) (show (xs.length == ys.length) = false by simpa using e))
    clear e
    go_enter Try.func22, Try.ntmps22
    go_wp2
    go_ret
    exact ⟨by rw [HE.out]; first | rfl | simp, Below.refl _ _⟩

theorem walkSame_c (A A' : Option Addr) (c c' : Nat) (xs ys : List S30) (w : World) (h1 : Kd.C k30 w A xs.length xs) (hc : xs.length ≤ c) (h2 : Kd.C k30 w A' ys.length ys) (hc' : ys.length ≤ c') (hl : xs.length ≤ 9223372036854775807) (hm : ∀ x ∈ xs, Mod x) :
    Calls Try.prog 11 #[.slice A xs.length c, .slice A' ys.length c'] w fun e w' => e = .returned (.bool (eqL nodeEq xs ys)) ∧ Below w.heap.size w w' := by
  have HC := hide (nodesEq_c A A' c c' xs ys w h1 hc h2 hc' hl hm)
  clear h1 h2 hm
  go_enter Try.func11, Try.ntmps11
  go_wp2_with (go_at_call 22; refine HC.out.mono ?_; rintro e w1 ⟨rfl, hb⟩)
  go_ret
  exact ⟨rfl, hb⟩
end Go.Proofs.Ytnmlmbbacicojaa
namespace Go.Proofs.Ytnmlmbbacicojaa
set_option linter.unusedVariables false
set_option linter.unusedSimpArgs false
open Go.RowKit Go.Proofs.YtnmlmbbacicojaaW.PrintWords Go.Proofs.YtnmlmbbacicojaaW.PrintLast Go.Proofs.YtnmlmbbacicojaaW.PrintMore Go.Proofs.Ytnmlmbbacicojaa.PWalkSame

theorem rd30 {l : List S30} {i : Nat} (h : i < l.length) : rd_T30 l (i : Int) = l[i] := by unfold rd_T30; simp [h]
theorem rd32 {l : List S32} {i : Nat} (h : i < l.length) : rd_T32 l (i : Int) = l[i] := by unfold rd_T32; simp [h]
theorem rd35 {l : List S35} {i : Nat} (h : i < l.length) : rd_T35 l (i : Int) = l[i] := by unfold rd_T35; simp [h]
theorem reach47 : reachBytes ≤ 140737488355328 := Nat.le_of_lt reachBytes_lt

theorem big_l1 (l : List S30) (i n : Nat) (hi : i < l.length) (x : S30) (hx : l[i] = x) (hs : x.f5.length ≤ 140737488355328) (d : Nat) : ∀ j : Nat, j + d = x.f5.length →
    ∃ b : Bool, (b = true → ∀ q (h : q < x.f5.length), j ≤ q → q < 500 → (x.f5[q]).f1.size ≤ 1000) ∧ ∀ r, (b = true → Ev (fun k => lockgatelaw20_Big.l2 k l (n : Int) (i : Int) 0) r) → Ev (fun k => lockgatelaw20_Big.l1 k l (n : Int) (i : Int) (j : Int)) (if b then r else true) := by
  have ex : rd_T30 l (i : Int) = x := by rw [rd30 hi, hx]
  have hi' : (i : Int) < (l.length : Int) := by omega
  induction d with
  | zero =>
    intro j hj
    refine ⟨true, fun _ q h hq _ => absurd h (by omega), fun r hr => ?_⟩
    refine Ev.step (f := fun k => lockgatelaw20_Big.j3 k l (n : Int) (i : Int) (j : Int) false) (fun k => ?_) ?_
    · simp only [lockgatelaw20_Big.l1]
      rw [if_pos (by omega), if_pos hi', ex, if_neg (by omega)]
    · refine Ev.step (f := fun k => lockgatelaw20_Big.l2 k l (n : Int) (i : Int) 0) (fun k => ?_) (hr rfl)
      simp only [lockgatelaw20_Big.j3]
      rw [if_neg (by simp)]
  | succ d ih =>
    intro j hj
    have hlt : j < x.f5.length := by omega
    by_cases h500 : j < 500
    · by_cases hbad : 1000 < (x.f5[j]).f1.size
      · refine ⟨false, (fun h => by cases h), fun r _ => ?_⟩
        refine Ev.step (f := fun k => lockgatelaw20_Big.j3 k l (n : Int) (i : Int) (j : Int) true) (fun k => ?_) ?_
        · simp only [lockgatelaw20_Big.l1]
          rw [if_pos (by omega), if_pos hi', ex, if_pos (by omega), decide_eq_true (by omega)]
        · refine Ev.step (f := fun _ => some true) (fun k => ?_) (Ev.now _)
          simp only [lockgatelaw20_Big.j3]
          rw [if_pos trivial, if_pos (by omega), if_pos hi', if_pos (by omega), ex, if_pos (by omega), rd32 hlt, if_pos (by omega)]
      · obtain ⟨b, hb, hr⟩ := ih (j + 1) (by omega)
        refine ⟨b, fun e q h hq hq' => ?_, fun r hr' => ?_⟩
        · by_cases e2 : q = j
          · subst e2; omega
          · exact hb e q h (by omega) hq'
        · refine Ev.step (f := fun k => lockgatelaw20_Big.j3 k l (n : Int) (i : Int) (j : Int) true) (fun k => ?_) ?_
          · simp only [lockgatelaw20_Big.l1]
            rw [if_pos (by omega), if_pos hi', ex, if_pos (by omega), decide_eq_true (by omega)]
          · refine Ev.step (f := fun k => lockgatelaw20_Big.l1 k l (n : Int) (i : Int) ((j + 1 : Nat) : Int)) (fun k => ?_) (hr r hr')
            simp only [lockgatelaw20_Big.j3]
            rw [if_pos trivial, if_pos (by omega), if_pos hi', if_pos (by omega), ex, if_pos (by omega), rd32 hlt, if_neg (by omega), wrap_succ j (by omega)]
    · refine ⟨true, fun _ q h hq hq' => by omega, fun r hr => ?_⟩
      refine Ev.step (f := fun k => lockgatelaw20_Big.j3 k l (n : Int) (i : Int) (j : Int) false) (fun k => ?_) ?_
      · simp only [lockgatelaw20_Big.l1]
        rw [if_pos (by omega), if_pos hi', ex, if_pos (by omega), decide_eq_false (by omega)]
      · refine Ev.step (f := fun k => lockgatelaw20_Big.l2 k l (n : Int) (i : Int) 0) (fun k => ?_) (hr rfl)
        simp only [lockgatelaw20_Big.j3]
        rw [if_neg (by simp)]
theorem big_l2 (l : List S30) (i n : Nat) (hi : i < l.length) (hl : l.length ≤ 140737488355328) (x : S30) (hx : l[i] = x) (hs : x.f4.length ≤ 140737488355328) (d : Nat) : ∀ j : Nat, j + d = x.f4.length →
    ∃ b : Bool, (b = true → ∀ q (h : q < x.f4.length), j ≤ q → q < 500 → (x.f4[q]).f1.length ≤ 2000) ∧ ∀ r, (b = true → Ev (fun k => lockgatelaw20_Big.l0 k l (n : Int) ((i + 1 : Nat) : Int)) r) → Ev (fun k => lockgatelaw20_Big.l2 k l (n : Int) (i : Int) (j : Int)) (if b then r else true) := by
  have ex : rd_T30 l (i : Int) = x := by rw [rd30 hi, hx]
  have hi' : (i : Int) < (l.length : Int) := by omega
  induction d with
  | zero =>
    intro j hj
    refine ⟨true, fun _ q h hq _ => absurd h (by omega), fun r hr => ?_⟩
    refine Ev.step (f := fun k => lockgatelaw20_Big.j5 k l (n : Int) (i : Int) (j : Int) false) (fun k => ?_) ?_
    · simp only [lockgatelaw20_Big.l2]
      rw [if_pos (by omega), if_pos hi', ex, if_neg (by omega)]
    · refine Ev.step (f := fun k => lockgatelaw20_Big.l0 k l (n : Int) ((i + 1 : Nat) : Int)) (fun k => ?_) (hr rfl)
      simp only [lockgatelaw20_Big.j5]
      rw [if_neg (by simp), wrap_succ i (by omega)]
  | succ d ih =>
    intro j hj
    have hlt : j < x.f4.length := by omega
    by_cases h500 : j < 500
    · by_cases hbad : 2000 < (x.f4[j]).f1.length
      · refine ⟨false, (fun h => by cases h), fun r _ => ?_⟩
        refine Ev.step (f := fun k => lockgatelaw20_Big.j5 k l (n : Int) (i : Int) (j : Int) true) (fun k => ?_) ?_
        · simp only [lockgatelaw20_Big.l2]
          rw [if_pos (by omega), if_pos hi', ex, if_pos (by omega), decide_eq_true (by omega)]
        · refine Ev.step (f := fun _ => some true) (fun k => ?_) (Ev.now _)
          simp only [lockgatelaw20_Big.j5]
          rw [if_pos trivial, if_pos (by omega), if_pos hi', if_pos (by omega), ex, if_pos (by omega), rd35 hlt, if_pos (by omega)]
      · obtain ⟨b, hb, hr⟩ := ih (j + 1) (by omega)
        refine ⟨b, fun e q h hq hq' => ?_, fun r hr' => ?_⟩
        · by_cases e2 : q = j
          · subst e2; omega
          · exact hb e q h (by omega) hq'
        · refine Ev.step (f := fun k => lockgatelaw20_Big.j5 k l (n : Int) (i : Int) (j : Int) true) (fun k => ?_) ?_
          · simp only [lockgatelaw20_Big.l2]
            rw [if_pos (by omega), if_pos hi', ex, if_pos (by omega), decide_eq_true (by omega)]
          · refine Ev.step (f := fun k => lockgatelaw20_Big.l2 k l (n : Int) (i : Int) ((j + 1 : Nat) : Int)) (fun k => ?_) (hr r hr')
            simp only [lockgatelaw20_Big.j5]
            rw [if_pos trivial, if_pos (by omega), if_pos hi', if_pos (by omega), ex, if_pos (by omega), rd35 hlt, if_neg (by omega), wrap_succ j (by omega)]
    · refine ⟨true, fun _ q h hq hq' => by omega, fun r hr => ?_⟩
      refine Ev.step (f := fun k => lockgatelaw20_Big.j5 k l (n : Int) (i : Int) (j : Int) false) (fun k => ?_) ?_
      · simp only [lockgatelaw20_Big.l2]
        rw [if_pos (by omega), if_pos hi', ex, if_pos (by omega), decide_eq_false (by omega)]
      · refine Ev.step (f := fun k => lockgatelaw20_Big.l0 k l (n : Int) ((i + 1 : Nat) : Int)) (fun k => ?_) (hr rfl)
        simp only [lockgatelaw20_Big.j5]
        rw [if_neg (by simp), wrap_succ i (by omega)]
/-- what is small: a node's slots and blocks are at most m together; names and bytes are short -/
def SmallN (m : Nat) (x : S30) : Prop := x.f5.length + x.f4.length ≤ m ∧ (∀ q (h : q < x.f5.length), q < 500 → (x.f5[q]).f1.size ≤ 1000) ∧ ∀ q (h : q < x.f4.length), q < 500 → (x.f4[q]).f1.length ≤ 2000
theorem SmallN.mono {m m' : Nat} {x : S30} (h : SmallN m x) (hm : m ≤ m') : SmallN m' x := ⟨Nat.le_trans h.1 hm, h.2⟩
def Small (l : List S30) : Prop := l.length ≤ 500 ∧ ∀ i (h : i < l.length), SmallN 500 l[i]
theorem big_l0 (l : List S30) (hok : NodesOk l) (d : Nat) : ∀ i n : Nat, i + d = l.length → n ≤ 1125899906842624 → l.length ≤ n → (∀ j (h : j < l.length), j < i → SmallN n l[j]) →
    ∃ r : Bool, Ev (fun k => lockgatelaw20_Big.l0 k l (n : Int) (i : Int)) r ∧ (r = false → Small l) := by
  have hr47 := reach47
  have hll : l.length ≤ 140737488355328 := by have := hok.2; omega
  induction d with
  | zero =>
    intro i n hi hn hln hall
    refine ⟨decide (500 < n), ?_, fun e => ?_⟩
    · refine Ev.step (f := fun k => lockgatelaw20_Big.j1 k l (n : Int) (i : Int) false) (fun k => ?_) ?_
      · simp only [lockgatelaw20_Big.l0]
        rw [if_neg (by omega)]
      · refine Ev.step (f := fun _ => some (decide (500 < n))) (fun k => ?_) (Ev.now _)
        simp only [lockgatelaw20_Big.j1]
        rw [if_neg (by simp)]
        congr 2
        simp; omega
    · have e' : ¬ 500 < n := by simpa using e
      exact ⟨by omega, fun j h => (hall j h (by omega)).mono (by omega)⟩
  | succ d ih =>
    intro i n hi hn hln hall
    have hlt : i < l.length := by omega
    by_cases h500 : n ≤ 500
    · have hx := hok.1 _ (List.getElem_mem hlt)
      generalize hxe : l[i] = x at hx
      have h5 : x.f5.length ≤ 140737488355328 := by have := hx.2.2.2.2.2.2; omega
      have h4 : x.f4.length ≤ 140737488355328 := by have := hx.2.2.2.2.1.2; omega
      have ew1 : wrap64 ((n : Int) + (x.f5.length : Int)) = ((n + x.f5.length : Nat) : Int) := by unfold wrap64; omega
      have ew2 : wrap64 (((n + x.f5.length : Nat) : Int) + (x.f4.length : Int)) = ((n + x.f5.length + x.f4.length : Nat) : Int) := by unfold wrap64; omega
      obtain ⟨b1, hb1, hr1⟩ := big_l1 l i (n + x.f5.length + x.f4.length) hlt x hxe h5 x.f5.length 0 (by omega)
      obtain ⟨b2, hb2, hr2⟩ := big_l2 l i (n + x.f5.length + x.f4.length) hlt hll x hxe h4 x.f4.length 0 (by omega)
      have start : ∀ r, Ev (fun k => lockgatelaw20_Big.l1 k l ((n + x.f5.length + x.f4.length : Nat) : Int) (i : Int) 0) r → Ev (fun k => lockgatelaw20_Big.l0 k l (n : Int) (i : Int)) r := fun r hr => by
        refine Ev.step (f := fun k => lockgatelaw20_Big.j1 k l (n : Int) (i : Int) true) (fun k => ?_) ?_
        · simp only [lockgatelaw20_Big.l0]
          rw [if_pos (by omega), decide_eq_true (by omega)]
        · refine Ev.step (f := fun k => lockgatelaw20_Big.l1 k l ((n + x.f5.length + x.f4.length : Nat) : Int) (i : Int) 0) (fun k => ?_) hr
          simp only [lockgatelaw20_Big.j1]
          rw [if_pos trivial, if_pos (by omega), if_pos (by omega), rd30 hlt, hxe, ew1, ew2]
      cases b1 with
      | false => exact ⟨true, start _ (hr1 true (fun e => by cases e)), fun e => by cases e⟩
      | true =>
        cases b2 with
        | false => exact ⟨true, start _ (hr1 true (fun _ => hr2 true (fun e => by cases e))), fun e => by cases e⟩
        | true =>
          obtain ⟨r, hr, hsm⟩ := ih (i + 1) (n + x.f5.length + x.f4.length) (by omega) (by omega) (by omega) (fun j h hj => by
            by_cases e : j = i
            · subst e
              rw [hxe]
              exact ⟨by omega, fun q h hq => hb1 rfl q h (by omega) hq, fun q h hq => hb2 rfl q h (by omega) hq⟩
            · exact (hall j h (by omega)).mono (by omega))
          exact ⟨r, start _ (hr1 r (fun _ => hr2 r (fun _ => hr))), hsm⟩
    · refine ⟨true, ?_, fun e => by cases e⟩
      refine Ev.step (f := fun k => lockgatelaw20_Big.j1 k l (n : Int) (i : Int) false) (fun k => ?_) ?_
      · simp only [lockgatelaw20_Big.l0]
        rw [if_pos (by omega), decide_eq_false (by omega)]
      · refine Ev.step (f := fun _ => some true) (fun k => ?_) (Ev.now _)
        simp only [lockgatelaw20_Big.j1]
        rw [if_neg (by simp), decide_eq_true (by omega)]
theorem bigR (l : List S30) (hok : NodesOk l) : ∃ r : Bool, Ev (fun k => lockgatelaw20_Big.f k l) r ∧ (r = false → Small l) := by
  have hr47 := reach47
  have hll : l.length ≤ 140737488355328 := by have := hok.2; omega
  obtain ⟨r, h1, h2⟩ := big_l0 l hok l.length 0 l.length (by omega) (by omega) (Nat.le_refl _) (fun j _ h => absurd h (by omega))
  exact ⟨r, h1, h2⟩
/-- what Big answers -/
noncomputable def bigB (l : List S30) (hok : NodesOk l) : Bool := Classical.choose (bigR l hok)
theorem bigB_small {l : List S30} {hok : NodesOk l} (h : bigB l hok = false) : Small l := (Classical.choose_spec (bigR l hok)).2 h
theorem big_c (A : Option Addr) (n c : Nat) (l : List S30) (hok : NodesOk l) (w : World) (hn : l.length = n) (h : Kd.C k30 w A n l) (hc : n ≤ c) :
    Calls Try.prog 10 #[.slice A n c] w fun e w' => e = .returned (.bool (bigB l hok)) ∧ Below w.heap.size w w' := by
  subst hn
  obtain ⟨k, hk⟩ := ((Classical.choose_spec (bigR l hok)).1).rounds
  exact (lockgatelaw20_Big.calls k A c l _ w h hc hk).mono fun e w' ⟨he, hd⟩ => ⟨he, by obtain ⟨q, rfl⟩ := hd.out; exact below_drewN (Below.refl _ _) q⟩
end Go.Proofs.Ytnmlmbbacicojaa
namespace Go.Proofs.Ytnmlmbbacicojaa
set_option linter.unusedVariables false
set_option linter.unusedSimpArgs false
open Go.RowKit Go.Maps Go.Proofs.YtnmlmbbacicojaaW.PrintWords Go.Proofs.YtnmlmbbacicojaaW.PrintLast Go.Proofs.YtnmlmbbacicojaaW.PrintMore Go.Proofs.Ytnmlmbbacicojaa.PWalkSame

/-- the place of the first node of an inode -/
def atF (l : List S30) (x : Int) : Option Int := (l.findIdx? (fun n => n.f0 == x)).map (fun i : Nat => (i : Int))
theorem atF_lt {l : List S30} {x c : Int} (h : atF l x = some c) : ∃ i : Nat, c = (i : Int) ∧ ∃ hi : i < l.length, (l[i]).f0 = x := by
  unfold atF at h
  rw [Option.map_eq_some_iff] at h
  obtain ⟨i, hi, rfl⟩ := h
  obtain ⟨h1, h2, _⟩ := List.findIdx?_eq_some_iff_getElem.1 hi
  exact ⟨i, rfl, h1, by simpa using h2⟩
theorem atF_step {l : List S30} {k : Nat} (hk : k < l.length) (x : Int) : atF (l.take (k + 1)) x = match atF (l.take k) x with | some c => some c | none => if (l[k]).f0 = x then some (k : Int) else none := by
  unfold atF
  rw [List.take_succ_eq_append_getElem hk, List.findIdx?_append]
  cases h : (l.take k).findIdx? (fun n => n.f0 == x) with
  | some i => simp
  | none =>
    simp only [Option.none_or, Option.map_none]
    by_cases e : (l[k]).f0 = x
    · simp [List.findIdx?_cons, e]; omega
    · simp [List.findIdx?_cons, e]
theorem zero3 (w : World) : (zeroValue 3).run Try.prog w = .ok (.int .i64 0) w := by kernel_rfl
theorem zero4 (w : World) : (zeroValue 4).run Try.prog w = .ok (.bool false) w := by kernel_rfl

set_option maxHeartbeats 1000000 in
set_option maxRecDepth 100000 in
theorem index_c (A : Option Addr) (n c : Nat) (l : List S30) (w : World) (hn : l.length = n) (h : Kd.C k30 w A n l) (hc : n ≤ c) (hl : n ≤ 140737488355328) (hi : ∀ x ∈ l, (Lit.int .i64 x.f0).wf = true) :
    Calls Try.prog 27 #[.slice A n c] w fun e w' => ∃ b m, e = .returned (.map (some b)) ∧ w.heap.size ≤ b ∧ OwnII Try.prog 3 3 w' b m (atF l) ∧ m ≤ 140737488355328 ∧ Below w.heap.size w w' := by
  subst hn
  have H := hide h
  have HI := hide hi
  clear h hi
  have hmm := @run_makeMap Try.prog
  go_enter Try.func27, Try.ntmps27
  go_wp2
  go_loopw [11] (fun i wr => ∃ k : Nat, k ≤ l.length ∧ i = .int .i64 k ∧ OwnII Try.prog 3 3 wr w.heap.size k (atF (l.take k)) ∧ Below w.heap.size w wr) (fun i _ => l.length - (intOf i).toNat)
  case atStart => exact ⟨0, by omega, rfl, ⟨_, World.ownsMap_made _ _ _ _, MapII.none_⟩, (Below.refl _ _).alloc (Nat.le_refl _) _⟩
  case round =>
    obtain ⟨k, hk, rfl, hown, hbr⟩ := hrel
    by_cases hlt : k < l.length
    · obtain ⟨ad, A4, c4, A5, c5, e5, x0, x1, x2, x3, x4, x5, l4, g4, l5, g5⟩ := at_T30 H.out (k : Int) (by omega) (by omega)
      rw [rd30 hlt] at x0 x1 x2 x3 x4 x5 l4 g4 l5 g5
      rw [Int.toNat_natCast] at x0 x1 x2 x3 x4 x5
      subst e5
      replace x0 := (hbr.cell (World.block_lt_of_cell? w _ x0)).trans x0
      replace x1 := (hbr.cell (World.block_lt_of_cell? w _ x1)).trans x1
      replace x2 := (hbr.cell (World.block_lt_of_cell? w _ x2)).trans x2
      replace x3 := (hbr.cell (World.block_lt_of_cell? w _ x3)).trans x3
      replace x4 := (hbr.cell (World.block_lt_of_cell? w _ x4)).trans x4
      replace x5 := (hbr.cell (World.block_lt_of_cell? w _ x5)).trans x5
      have hwf := HI.out _ (List.getElem_mem hlt)
      have hst := fun x => atF_step hlt x
      generalize l[k] = y at x0 x1 x2 x3 x4 x5 hwf hst
      clear l4 g4 l5 g5
      have HO1 := hide (hown.kept (World.grownBy_alloc wr (.cells #[.int .i64 y.f0, .int .i64 y.f1, .int .i64 y.f2, .int .i64 y.f3, .slice A4 y.f4.length c4, .slice A5 y.f5.length c5] 30) none) (by simp))
      have hlk := HO1.out.look Try.underlying3 Try.underlying3 Try.underlying56 (zero3 _) y.f0 hwf
      cases hq : atF (l.take k) y.f0 with
      | some cc =>
        rw [hq] at hlk
        simp only [Option.getD_some, Option.isSome_some] at hlk
        have HE := hide (show atF (l.take (k + 1)) = atF (l.take k) by
          funext x
          rw [hst x]
          cases hx : atF (l.take k) x with
          | some c => rfl
          | none =>
            by_cases e : y.f0 = x
            · subst e; rw [hx] at hq; cases hq
            · simp [e])
        clear hq hst
        have HO := hide hown
        clear hown
        go_wp2
        go_roundw
        case rel => exact ⟨k + 1, by omega, by go_num, by rw [HE.out]; exact HO1.out.mono (by omega), hbr.alloc hbr.size _⟩
        case measure => simp [intOf]; omega
      | none =>
        rw [hq] at hlk
        simp only [Option.getD_none, Option.isSome_none] at hlk
        have HE := hide (show atF (l.take (k + 1)) = fun x => if x = y.f0 then some (k : Int) else atF (l.take k) x by
          funext x
          rw [hst x]
          cases hx : atF (l.take k) x with
          | some c =>
            by_cases e : x = y.f0
            · subst e; rw [hx] at hq; cases hq
            · simp [e]
          | none =>
            by_cases e : y.f0 = x
            · simp [e]
            · simp [e, Ne.symm e])
        clear hq hst
        obtain ⟨D, hD1, hD2⟩ := HO1.out
        have HO := hide hown
        clear hown
        go_wp2_with (at_mapUpdate; refine wpList_mapUpdate_own _ rfl _ _ _ 56 rfl 3 3 (int_keyed Try.underlying3) Try.underlying56 _ w.heap.size _ _ rfl hD1 (by unfold maxLen; omega) _ _ _ rfl rfl (keyOf_int_mk Try.underlying3 hwf) _ [] (plainElem_int Try.underlying3 (WalkArith.wf_i64 ⟨by omega, by omega⟩)) ?_; intro w1 hown1 hg1)
        go_roundw
        case rel => exact ⟨k + 1, by omega, by go_num, by rw [HE.out]; exact ⟨_, hown1, hD2.put _ _⟩, (hbr.alloc hbr.size _).grown hg1 (by have := hbr.size; simp; omega) (fun j hj => by cases hj; exact Nat.le_refl _)⟩
        case measure => simp [intOf]; omega
    · have hkn : k = l.length := by omega
      have HE := hide (show atF (l.take k) = atF l by rw [hkn, List.take_length])
      clear hkn
      have HO := hide hown
      clear hown
      go_wp2
      go_ret
      exact ⟨_, k, rfl, Nat.le_refl _, by rw [← HE.out]; exact HO.out, by omega, hbr⟩
end Go.Proofs.Ytnmlmbbacicojaa
namespace Go.Proofs.Ytnmlmbbacicojaa
set_option linter.unusedVariables false
set_option linter.unusedSimpArgs false
open Go.RowKit Go.Maps Go.Proofs.YtnmlmbbacicojaaW.PrintWords Go.Proofs.YtnmlmbbacicojaaW.PrintLast Go.Proofs.YtnmlmbbacicojaaW.PrintMore Go.Proofs.Ytnmlmbbacicojaa.PWalkSame

/-- the paths so far, the directories that were gone into -/
abbrev St := List ByteArray × (Int → Bool)
def nextS (ahead name : ByteArray) : ByteArray := ahead ++ (⟨#[47]⟩ : ByteArray) ++ name
def slotsF (rec : Nat → ByteArray → St → Bool × St) (l : List S30) (ahead : ByteArray) : List S32 → St → Bool × St
  | [], st => (true, st)
  | e :: es, st =>
    if e.f0 = 0 ∨ 500 < (nextS ahead e.f1).size then slotsF rec l ahead es st
    else if st.1.length = 10000 then (false, st)
    else match atF l e.f0 with
      | none => slotsF rec l ahead es (st.1 ++ [nextS ahead e.f1], st.2)
      | some n => if (rec n.toNat (nextS ahead e.f1) (st.1 ++ [nextS ahead e.f1], st.2)).1 then slotsF rec l ahead es (rec n.toNat (nextS ahead e.f1) (st.1 ++ [nextS ahead e.f1], st.2)).2 else (false, (rec n.toNat (nextS ahead e.f1) (st.1 ++ [nextS ahead e.f1], st.2)).2)
def into (st : St) (k : Nat) : St := (st.1, fun x => if x = (k : Int) then true else st.2 x)
def dn (l : List S30) : Nat → Nat → ByteArray → St → Bool × St
  | 0, _, _, st => (true, st)
  | f + 1, k, ahead, st => if st.2 (k : Int) = true ∨ (l.getD k z30).f1 ≠ 2 then (true, st) else slotsF (dn l f) l ahead (l.getD k z30).f5 (into st k)
/-- directories that were not gone into -/
def left (l : List S30) (g : Int → Bool) : Nat := ((List.range l.length).filter (fun k : Nat => !g (k : Int))).length
theorem left_le {l : List S30} {g h : Int → Bool} (hgh : ∀ x, g x = true → h x = true) : left l h ≤ left l g := by
  unfold left
  rw [← List.countP_eq_length_filter, ← List.countP_eq_length_filter]
  refine List.countP_mono_left fun k _ hk => ?_
  cases hq : g (k : Int) with
  | false => rfl
  | true => rw [hgh _ hq] at hk; exact hk
theorem left_into {l : List S30} {st : St} {k : Nat} (hk : k < l.length) (h : st.2 (k : Int) = false) : left l (into st k).2 < left l st.2 := by
  unfold left into
  have key : ∀ (xs : List Nat), xs.Nodup → k ∈ xs → (xs.filter (fun j : Nat => !(if (j : Int) = (k : Int) then true else st.2 (j : Int)))).length < (xs.filter (fun j : Nat => !st.2 (j : Int))).length := by
    intro xs
    induction xs with
    | nil => intro _ h; cases h
    | cons x xs ih =>
      intro hn hm
      have hn' := List.nodup_cons.1 hn
      by_cases e : x = k
      · subst e
        have h1 : (!(if ((x : Nat) : Int) = (x : Int) then true else st.2 (x : Int))) = false := by simp
        have h2 : (!st.2 (x : Int)) = true := by rw [h]; rfl
        rw [List.filter_cons_of_neg (by rw [h1]; simp), List.filter_cons_of_pos (by exact h2), List.length_cons]
        have : (xs.filter (fun j : Nat => !(if (j : Int) = (x : Int) then true else st.2 (j : Int)))).length ≤ (xs.filter (fun j : Nat => !st.2 (j : Int))).length := by
          rw [← List.countP_eq_length_filter, ← List.countP_eq_length_filter]
          refine List.countP_mono_left fun j _ hj => ?_
          by_cases e : (j : Int) = (x : Int)
          · simp [e] at hj
          · simpa [e] using hj
        omega
      · have hm' : k ∈ xs := by rcases List.mem_cons.1 hm with h | h
                                · exact absurd h.symm e
                                · exact h
        have := ih hn'.2 hm'
        have e' : ¬ ((x : Int) = (k : Int)) := by omega
        cases hq : st.2 (x : Int) with
        | true =>
          rw [List.filter_cons_of_neg (by simp [e', hq]), List.filter_cons_of_neg (by simp [hq])]; exact this
        | false =>
          rw [List.filter_cons_of_pos (by simp [e', hq]), List.filter_cons_of_pos (by simp [hq]), List.length_cons, List.length_cons]; omega
  exact key _ List.nodup_range (List.mem_range.2 hk)
theorem slotsF_mono {l : List S30} {rec : Nat → ByteArray → St → Bool × St} (hr : ∀ k a st x, st.2 x = true → (rec k a st).2.2 x = true) (ahead : ByteArray) : ∀ (es : List S32) (st : St) (x : Int), st.2 x = true → (slotsF rec l ahead es st).2.2 x = true
  | [], st, x, h => h
  | e :: es, st, x, h => by
    unfold slotsF
    split
    · exact slotsF_mono hr ahead es st x h
    · split
      · exact h
      · split
        · exact slotsF_mono hr ahead es _ x h
        · split
          · exact slotsF_mono hr ahead es _ x (hr _ _ _ _ h)
          · exact hr _ _ _ _ h
theorem dn_mono (l : List S30) : ∀ (f k : Nat) (a : ByteArray) (st : St) (x : Int), st.2 x = true → (dn l f k a st).2.2 x = true
  | 0, _, _, _, _, h => h
  | f + 1, k, a, st, x, h => by
    unfold dn
    split
    · exact h
    · refine slotsF_mono (fun k a st x h => dn_mono l f k a st x h) a _ _ x ?_
      unfold into
      dsimp only
      split
      · rfl
      · exact h
theorem drop_cons {α : Type} {es : List α} {j : Nat} (h : j < es.length) : es.drop j = es[j] :: es.drop (j + 1) := List.drop_eq_getElem_cons h
theorem slotsF_skip {rec : Nat → ByteArray → St → Bool × St} {l : List S30} {a : ByteArray} {es : List S32} {st : St} {j : Nat} (h : j < es.length) (hs : es[j].f0 = 0 ∨ 500 < (nextS a es[j].f1).size) : slotsF rec l a (es.drop j) st = slotsF rec l a (es.drop (j + 1)) st := by
  rw [drop_cons h]; conv => lhs; unfold slotsF
  rw [if_pos hs]
theorem slotsF_full {rec : Nat → ByteArray → St → Bool × St} {l : List S30} {a : ByteArray} {es : List S32} {st : St} {j : Nat} (h : j < es.length) (hs : ¬ (es[j].f0 = 0 ∨ 500 < (nextS a es[j].f1).size)) (hf : st.1.length = 10000) : slotsF rec l a (es.drop j) st = (false, st) := by
  rw [drop_cons h]; conv => lhs; unfold slotsF
  rw [if_neg hs, if_pos hf]
theorem slotsF_none {rec : Nat → ByteArray → St → Bool × St} {l : List S30} {a : ByteArray} {es : List S32} {st : St} {j : Nat} (h : j < es.length) (hs : ¬ (es[j].f0 = 0 ∨ 500 < (nextS a es[j].f1).size)) (hf : st.1.length ≠ 10000) (hn : atF l es[j].f0 = none) :
    slotsF rec l a (es.drop j) st = slotsF rec l a (es.drop (j + 1)) (st.1 ++ [nextS a es[j].f1], st.2) := by
  rw [drop_cons h]; conv => lhs; unfold slotsF
  rw [if_neg hs, if_neg hf, hn]
theorem slotsF_some {rec : Nat → ByteArray → St → Bool × St} {l : List S30} {a : ByteArray} {es : List S32} {st : St} {j : Nat} (h : j < es.length) (hs : ¬ (es[j].f0 = 0 ∨ 500 < (nextS a es[j].f1).size)) (hf : st.1.length ≠ 10000) (i : Nat) (hn : atF l es[j].f0 = some (i : Int)) :
    slotsF rec l a (es.drop j) st = if (rec i (nextS a es[j].f1) (st.1 ++ [nextS a es[j].f1], st.2)).1 then slotsF rec l a (es.drop (j + 1)) (rec i (nextS a es[j].f1) (st.1 ++ [nextS a es[j].f1], st.2)).2 else (false, (rec i (nextS a es[j].f1) (st.1 ++ [nextS a es[j].f1], st.2)).2) := by
  rw [drop_cons h]; conv => lhs; unfold slotsF
  rw [if_neg hs, if_neg hf, hn]; rfl
/-- all paths -/
def pathsF (l : List S30) : List ByteArray := match atF l 1 with
  | none => []
  | some k => (dn l (l.length + 1) k.toNat ⟨#[]⟩ ([], fun _ => false)).2.1
theorem left_all (l : List S30) : left l (fun _ => false) = l.length := by unfold left; rw [List.filter_eq_self.2 (by simp)]; simp
end Go.Proofs.Ytnmlmbbacicojaa
namespace Go.Proofs.Ytnmlmbbacicojaa
open Go.RowKit
set_option linter.unusedVariables false
set_option linter.unusedSimpArgs false

/-- the loop's record is ready, no deferred call waits -/
def Ready (L : Nat) (rec : LoopState → Option Code → Loop) (W : World) : Prop := W.heap[L + 1]? = some (.loop (rec .ready none)) ∧ W.heap[L]? = some (.deferred (some []))
/-- a round has left by the jump c -/
def Stopped (L : Nat) (rec : LoopState → Option Code → Loop) (c : Code) (W : World) : Prop := W.heap[L + 1]? = some (.loop (rec .done (some c))) ∧ W.heap[L]? = some (.deferred (some []))
/-- the two records lie as they lay -/
def Keeps2 (L : Nat) (W W' : World) : Prop := ∀ k o, (k = L ∨ k = L + 1) → W.heap[k]? = some o → o.isCells = false → W'.heap[k]? = some o
theorem Keeps2.of_others {L : Nat} {W W' : World} (h : KeepsOthers W W') : Keeps2 L W W' := fun k o _ hk ho => h.same k o hk ho
theorem Keeps2.refl (L : Nat) (W : World) : Keeps2 L W W := fun _ _ _ h _ => h
theorem Keeps2.trans {L : Nat} {A B C : World} (h : Keeps2 L A B) (k : Keeps2 L B C) : Keeps2 L A C := fun i o hi ho hc => k i o hi (h i o hi ho hc) hc
theorem Keeps2.alloc (L : Nat) (W : World) (o : Obj) : Keeps2 L W (W.alloc o) := .of_others (KeepsOthers.alloc W o)
theorem Keeps2.setCell (L : Nat) (W : World) (a : Addr) (v : Value) : Keeps2 L W (W.setCell a v) := .of_others (KeepsOthers.setCell W a v)
theorem Keeps2.drewN (L : Nat) (W : World) (n : Nat) : Keeps2 L W (W.drewN n) := fun _ _ _ h _ => h
theorem Keeps2.grown {L : Nat} {W W' : World} {row : Option Nat} (hg : W.grownBy W' row) (h1 : row ≠ some L) (h2 : row ≠ some (L + 1)) : Keeps2 L W W' := fun k o hk ho _ => by
  have hlt : k < W.heap.size := (Array.getElem?_eq_some_iff.1 ho).1
  refine (hg.block k hlt ?_).trans ho
  rcases hk with rfl | rfl
  · exact fun e => h1 e.symm
  · exact fun e => h2 e.symm
theorem Ready.keeps {L : Nat} {rec : LoopState → Option Code → Loop} {W W' : World} (h : Ready L rec W) (hk : Keeps2 L W W') : Ready L rec W' :=
  ⟨hk _ _ (.inr rfl) h.1 rfl, hk _ _ (.inl rfl) h.2 rfl⟩
theorem Stopped.keeps {L : Nat} {rec : LoopState → Option Code → Loop} {c : Code} {W W' : World} (h : Stopped L rec c W) (hk : Keeps2 L W W') : Stopped L rec c W' :=
  ⟨hk _ _ (.inr rfl) h.1 rfl, hk _ _ (.inl rfl) h.2 rfl⟩
theorem Ready.lt {L : Nat} {rec : LoopState → Option Code → Loop} {W : World} (h : Ready L rec W) : L + 1 < W.heap.size := (Array.getElem?_eq_some_iff.1 h.1).1

/-- a fact on cells abides a turn of a block that is no cells -/
theorem cell_putObj {W : World} {l : Nat} {r : Loop} {a : Addr} {v : Value} (o' : Obj) (h : W.cell? a = some v) (hl : W.heap[l]? = some (.loop r)) : (W.putObj l o').cell? a = some v := by
  by_cases e : a.block = l
  · unfold World.cell? at h; rw [e, hl] at h; simp at h
  · exact (World.cell?_of_block (World.putObj_heap_other e)).trans h
theorem frozen_putObj {W : World} {l : Nat} {r : Loop} {a : Addr} {v : Value} (o' : Obj) (h : W.cell? a = some v) (hl : W.heap[l]? = some (.loop r)) : (W.putObj l o').frozen? a = W.frozen? a := by
  by_cases e : a.block = l
  · unfold World.cell? at h; rw [e, hl] at h; simp at h
  · exact World.frozen?_of_block (World.putObj_heap_other e)
theorem below_putObj {n₀ : Nat} {w W : World} {l : Nat} (o' : Obj) (h : Below n₀ w W) (hl : n₀ ≤ l) (hlt : l < W.heap.size) : Below n₀ w (W.putObj l o') :=
  h.grown (grownBy_putObj' W l o') (by omega) (fun k e => by cases e; omega)
theorem boxed_putLoop {W : World} {B l : Nat} {t : TypeId} {v : Value} {o : Obj} (o' : Obj) (h : Boxed W B t v) (hl : W.heap[l]? = some o) (ho : o.isCells = false) : Boxed (W.putObj l o') B t v := by
  refine (World.putObj_heap_other (fun e => ?_)).trans h
  subst e
  have := (show W.heap[B]? = _ from h).symm.trans hl
  injection this with this
  subst this
  cases ho
theorem boxed_other {W : World} {B : Nat} {t : TypeId} {v : Value} {a : Addr} (u : Value) (h : Boxed W B t v) (hne : B ≠ a.block) : Boxed (W.setCell a u) B t v := (Below.heap_setCell W a u B hne).trans h
theorem ownsRow_far {W : World} {base : Nat} {e : TypeId} {size n : Nat} {v : Value} {xs : List Value} (h : W.ownsRow base e size v n xs) {a : Addr} (ha : a.block < base) (u : Value) : (W.setCell a u).ownsRow base e size v n xs := ownsRow_setCell_below h ha u
/-- a call under the wide fence is a plain call -/
theorem wide_calls {P : Program} {n : Nat} {f : FuncId} {args : Array Value} {w : World} {R : Ending → World → Prop} (h : Calls P f args w R) : Fence.wide.fn f ∧ Fence.wide.depth = none ∧ CallsIn Fence.wide n P f args w R := ⟨trivial, rfl, callsIn_wide.2 h⟩
theorem wide_callsR {P : Program} {n l : Nat} {f : FuncId} {args : Array Value} {w : World} {R : Ending → World → Prop} (h : Calls P f args w R) : Fence.wide.fn f ∧ Fence.wide.depth = none ∧ CallsIn (Fence.wide.inRound l) n P f args w R := ⟨trivial, rfl, CallsIn.inRound l (callsIn_wide.2 h)⟩
/-- an invariant abides the turns of the loop's record at block L + 1 -/
def Abide (L : Nat) (I : World → Prop) : Prop := ∀ W (r : Loop) (o' : Obj), I W → W.heap[L + 1]? = some (.loop r) → I (W.putObj (L + 1) o')

/-- how the body of a round may be left -/
def dirPost {σ : Type} (L : Nat) (J : σ → World → Prop) (Jx : σ → Code → World → Prop) (s : σ) (W : World) : Exit → Act → World → Prop
  | .normal, _, W' => Keeps2 L W W' ∧ J s W'
  | .ret, _, W' => Keeps2 L W W' ∧ Jx s .ret W'
  | .exit id, _, W' => Keeps2 L W W' ∧ Jx s (.exit id) W'
  | .goto t, _, W' => Keeps2 L W W' ∧ Jx s (.goto t) W'
  | .panic _, _, _ => False
  | .outgrown, _, _ => False

theorem wpIn_rangeFunc_dir {P : Program} {σ : Type} {g : Operand} {ps : Array Tmp} {assign body : Code} {Q : Exit → Act → World → Prop} {a : Act} {w : World}
    {gf : Nat} {lb : Array Value} (hg : a.eval g = .func (.func gf) #[] lb) (eg : ∀ args w, (callFunc gf args).run P w = .ok (.enter gf args) w)
    (I J : σ → World → Prop) (Jx : σ → Code → World → Prop) (Mid : σ → Act → World → Prop) (Done : World → Prop) (xs : σ → Array Value)
    (hI : ∀ s, Abide w.heap.size (I s)) (hJ : ∀ s, Abide w.heap.size (J s)) (hJx : ∀ s c, Abide w.heap.size (Jx s c)) (hMid : ∀ s a₁, Abide w.heap.size (Mid s a₁)) (hDone : Abide w.heap.size Done)
    (hps : ∀ s, (xs s).size = ps.size)
    (hassign : ∀ l s W, I s W → l = w.heap.size + 1 → assign.wpIn (Fence.wide.inRound l) 0 P (Exit.then (fun a₁ w₁ => Keeps2 w.heap.size W w₁ ∧ Mid s a₁ w₁) (fun _ _ _ => False))
      { tmps := (ps.zip (xs s)).foldl (fun t (p, v) => t.setIfInBounds p v) a.tmps, defers := [] } W)
    (hbody : ∀ l s a₁ W, l = w.heap.size + 1 → Mid s a₁ W → body.wpIn (Fence.wide.inRound l) 0 P (dirPost w.heap.size J Jx s W) a₁ W)
    (hiter : ∀ (rec : LoopState → Option Code → Loop) (W1 : World), W1 = (w.alloc (.deferred (some []))).alloc (.loop (rec .ready none)) → Ready w.heap.size rec W1 →
      (∀ s W, I s W → Ready w.heap.size rec W → YieldAt Fence.wide 0 P (w.heap.size + 1) (xs s) W fun e W' =>
        (e = .returned (.bool true) ∧ J s W' ∧ Ready w.heap.size rec W') ∨ (e = .returned (.bool false) ∧ ∃ c, Jx s c W' ∧ Stopped w.heap.size rec c W')) →
      CallsIn Fence.wide 0 P gf (#[.func (.yield (w.heap.size + 1)) #[] #[]] ++ lb) W1 fun e W' => (∃ v, e = .returned v) ∧
        ((Done W' ∧ Ready w.heap.size rec W') ∨ (∃ s c, Jx s c W' ∧ Stopped w.heap.size rec c W')))
    (hdone : ∀ W, Done W → W.heap[w.heap.size]? = some (.deferred (some [])) → Q .normal { a with defers := { target := .collected w.heap.size, args := #[] } :: a.defers } W)
    (hstop : ∀ s c W, Jx s c W → W.heap[w.heap.size]? = some (.deferred (some [])) → c.wpIn Fence.wide 0 P Q { a with defers := { target := .collected w.heap.size, args := #[] } :: a.defers } W) :
    (Code.rangeFunc g ps assign body).wpIn Fence.wide 0 P Q a w := by
  refine wpIn_rangeFunc ?_
  intro fn hfn
  obtain ⟨rec, hrec⟩ : ∃ rec : LoopState → Option Code → Loop, rec = fun st pe => { state := st, pending := pe, fn, tmps := a.tmps, params := ps, assign, body, defers := w.heap.size } := ⟨_, rfl⟩
  obtain ⟨W1, hW1⟩ : ∃ W1, (w.alloc (.deferred (some []))).alloc (.loop (rec .ready none)) = W1 := ⟨_, rfl⟩
  have hL1 : W1.heap[w.heap.size + 1]? = some (.loop (rec .ready none)) := by
    rw [← hW1]; have := World.alloc_heap_new (w.alloc (.deferred (some []))) (.loop (rec .ready none)); rwa [World.size_alloc] at this
  have hK1 : W1.heap[w.heap.size]? = some (.deferred (some [])) := by
    rw [← hW1]; exact (Below.heap_alloc _ _ _ (by simp)).trans (World.alloc_heap_new w _)
  refine ⟨w.heap.size + 1, [{ target := .collected w.heap.size, args := #[] }], W1, { target := .fn (.func gf) lb, args := #[.func (.yield (w.heap.size + 1)) #[] #[]] }, W1, gf,
    #[.func (.yield (w.heap.size + 1)) #[] #[]] ++ lb, W1, ?_, ?_, ?_, ?_, fun h => by simp [Fence.wide] at h, ?_⟩
  · rw [← hW1, hrec]; exact run_enterLoop_outer _ _ _ _ _
  · simp only [resolve, hg]
    simp [go_sem]
  · intro f' hf'; trivial
  · simp [invoke, go_sem, eg]
  · refine (hiter rec W1 hW1.symm ⟨hL1, hK1⟩ ?_).mono ?_
    · -- one round
      rintro s W hi ⟨hl, hk⟩
      have hlt : w.heap.size + 1 < W.heap.size := (Array.getElem?_eq_some_iff.1 hl).1
      have hy := run_yield (P := P) (args := xs s) hl (by rw [hrec]; exact hps s)
      rw [hrec] at hy
      refine ⟨fn, _, assign, body, hy, roundIn_of_wpIn hfn ?_⟩
      refine wpIn_mono (hassign _ s W hi rfl) ?_
      rintro e a3 W2 hp
      cases e with
      | normal =>
        obtain ⟨hk2, hm2⟩ := hp
        have hl2 := hk2 _ _ (.inr rfl) hl rfl
        have hd2 := hk2 _ _ (.inl rfl) hk rfl
        have hlt2 : w.heap.size + 1 < W2.heap.size := (Array.getElem?_eq_some_iff.1 hl2).1
        refine ⟨_, run_beginRound hl2 (by rw [hrec]), ?_⟩
        have hl3 : (W2.putObj (w.heap.size + 1) (.loop { rec .ready none with state := .busy })).heap[w.heap.size + 1]? = some (.loop { rec .ready none with state := .busy }) := World.putObj_heap_same hlt2
        have hd3 : (W2.putObj (w.heap.size + 1) (.loop { rec .ready none with state := .busy })).heap[w.heap.size]? = some (.deferred (some [])) := (World.putObj_heap_other (by omega)).trans hd2
        refine wpIn_mono (hbody _ s a3 _ rfl (hMid s a3 _ _ _ hm2 hl2)) ?_
        have fin : ∀ (jump : Option Code) (W3 : World), Keeps2 w.heap.size (W2.putObj (w.heap.size + 1) (.loop { rec .ready none with state := .busy })) W3 →
            (Instr.endRound (w.heap.size + 1) jump).run P W3 = .ok (.bool jump.isNone) (W3.putObj (w.heap.size + 1) (.loop (rec (if jump.isNone then .ready else .done) jump))) ∧
            W3.heap[w.heap.size + 1]? = some (.loop { rec .ready none with state := .busy }) ∧
            (W3.putObj (w.heap.size + 1) (.loop (rec (if jump.isNone then .ready else .done) jump))).heap[w.heap.size + 1]? = some (.loop (rec (if jump.isNone then .ready else .done) jump)) ∧
            (W3.putObj (w.heap.size + 1) (.loop (rec (if jump.isNone then .ready else .done) jump))).heap[w.heap.size]? = some (.deferred (some [])) := fun jump W3 hk3 => by
          have hl4 := hk3 _ _ (.inr rfl) hl3 rfl
          have := run_endRound (P := P) jump hl4
          rw [hrec] at this ⊢
          exact ⟨this, by rw [hrec] at hl4; exact hl4, World.putObj_heap_same (Array.getElem?_eq_some_iff.1 hl4).1, (World.putObj_heap_other (by omega)).trans (hk3 _ _ (.inl rfl) hd3 rfl)⟩
        rintro e a4 W3 hp
        cases e with
        | normal =>
          obtain ⟨hk3, hi3⟩ := hp
          obtain ⟨hr, hl5, hl6, hk6⟩ := fin none W3 hk3
          exact ⟨_, _, hr, .inl ⟨rfl, hJ s _ _ _ hi3 hl5, hl6, hk6⟩⟩
        | ret =>
          obtain ⟨hk3, hi3⟩ := hp
          obtain ⟨hr, hl5, hl6, hk6⟩ := fin (some .ret) W3 hk3
          exact ⟨_, _, hr, .inr ⟨rfl, .ret, hJx s _ _ _ _ hi3 hl5, hl6, hk6⟩⟩
        | exit id =>
          obtain ⟨hk3, hi3⟩ := hp
          obtain ⟨hr, hl5, hl6, hk6⟩ := fin (some (.exit id)) W3 hk3
          exact ⟨_, _, hr, .inr ⟨rfl, .exit id, hJx s _ _ _ _ hi3 hl5, hl6, hk6⟩⟩
        | goto t =>
          obtain ⟨hk3, hi3⟩ := hp
          obtain ⟨hr, hl5, hl6, hk6⟩ := fin (some (.goto t)) W3 hk3
          exact ⟨_, _, hr, .inr ⟨rfl, .goto t, hJx s _ _ _ _ hi3 hl5, hl6, hk6⟩⟩
        | panic ch => exact hp.elim
        | outgrown => exact hp.elim
      | ret => exact hp.elim
      | exit id => exact hp.elim
      | goto t => exact hp.elim
      | panic ch => exact hp.elim
      | outgrown => exact hp.elim
    · -- behind the iterator
      rintro e W2 ⟨⟨v, rfl⟩, (⟨hd, hl, hk⟩ | ⟨s, c, hi, hl, hk⟩)⟩
      · exact ⟨none, _, by have := run_endLoop (P := P) hl (by rw [hrec]; simp); rw [hrec] at this; exact this, hdone _ (hDone _ _ _ hd hl) ((World.putObj_heap_other (by omega)).trans hk)⟩
      · exact ⟨some c, _, by have := run_endLoop (P := P) hl (by rw [hrec]; simp); rw [hrec] at this; exact this, hstop s c _ (hJx s c _ _ _ hi hl) ((World.putObj_heap_other (by omega)).trans hk)⟩
/-- an append of the call's own row whose head lies in a box below the rows -/
theorem appended_box {W w1 : World} {n₀ B : Nat} {t e : TypeId} {size : Nat} {v : Value} {k : Nat} {xs : List Value} {tmp : Obj}
    (hv : Boxed W B t v) (hrow : W.ownsRow n₀ e size v k xs) (hB : B < n₀) (hgrow : (W.alloc tmp).grownBy w1 v.ownBlock) :
    (∀ B' t' u, B' < n₀ → Boxed W B' t' u → Boxed w1 B' t' u) ∧ KeepsOthers W w1 := by
  have hne : ∀ j, v.ownBlock = some j → n₀ ≤ j := fun j hj => (hrow.lt j hj).1
  refine ⟨fun B' t' u hB' h => (h.alloc tmp).kept hgrow (fun e' => ?_), ?_⟩
  · have := hne B' e'.symm; omega
  · refine (KeepsOthers.alloc W tmp).trans (KeepsOthers.of_grownBy hgrow fun j o ej hj => ?_)
    rcases (hrow.alloc tmp).2 with ⟨rfl, _⟩ | ⟨g, cap, cur, rfl, _, hgb, _⟩
    · simp [Value.ownBlock] at ej
    · obtain rfl : g = j := by simpa [Value.ownBlock] using ej
      rw [hgb] at hj; cases hj; rfl
theorem stored_box {w1 : World} {n₀ B : Nat} {t e : TypeId} {size : Nat} {v v' : Value} {m : Nat} {ys : List Value}
    (hv : Boxed w1 B t v) (hown' : w1.ownsRow n₀ e size v' m ys) (hB : B < n₀) :
    (∀ B' t' u, B' ≠ B → Boxed w1 B' t' u → Boxed (w1.setCell ⟨B, 0, none⟩ v') B' t' u) ∧ Boxed (w1.setCell ⟨B, 0, none⟩ v') B t v' ∧ (w1.setCell ⟨B, 0, none⟩ v').ownsRow n₀ e size v' m ys ∧ KeepsOthers w1 (w1.setCell ⟨B, 0, none⟩ v') :=
  ⟨fun B' t' u hne h => boxed_other _ h hne, hv.set v', ownsRow_far hown' hB _, KeepsOthers.setCell _ _ _⟩
/-- the records are laid -/
theorem below_records {n₀ : Nat} {w : World} (o o' : Obj) (h : n₀ ≤ w.heap.size) : Below n₀ w ((w.alloc o).alloc o') := ((Below.refl _ _).alloc h _).alloc (by simp; omega) _
end Go.Proofs.Ytnmlmbbacicojaa
namespace Go.Proofs.Ytnmlmbbacicojaa
set_option linter.unusedVariables false
set_option linter.unusedSimpArgs false
open Go.RowKit Go.Maps Go.Proofs.YtnmlmbbacicojaaW.PrintWords Go.Proofs.YtnmlmbbacicojaaW.PrintLast Go.Proofs.YtnmlmbbacicojaaW.PrintMore Go.Proofs.Ytnmlmbbacicojaa.PWalkSame

/-- the consumer: a box with a row of the paths so far -/
def ConsP (n : Nat) (w : World) (out : List ByteArray) (W : World) : Prop := (∃ v, Boxed W n 44 v ∧ W.ownsRow (n + 2) 9 1 v out.length (out.map Value.string)) ∧ Below n w W
/-- a block that neither the consumer nor the loop's record is -/
def kindOk : Obj → Prop
  | .map _ _ => True
  | .cells _ t _ => t ≠ 9
  | _ => False
def KeepP (n : Nat) (W0 W : World) : Prop := W0.heap.size ≤ W.heap.size ∧ ∀ b o, W0.heap[b]? = some o → b ≠ n → kindOk o → W.heap[b]? = some o
theorem KeepP.refl (n : Nat) (W : World) : KeepP n W W := ⟨Nat.le_refl _, fun _ _ h _ _ => h⟩
theorem KeepP.trans {n : Nat} {A B C : World} (h : KeepP n A B) (k : KeepP n B C) : KeepP n A C := ⟨Nat.le_trans h.1 k.1, fun b o h1 h2 h3 => k.2 b o (h.2 b o h1 h2 h3) h2 h3⟩
theorem ConsP.drewN {n : Nat} {w W : World} {out : List ByteArray} (h : ConsP n w out W) (q : Nat) : ConsP n w out (W.drewN q) := by
  obtain ⟨⟨v, h1, h2⟩, h3⟩ := h
  exact ⟨⟨v, h1, h2⟩, ⟨h3.os, h3.tape, h3.output, h3.size, h3.block⟩⟩
theorem ConsP.alloc {n : Nat} {w W : World} {out : List ByteArray} (h : ConsP n w out W) (o : Obj) : ConsP n w out (W.alloc o) := by
  obtain ⟨⟨v, h1, h2⟩, h3⟩ := h
  exact ⟨⟨v, h1.alloc _, h2.alloc _⟩, h3.alloc (by have := h1.lt; omega) _⟩
/-- another block than the consumer's has turned -/
theorem ConsP.turned {n : Nat} {w W W' : World} {out : List ByteArray} {b : Nat} (h : ConsP n w out W) (hg : W.grownBy W' (some b)) (hb : ∀ c t, W.heap[b]? ≠ some (.cells c t (0, 0))) (hn : n ≤ b) : ConsP n w out W' := by
  obtain ⟨⟨v, h1, h2⟩, h3⟩ := h
  refine ⟨⟨v, h1.kept hg (fun e => ?_), h2.kept hg ?_⟩, h3.grown hg (by have := h1.lt; omega) (fun k e => by cases e; exact hn)⟩
  · cases e
    exact hb _ _ (show W.heap[n]? = _ from h1)
  · by_cases e : v.ownBlock = none
    · exact .inl e
    · refine .inr fun e2 => ?_
      obtain ⟨cells, hc⟩ := own_typed h2 b e2
      exact hb _ _ hc
theorem ConsP.putObj {n : Nat} {w W : World} {out : List ByteArray} {l : Nat} {r : Loop} (o' : Obj) (h : ConsP n w out W) (hl : W.heap[l]? = some (.loop r)) (hn : n ≤ l) : ConsP n w out (W.putObj l o') := by
  obtain ⟨⟨v, h1, h2⟩, h3⟩ := h
  exact ⟨⟨v, boxed_putLoop _ h1 hl rfl, ownsRow_putObj h2 _ hl rfl⟩, below_putObj _ h3 hn (Array.getElem?_eq_some_iff.1 hl).1⟩
theorem KeepP.putObj {n : Nat} {W0 W : World} {l : Nat} {r : Loop} (o' : Obj) (h : KeepP n W0 W) (hl : W.heap[l]? = some (.loop r)) : KeepP n W0 (W.putObj l o') := by
  refine ⟨by have := h.1; simp [World.putObj]; exact this, fun b o h1 h2 h3 => ?_⟩
  have := h.2 b o h1 h2 h3
  refine (World.putObj_heap_other (fun e => ?_)).trans this
  subst e
  rw [hl] at this
  injection this with this
  subst this
  exact h3
/-- the iterator: the walker and its maps -/
def ItP (l : List S30) (A : Option Addr) (N c n bw ba bi : Nat) (g : Int → Bool) (W : World) : Prop :=
  W.heap[bw]? = some (.cells #[.slice A N c, .map (some ba), .map (some bi)] 84 (0, 0)) ∧ (∃ m, OwnII Try.prog 3 3 W ba m (atF l)) ∧ (∃ m, m + left l g ≤ l.length ∧ OwnIB Try.prog 3 4 W bi m g) ∧ (n < bw ∧ n < ba ∧ n < bi ∧ ba ≠ bi)
section
variable {l : List S30} {A : Option Addr} {N c n bw ba bi : Nat} {g : Int → Bool} {W W' : World}
theorem ItP.keep (h : ItP l A N c n bw ba bi g W) (hk : KeepP n W W') : ItP l A N c n bw ba bi g W' := by
  obtain ⟨h1, ⟨m, h2⟩, ⟨m', h3, h4⟩, h5⟩ := h
  obtain ⟨es, ck, e1⟩ := h2.obj
  obtain ⟨es', ck', e2⟩ := h4.obj
  exact ⟨hk.2 _ _ h1 (by omega) (by simp [kindOk]), ⟨m, h2.same ((hk.2 _ _ e1 (by omega) trivial).trans e1.symm)⟩, ⟨m', h3, h4.same ((hk.2 _ _ e2 (by omega) trivial).trans e2.symm)⟩, h5⟩
theorem ItP.drewN (h : ItP l A N c n bw ba bi g W) (q : Nat) : ItP l A N c n bw ba bi g (W.drewN q) := h
theorem ItP.alloc (h : ItP l A N c n bw ba bi g W) (o : Obj) : ItP l A N c n bw ba bi g (W.alloc o) :=
  h.keep ⟨by simp, fun b o' h1 _ _ => (Below.heap_alloc _ _ _ (Array.getElem?_eq_some_iff.1 h1).1).trans h1⟩
theorem ItP.cells (h : ItP l A N c n bw ba bi g W) : W.cell? ⟨bw, 0, none⟩ = some (.slice A N c) ∧ W.cell? ⟨bw, 1, none⟩ = some (.map (some ba)) ∧ W.cell? ⟨bw, 2, none⟩ = some (.map (some bi)) := by
  obtain ⟨h1, _⟩ := h
  exact ⟨blk_cell h1 0, blk_cell h1 1, blk_cell h1 2⟩
end
theorem wfk {k : Nat} (h : k ≤ 140737488355328) : (Lit.int .i64 (k : Int)).wf = true := WalkArith.wf_i64 ⟨by omega, by omega⟩
end Go.Proofs.Ytnmlmbbacicojaa
namespace Go.Proofs.Ytnmlmbbacicojaa
set_option linter.unusedVariables false
set_option linter.unusedSimpArgs false
open Go.RowKit Go.Maps Go.Proofs.YtnmlmbbacicojaaW.PrintWords Go.Proofs.YtnmlmbbacicojaaW.PrintLast Go.Proofs.YtnmlmbbacicojaaW.PrintMore Go.Proofs.Ytnmlmbbacicojaa.PWalkSame

abbrev Sg := List ByteArray × ByteArray × World
/-- F: what the whole walk comes to; a walk that is stopped has come to it -/
def InP (n : Nat) (w : World) (F : List ByteArray) (s : Sg) (W : World) : Prop := ConsP n w s.1 W ∧ s.1.length ≤ 10000 ∧ KeepP n s.2.2 W ∧ s.2.1.size ≤ 500 ∧ (s.1.length = 10000 → s.1 = F)
def JnP (n : Nat) (w : World) (s : Sg) (W : World) : Prop := ConsP n w (s.1 ++ [s.2.1]) W ∧ s.1.length ≠ 10000 ∧ s.1.length ≤ 10000 ∧ KeepP n s.2.2 W
def JxP (n : Nat) (w : World) (F : List ByteArray) (s : Sg) (c : Code) (W : World) : Prop := s.1.length = 10000 ∧ s.1 = F ∧ ConsP n w s.1 W
def DownPost (n L : Nat) (rec : LoopState → Option Code → Loop) (w : World) (F : List ByteArray) (it : (Int → Bool) → World → Prop) (C : Code → Prop) (r : Bool × St) (e : Ending) (W' : World) : Prop :=
  (e = .returned (.bool true) ∧ r.1 = true ∧ ConsP n w r.2.1 W' ∧ r.2.1.length ≤ 10000 ∧ Ready L rec W' ∧ it r.2.2 W') ∨ (e = .returned (.bool false) ∧ r.1 = false ∧ ∃ s c, C c ∧ JxP n w F s c W' ∧ Stopped L rec c W')
def YieldP (n L : Nat) (rec : LoopState → Option Code → Loop) (w : World) (F : List ByteArray) (C : Code → Prop) : Prop :=
  ∀ s W, InP n w F s W → Ready L rec W → YieldAt Fence.wide 0 Try.prog (L + 1) #[.string s.2.1] W fun e W' =>
    (e = .returned (.bool true) ∧ JnP n w s W' ∧ Ready L rec W') ∨ (e = .returned (.bool false) ∧ ∃ c, C c ∧ JxP n w F s c W' ∧ Stopped L rec c W')

theorem wide_in {P : Program} {n : Nat} {f : FuncId} {args : Array Value} {w : World} {R : Ending → World → Prop} (h : CallsIn Fence.wide n P f args w R) : Fence.wide.fn f ∧ Fence.wide.depth = none ∧ CallsIn Fence.wide n P f args w R := ⟨trivial, rfl, h⟩
theorem int_ne' {a b : Int} (h : ¬ a = b) : (a == b) = false ∧ (a != b) = true := by simp [h]
set_option maxHeartbeats 4000000 in
set_option maxRecDepth 100000 in
theorem down_c {n L : Nat} {rec : LoopState → Option Code → Loop} {w : World} {F : List ByteArray} {C : Code → Prop} (hY : YieldP n L rec w F C) (l : List S30) (A : Option Addr) (N c bw ba bi : Nat) (hN : l.length = N) (hNc : N ≤ c) (hok : NodesOk l) (hC : Kd.C k30 w A N l) (hn : n = w.heap.size) (hL : n ≤ L) :
    ∀ (f k : Nat) (ahead : ByteArray) (st : St) (W : World), k < l.length → ahead.size ≤ 500 → left l st.2 < f → ConsP n w st.1 W → st.1.length ≤ 10000 → Ready L rec W → ItP l A N c n bw ba bi st.2 W → ((dn l f k ahead st).1 = false → (dn l f k ahead st).2.1 = F) →
      CallsIn Fence.wide 0 Try.prog 44 #[.pointer (some ⟨bw, 0, none⟩), .int .i64 k, .string ahead, .func (.yield (L + 1)) #[] #[]] W (DownPost n L rec w F (ItP l A N c n bw ba bi) C (dn l f k ahead st)) := by
  have hr47 := reach47
  have hll : l.length ≤ 140737488355328 := by have := hok.2; omega
  subst hN
  have HNN := hide hn
  clear hn
  intro f
  induction f with
  | zero => intro k ahead st W _ _ h; exact absurd h (by omega)
  | succ f ih =>
    intro k ahead st W hk ha hf hcons hlen hrdy hit hF
    have HFF := hide hF
    clear hF
    have IH := hide ih
    have HY := hide hY
    have HC := hide hC
    have HOK := hide hok
    clear ih hY hC hok
    obtain ⟨cw0, cw1, cw2⟩ := hit.cells
    obtain ⟨m, hlm, hib⟩ := hit.2.2.1
    have hlk := hib.look Try.underlying3 Try.underlying4 Try.underlying82 (zero4 _) (k : Int) (wfk (by omega))
    have HIT := hide hit
    have HCONS := hide hcons
    have HRDY := hide hrdy
    have HIB := hide hib
    clear hit hcons hrdy hib
    have hx := HOK.out.1 _ (List.getElem_mem hk)
    obtain ⟨ad, A4, c4, A5, c5, e5, x0, x1, x2, x3, x4, x5, l4, g4, l5, g5⟩ := at_T30 HC.out (k : Int) (by omega) (by omega)
    rw [rd30 hk] at x0 x1 x2 x3 x4 x5 l4 g4 l5 g5
    rw [Int.toNat_natCast] at x0 x1 x2 x3 x4 x5
    subst e5
    have hbel := HCONS.out.2
    rw [HNN.out] at hbel
    replace x1 := (hbel.cell (World.block_lt_of_cell? w _ x1)).trans x1
    have X5 := hide x5
    clear x5
    clear x0 x2 x3 x4 l4 g4
    have hgd : l.getD k z30 = l[k] := by simp [hk]
    have o1 : (0 : Int) ≤ (k : Int) := by omega
    have o2 : (k : Int) < (l.length : Int) := by omega
    have HBEL := hide hbel
    clear hbel
    by_cases hvis : st.2 (k : Int) = true
    · have HR := hide (show dn l (f + 1) k ahead st = (true, st) by unfold dn; rw [if_pos (.inl hvis)])
      rw [hvis] at hlk
      clear hvis hgd
      refine callsIn_of_wp Try.func44 rfl trivial ?_ rfl
      simp only [Try.ntmps44, List.size_toArray, List.length_cons, List.length_nil, Nat.reduceAdd, Nat.reduceSub, Array.replicate_succ, Array.replicate_zero, List.push_toArray, List.append_toArray, List.nil_append, List.cons_append]
      gi_wp2
      go_ret
      rw [HR.out]
      exact .inl ⟨by first | rfl | simp, rfl, HCONS.out, hlen, HRDY.out, HIT.out⟩
    · have hvis' : st.2 (k : Int) = false := by simpa using hvis
      rw [hvis'] at hlk
      by_cases hkind : (l[k]).f1 = 2
      · have HR := hide (show dn l (f + 1) k ahead st = slotsF (dn l f) l ahead (l[k]).f5 (into st k) by
          conv => lhs; unfold dn
          rw [if_neg (by rw [hgd]; simp [hvis', hkind]), hgd])
        have hlf : left l (into st k).2 < f := by have := left_into hk hvis'; omega
        have HLF := hide hlf
        rw [hkind] at x1
        have hn5 := hx.2.2.2.2.2
        have hE5 := fun e (he : e ∈ (l[k]).f5) => hn5.1 e he
        have hl5 : (l[k]).f5.length ≤ 140737488355328 := by have := hn5.2; omega
        generalize (l[k]).f5 = es at X5 l5 g5 HR hE5 hl5
        have HE5 := hide hE5
        have G5 := hide g5
        have HM := hide hlm
        have HLI := hide (left_into hk hvis')
        clear hvis hvis' hkind hgd hx hE5 hn5 g5 hlf hlm
        obtain ⟨D, hD1, hD2⟩ := HIB.out
        refine callsIn_of_wp Try.func44 rfl trivial ?_ rfl
        simp only [Try.ntmps44, List.size_toArray, List.length_cons, List.length_nil, Nat.reduceAdd, Nat.reduceSub, Array.replicate_succ, Array.replicate_zero, List.push_toArray, List.append_toArray, List.nil_append, List.cons_append]
        gi_wp2_with (gi_at_mapUpdate; refine wpListIn_mapUpdate_own _ rfl _ _ _ 82 rfl 3 4 (Maps.int_keyed Try.underlying3) Try.underlying82 _ bi _ _ rfl hD1 (by have := HM.out; unfold maxLen; omega) _ _ _ rfl rfl (Maps.keyOf_int_mk Try.underlying3 (wfk (by omega))) _ [] (plainElem_bool Try.underlying4 true) ?_; intro w1 hown1 hg1; have hbw : w1.heap[bw]? = some (.cells #[.slice (some ad) l.length c, .map (some ba), .map (some bi)] 84 (0, 0)) := (hg1.block bw (Array.getElem?_eq_some_iff.1 HIT.out.1).1 (by rintro ⟨⟩; obtain ⟨es', ck, e⟩ := HIB.out.obj; have := HIT.out.1; rw [e] at this; cases this)).trans HIT.out.1; have y0 := blk_cell hbw 0; have y1 := blk_cell hbw 1; have hbel1 := HBEL.out.grown hg1 HBEL.out.size (fun q hq => by cases hq; have := HIT.out.2.2.2; have := HNN.out; omega); have y5 := (hbel1.cell (World.block_lt_of_cell? w _ X5.out)).trans X5.out)
        have hit1 : ItP l (some ad) l.length c n bw ba bi (into st k).2 w1 := by
          obtain ⟨h1, ⟨m1, h2⟩, h3, h4, h5, h6, h7⟩ := HIT.out
          exact ⟨hbw, ⟨m1, h2.kept hg1 (by intro e; cases e; exact h7 rfl)⟩, ⟨m + 1, by have := HM.out; have := HLI.out; omega, ⟨_, hown1, hD2.put _ _⟩⟩, h4, h5, h6, h7⟩
        have hcons1 := HCONS.out.turned hg1 (fun c t e => by obtain ⟨es', ck, e'⟩ := HIB.out.obj; rw [e'] at e; cases e) (by have := HIT.out.2.2.2; omega)
        have hrdy1 := HRDY.out.keeps (Keeps2.grown hg1 (by intro e; cases e; obtain ⟨es', ck, e'⟩ := HIB.out.obj; have := HRDY.out.2; rw [e'] at this; cases this) (by intro e; cases e; obtain ⟨es', ck, e'⟩ := HIB.out.obj; have := HRDY.out.1; rw [e'] at this; cases this))
        have H1 := hide (And.intro hit1 (And.intro hcons1 hrdy1))
        have HR2 := hide (rfl : slotsF (dn l f) l ahead es (into st k) = slotsF (dn l f) l ahead es (into st k))
        clear hit1 hcons1 hrdy1 hown1 hD1 hD2 hg1 hbw y0 y1 y5 hbel1 cw0 cw1 cw2 hlk x1
        gi_loopw [45] (fun i wr => ∃ (j : Nat) (sj : St), j ≤ es.length ∧ i = .int .i64 j ∧ Hid (slotsF (dn l f) l ahead (es.drop j) sj = slotsF (dn l f) l ahead es (into st k)) ∧ Hid (left l sj.2 < f) ∧ Hid (ConsP n w sj.1 wr ∧ Ready L rec wr ∧ ItP l (some ad) l.length c n bw ba bi sj.2 wr) ∧ sj.1.length ≤ 10000) (fun i _ => es.length - (intOf i).toNat)
        case atStart => exact ⟨0, into st k, by omega, rfl, hide (by rw [List.drop_zero]), HLF, hide ⟨H1.out.2.1, H1.out.2.2, H1.out.1⟩, hlen⟩
        case round =>
          obtain ⟨j, sj, hj, rfl, HT, HLJ, HD, hsl⟩ := hrel
          by_cases hlt : j < es.length
          · have he := HE5.out _ (List.getElem_mem hlt)
            obtain ⟨ae, e6, u0, u1⟩ := at_T32 G5.out (j : Int) (by omega) (by omega)
            rw [rd32 hlt] at u0 u1
            rw [Int.toNat_natCast] at u0 u1
            subst e6
            have hbr := HD.out.1.2
            rw [HNN.out] at hbr
            replace u0 := (hbr.cell (World.block_lt_of_cell? w _ u0)).trans u0
            replace u1 := (hbr.cell (World.block_lt_of_cell? w _ u1)).trans u1
            have q1 : (0 : Int) ≤ (j : Int) := by omega
            have q2 : (j : Int) < (es.length : Int) := by omega
            have q3 : ((⟨#[47]⟩ : ByteArray).size : Int) = 1 := rfl
            have q4 : ((es[j].f1).size : Int) ≤ 140737488355328 := by have := he.2; omega
            have q5 : (ahead.size : Int) ≤ 500 := by omega
            have q6 : ((ahead ++ (⟨#[47]⟩ : ByteArray)).size : Int) ≤ 501 := by rw [ByteArray.size_append]; omega
            have hwf := he.1
            have HNS := hide (show (nextS ahead es[j].f1).size = ahead.size + 1 + (es[j].f1).size by unfold nextS; rw [ByteArray.size_append, ByteArray.size_append]; rfl)
            clear hbr he
            by_cases hz : es[j].f0 = 0
            · have HS := hide (slotsF_skip (rec := dn l f) (l := l) (a := ahead) (st := sj) hlt (.inl hz))
              rw [hz] at u0
              generalize es[j].f1 = nm at u1 q4
              clear hz
              gi_wp2
              go_roundw
              case rel => exact ⟨j + 1, sj, by omega, by go_num, hide (HS.out.symm.trans HT.out), HLJ, hide ⟨HD.out.1.alloc _, HD.out.2.1.keeps (Keeps2.alloc _ _ _), HD.out.2.2.alloc _⟩, hsl⟩
              case measure => simp [intOf]; omega
            · have z1 := int_ne' hz
              by_cases hbig : 500 < (nextS ahead es[j].f1).size
              · have HS := hide (slotsF_skip (rec := dn l f) (l := l) (a := ahead) (st := sj) hlt (.inr hbig))
                have q7 : (500 : Int) < (ahead.size : Int) + 1 + ((es[j].f1).size : Int) := by have := HNS.out; omega
                generalize es[j].f1 = nm at u1 q4 q7
                generalize es[j].f0 = ino at u0 hwf z1
                clear hz hbig
                gi_wp2
                go_roundw
                case rel => exact ⟨j + 1, sj, by omega, by go_num, hide (HS.out.symm.trans HT.out), HLJ, hide ⟨HD.out.1.alloc _, HD.out.2.1.keeps (Keeps2.alloc _ _ _), HD.out.2.2.alloc _⟩, hsl⟩
                case measure => simp [intOf]; omega
              · have HB := hide (show ¬ (es[j].f0 = 0 ∨ 500 < (nextS ahead es[j].f1).size) from fun h => h.elim hz hbig)
                have q7 : (ahead.size : Int) + 1 + ((es[j].f1).size : Int) ≤ 500 := by have := HNS.out; omega
                have q8 := HNS.out
                have HFU := hide (fun hf => slotsF_full (rec := dn l f) (l := l) (a := ahead) (st := sj) hlt HB.out hf)
                have HNO := hide (fun hf hn => slotsF_none (rec := dn l f) (l := l) (a := ahead) (st := sj) hlt HB.out hf hn)
                have HSO := hide (fun hf i hn => slotsF_some (rec := dn l f) (l := l) (a := ahead) (st := sj) hlt HB.out hf i hn)
                have HNX := hide (show nextS ahead es[j].f1 = ahead ++ (⟨#[47]⟩ : ByteArray) ++ es[j].f1 from rfl)
                generalize hs : nextS ahead es[j].f1 = s at HFU HNO HSO HNX q8
                generalize es[j].f1 = nm at u1 q4 q7 q8 HNX
                generalize es[j].f0 = ino at u0 hwf z1 HNO HSO
                clear hz hbig hs HB HNS
                gi_wp2
                have HFF2 := hide (show ∀ x : List ByteArray, (slotsF (dn l f) l ahead es (into st k)).1 = false → (slotsF (dn l f) l ahead es (into st k)).2.1 = x → x = F from fun x h1 h2 => by rw [← h2, ← HR.out]; exact HFF.out (by rw [HR.out]; exact h1))
                obtain ⟨fn, tmps, assign, body, hy, hR⟩ := HY.out (sj.1, ahead ++ (⟨#[47]⟩ : ByteArray) ++ nm, wr.alloc (.cells #[.int .i64 ino, .string nm] 32)) (wr.alloc (.cells #[.int .i64 ino, .string nm] 32))
                  ⟨HD.out.1.alloc _, hsl, KeepP.refl _ _, by rw [← HNX.out, q8]; omega, fun h => HFF2.out _ (by rw [← HT.out, HFU.out h]) (by rw [← HT.out, HFU.out h])⟩ (HD.out.2.1.keeps (Keeps2.alloc _ _ _))
                dsimp only at hy
                have hhb : (wr.alloc (.cells #[.int .i64 ino, .string nm] 32)).heap[wr.heap.size]? = some (.cells #[.int .i64 ino, .string nm] 32 (0, 0)) := World.alloc_heap_new _ _
                have HHB := hide hhb
                clear hhb
                rw [hy, Oper.uponIn_round]
                refine ⟨fun h => by simp [Fence.wide] at h, ?_⟩
                refine hR.mono ?_
                rintro e W3 (⟨rfl, ⟨hc3, hne, hle, hk3⟩, hrd3⟩ | ⟨rfl, cc, hCc, hJx, hst⟩)
                · have hc3' : ConsP n w (sj.1 ++ [s]) W3 := by rw [HNX.out]; exact hc3
                  have hit3 := (HD.out.2.2.alloc (.cells #[.int .i64 ino, .string nm] 32)).keep hk3
                  have hnb : wr.heap.size ≠ n := by have := HD.out.1.1; obtain ⟨v, hv, _⟩ := this; have := hv.lt; omega
                  have hb3 := hk3.2 _ _ HHB.out hnb (by simp [kindOk])
                  have t0 := blk_cell hb3 0
                  have t1 := blk_cell hb3 1
                  obtain ⟨cw0, cw1, cw2⟩ := hit3.cells
                  obtain ⟨ma, hia⟩ := hit3.2.1
                  have hlk0 := hia.look Try.underlying3 Try.underlying3 Try.underlying56 (zero3 _) ino hwf
                  have hlk1 : ∀ q, (Instr.lookup 56 (.map (some ba)) (.int .i64 ino) true).run Try.prog (W3.drewN q) = .ok (.tuple #[.int .i64 ((atF l ino).getD 0), .bool (atF l ino).isSome]) (W3.drewN q) := fun q => (show OwnII Try.prog 3 3 (W3.drewN q) ba ma (atF l) from hia).look Try.underlying3 Try.underlying3 Try.underlying56 (zero3 _) ino hwf
                  have HI3 := hide (And.intro hc3' (And.intro hrd3 hit3))
                  have HNE := hide hne
                  have hle' : sj.1.length ≤ 9999 := by dsimp only at hne hle; omega
                  clear hc3 hne hk3 hrd3 hc3' hit3 hnb hb3 hia hle
                  cases hq : atF l ino with
                  | none =>
                    have HT3 := hide ((HNO.out HNE.out hq).symm.trans HT.out)
                    rw [hq] at hlk0 hlk1
                    simp only [Option.getD_none, Option.isSome_none] at hlk0 hlk1
                    clear hq
                    gi_wp2
                    gi_quiet (fail)
                    gi_wp2
                    refine ⟨trivial, ?_⟩
                    gi_wp2
                    go_roundw
                    case rel => exact ⟨j + 1, (sj.1 ++ [s], sj.2), by omega, by go_num, HT3, HLJ, hide ⟨HI3.out.1.drewN _, HI3.out.2.1.keeps (Keeps2.drewN _ _ _), HI3.out.2.2.drewN _⟩, by simp; omega⟩
                    case measure => simp [intOf]; omega
                  | some v =>
                    obtain ⟨i, rfl, hil, _⟩ := atF_lt hq
                    have HT3 := hide ((HSO.out HNE.out i hq).symm.trans HT.out)
                    have HCL := hide (fun q => IH.out i s (sj.1 ++ [s], sj.2) (W3.drewN q) hil (by rw [q8]; omega) HLJ.out (HI3.out.1.drewN q) (by simp; omega) (HI3.out.2.1.keeps (Keeps2.drewN _ _ _)) (HI3.out.2.2.drewN q) (fun h => HFF2.out _ (by rw [← HT3.out, if_neg (by rw [h]; simp)]) (by rw [← HT3.out, if_neg (by rw [h]; simp)])))
                    rw [hq] at hlk0 hlk1
                    simp only [Option.getD_some, Option.isSome_some] at hlk0 hlk1
                    clear hq
                    generalize hdn : dn l f i s (sj.1 ++ [s], sj.2) = r at HT3 HCL
                    have HDN := hide hdn
                    clear hdn
                    rw [HNX.out] at HCL
                    gi_wp2
                    gi_quiet (fail)
                    gi_wp2
                    refine wide_in ?_
                    refine (HCL.out _).mono ?_
                    rintro e W4 (⟨rfl, hr1, hr2, hr3, hr4, hr5⟩ | ⟨rfl, hr1, sx, cx, hcx, hjx, hsx⟩)
                    · have HLR := hide (show left l r.2.2 < f from Nat.lt_of_le_of_lt (left_le (fun x hx => by rw [← HDN.out]; exact dn_mono l f i s (sj.1 ++ [s], sj.2) x hx)) HLJ.out)
                      have HT4 := hide (show slotsF (dn l f) l ahead (es.drop (j + 1)) r.2 = slotsF (dn l f) l ahead es (into st k) by have := HT3.out; rw [if_pos hr1] at this; exact this)
                      clear hr1
                      gi_wp2
                      go_roundw
                      case rel => exact ⟨j + 1, r.2, by omega, by go_num, HT4, HLR, hide ⟨hr2, hr4, hr5⟩, hr3⟩
                      case measure => simp [intOf]; omega
                    · have HT4 := hide (show (false, r.2) = slotsF (dn l f) l ahead es (into st k) by have := HT3.out; rw [if_neg (by rw [hr1]; simp)] at this; exact this)
                      clear hr1
                      gi_wp2
                      go_ret
                      rw [HR.out, ← HT4.out]
                      exact .inr ⟨by first | rfl | simp, rfl, sx, cx, hcx, hjx, hsx⟩
                · have HT3 := hide ((HFU.out hJx.1).symm.trans HT.out)
                  gi_wp2
                  go_ret
                  rw [HR.out, ← HT3.out]
                  exact .inr ⟨by first | rfl | simp, rfl, _, cc, hCc, hJx, hst⟩
          · have hje : j = es.length := by omega
            subst hje
            clear hlt hj
            have HT2 := hide (show slotsF (dn l f) l ahead es (into st k) = (true, sj) by rw [← HT.out, List.drop_length]; rfl)
            gi_wp2
            go_ret
            rw [HR.out, HT2.out]
            exact .inl ⟨by first | rfl | simp, rfl, HD.out.1, hsl, HD.out.2.1, HD.out.2.2⟩
      · have HR := hide (show dn l (f + 1) k ahead st = (true, st) by unfold dn; rw [if_pos (.inr (by rw [hgd]; exact hkind))])
        have n1 := int_ne' hkind
        clear hvis hvis' hgd
        refine callsIn_of_wp Try.func44 rfl trivial ?_ rfl
        simp only [Try.ntmps44, List.size_toArray, List.length_cons, List.length_nil, Nat.reduceAdd, Nat.reduceSub, Array.replicate_succ, Array.replicate_zero, List.push_toArray, List.append_toArray, List.nil_append, List.cons_append]
        gi_wp2
        go_ret
        rw [HR.out]
        exact .inl ⟨by first | rfl | simp, rfl, HCONS.out, hlen, HRDY.out, HIT.out⟩
end Go.Proofs.Ytnmlmbbacicojaa
