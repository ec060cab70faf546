/-
  General words of this session over any program: a slice that reads as a list of cells; an append from such a slice onto a row of the call's own. No condition on a program.
  Maps of the call's own from int to int and from int to bool, as functions. General words; conditions on the types alone.
  Opening of an argument that reads: what 'trod' met, as a kind of the printed words. General words: whole numbers, strings, slices.
  Opening of nodes that came in.
  Contracts of walk.Same and of what it calls: it answers whether two lists of nodes are one, part by part. Conditions: none.
  Contracts of walk.same and walk.Same: are two nodes, are two lists of nodes one? Printed by b_gen.py. Condition: lists shorter than 2^62.
  The law's Big, over nodes that came in: it answers; and where it answers no, all is small.
  The contract of renum.Index: the place of the first node of each inode. Conditions: the nodes are as they came in.
  The contract of slices.IndexFunc as walk.Find uses it: the first slot in use of a name.
  Plain laws of paths as lists of bytes: the parts between slashes, what is a name, what is a path. No program in sight.
  DERIVED: THE SHELF's CONTRACTS AT THIS DUMP, IN PLAIN WORDS (tools/lay-plain.mjs out of 'YtnmlmbbacicojaaShelf0.lean', which tools/lay-shelf.mjs wrote): THE SAME DECLARATIONS UNDER THE SAME NAMES: 'import', 'namespace', 'open', 'def', 'theorem' AND NOTHING ELSE: no command of the shelf's: FOR A HAND-IN. Each laying: the table of numbers ('.._ren') and one theorem, a field a fact of the dump's own or the kernel's comparison; each contract: ONE APPLICATION.
-/
import Derived.WalkKit
import Derived.Maps.AppendAt
import Derived.Laws.OwnMore
import Derived.Laws.AppendOwnNone
import Derived.OpenShut
import Derived.Deep.DeepMust
import Derived.Maps.OwnSet
import Derived.Maps.OwnOps
import Derived.Maps.Keyed
import Derived.Test.YtnmlmbbacicojaaWWords
import Derived.SizedLaws
import Derived.SliceStrings
import Derived.ProofKit
import Derived.DataElems
import Derived.Test.YtnmlmbbacicojaaPWalkSamex0
import Derived.Test.YtnmlmbbacicojaaPWalkSamex4
import Derived.Deep.QuietTactic
import Derived.BigQuiet
import Derived.WalkSmall
import Derived.Test.YtnmlmbbacicojaaPWalkSamex3
import Derived.Lib.Bytealg
import Derived.Lib.IndexBytes
import Derived.Lib.Strings
import Derived.Lib.Join
import Derived.Shelf.Small.Strs
import Derived.Shelf.Small.Wraps
import Derived.Shelf.Strings.Search1
import Derived.Shelf.Strings.Search2
import Derived.Shelf.Strings.Cut
import Derived.Shelf.LaysM
import Derived.Shelf.Strings.Shaped
import Derived.Shelf.Strings.Prefix
import Derived.Shelf.Bytes.SlSearch0
import Derived.Shelf.Bytes.SlEqualAll
import Derived.Shelf.Bytes.Small
import Derived.Test.YtnmlmbbacicojaaProg
namespace Go.Proofs.Ytnmlmbbacicojaa
open Go.RowKit

theorem hide {p : Prop} (h : p) : Hid p := h
theorem results_tmp4 {fn : Func} {t u v x : Tmp} (h : fn.results = #[.tmp t, .tmp u, .tmp v, .tmp x]) (tmps : Array Value) (P : Program) (w : World) :
    (results fn tmps).run P w = .ok (.tuple #[tmps.getD t undef, tmps.getD u undef, tmps.getD v undef, tmps.getD x undef]) w := by simp [results, h]

def I64 (n : Int) : Prop := -9223372036854775808 ≤ n ∧ n ≤ 9223372036854775807
theorem i64_of_wf {n : Int} (h : (Lit.int .i64 n).wf = true) : I64 n := bounds_i64 h
theorem wf64 {n : Int} (h : I64 n) : (Lit.int .i64 n).wf = true := WalkArith.wf_i64 ⟨h.1, h.2⟩

/-- the slice's address A leads to the cells xs, below block B -/
def Cells (B : Nat) (w : World) (A : Option Addr) (xs : List Value) : Prop :=
  xs ≠ [] → ∃ b off, A = some ⟨b, off, none⟩ ∧ b < B ∧ ∀ i u, xs[i]? = some u → w.cell? ⟨b, off + i, none⟩ = some u
/-- a slice of ints below block B that reads as zs -/
def Ints (B : Nat) (w : World) (A : Option Addr) (zs : List Int) : Prop :=
  zs ≠ [] → ∃ b off, A = some ⟨b, off, none⟩ ∧ b < B ∧ ∀ i, i < zs.length → w.cell? ⟨b, off + i, none⟩ = some (.int .i64 (zs.getD i 0))
theorem Ints.cells {B : Nat} {w : World} {A : Option Addr} {zs : List Int} (h : Ints B w A zs) : Cells B w A (zs.map (Value.int .i64)) := fun hne => by
  obtain ⟨b, off, rfl, hlt, hc⟩ := h (by intro e; simp [e] at hne)
  refine ⟨b, off, rfl, hlt, fun i u hu => ?_⟩
  rw [List.getElem?_map, Option.map_eq_some_iff] at hu
  obtain ⟨n, hn, rfl⟩ := hu
  obtain ⟨hi, rfl⟩ := List.getElem?_eq_some_iff.1 hn
  rw [hc i hi]; simp [hi]
theorem Ints.below {B B' : Nat} {w w' : World} {A : Option Addr} {zs : List Int} (h : Ints B w A zs) (hb : Below B' w w') (hB : B ≤ B') : Ints B w' A zs := fun hne => by
  obtain ⟨b, off, rfl, hlt, hc⟩ := h hne
  exact ⟨b, off, rfl, hlt, fun i hi => (hb.cell (p := ⟨b, off + i, none⟩) (show b < B' by omega)).trans (hc i hi)⟩
theorem Ints.more {B B' : Nat} {w : World} {A : Option Addr} {zs : List Int} (h : Ints B w A zs) (hB : B ≤ B') : Ints B' w A zs := fun hne => by
  obtain ⟨b, off, rfl, hlt, hc⟩ := h hne
  exact ⟨b, off, rfl, by omega, hc⟩
/-- what the row's opening gives -/
theorem Ints.of_open {B : Nat} {w : World} {A : Option Addr} {zs : List Int} (h : zs ≠ [] → ∃ x, A = some x ∧ x.block < B ∧ ∀ j, j < zs.length → w.cell? (x.add j) = some (.int .i64 (zs.getD j 0))) : Ints B w A zs := fun hne => by
  obtain ⟨x, rfl, hb, hc⟩ := h hne
  have hl : 0 < zs.length := List.length_pos_iff.2 hne
  obtain ⟨b, off, spot⟩ := x
  have h0 := hc 0 hl
  have hspot : spot = none := by simpa [Addr.add] using World.cell?_spot h0
  subst hspot
  refine ⟨b, off, rfl, hb, fun i hi => ?_⟩
  have := hc i hi
  simp only [Addr.add] at this
  split at this
  · rename_i e; rw [e] at this ⊢; simpa using this
  · simpa using this
theorem Ints.of_own {B base : Nat} {w : World} {e : TypeId} {A : Option Addr} {n c : Nat} {zs : List Int} (h : w.ownsRow base e 1 (.slice A n c) n (zs.map (Value.int .i64))) (hB : w.heap.size ≤ B) : Ints B w A zs := fun hne => by
  have hl : 0 < zs.length := List.length_pos_iff.2 hne
  have hlen : zs.length = n := by have := h.1; simpa using this
  rcases h.2 with ⟨hv, h0⟩ | ⟨g, cap, cur, hv, _, hg, _⟩
  · omega
  · injection hv with hA _ hcap
    subst hA
    subst hcap
    have hlt : g < w.heap.size := (Array.getElem?_eq_some_iff.1 hg).1
    refine ⟨g, 0, rfl, by omega, fun i hi => ?_⟩
    rw [Nat.zero_add, h.cellAt i (by omega)]
    simp [hi]

section
variable {P : Program} (w : World)
theorem run_append_nil_src (base : Nat) (t ty e : TypeId) (i : TypeInfo) (size : Nat) (ht : P.underlying t = some (.slice e)) (hi : P.info? e = some i)
    (v : Value) (n : Nat) (xs : List Value) (hown : w.ownsRow base e size v n xs) (c : Nat) : (Builtin.append_ #[t, t] ty #[v, .slice none 0 c]).run P w = .ok v w := by
  rcases hown.2 with ⟨rfl, rfl⟩ | ⟨g, cap, cur, rfl, _, _, hnc, _⟩
  · simp [Builtin.append_, run_underlying ht, sizeOf, typeInfo, hi, Builtin.lenOf, Builtin.firstCells]
  · simp [Builtin.append_, run_underlying ht, sizeOf, typeInfo, hi, Builtin.lenOf, Builtin.firstCells, hnc, storeCells]
theorem cells_add {B : Nat} {b off : Nat} {xs : List Value} (h : ∀ i u, xs[i]? = some u → w.cell? ⟨b, off + i, none⟩ = some u) (_ : b < B) :
    ∀ j u, xs[j]? = some u → w.cell? ((⟨b, off, none⟩ : Addr).add j) = some u := fun j u hu => by
  have := h j u hu
  unfold Addr.add
  split
  · rename_i e; subst e; simpa using this
  · exact this
/-- append(v, src...) whatever src is -/
theorem run_append_src (base : Nat) (t ty e : TypeId) (i : TypeInfo) (z : Value) (size bytes : Nat) (ht : P.underlying t = some (.slice e)) (hi : P.info? e = some i) (hz : i.zero = some z)
    (hsize : i.size = size) (hby : i.bytes = bytes) (hzs : z.cells.size = size) (hsz : 0 < size)
    (v : Value) (n : Nat) (xs : List Value) (hown : w.ownsRow base e size v n xs)
    (B : Nat) (A : Option Addr) (m c : Nat) (news : List Value) (hm : news.length = m * size) (hr : Cells B w A news) (h1 : ∀ u ∈ news, u.oneCell' = true)
    (h63 : n + m ≤ maxLen) (hbytes : (n + m) * bytes ≤ 140737488355328) (hbase : base ≤ w.heap.size) :
    ∃ v' w', (Builtin.append_ #[t, t] ty #[v, .slice A m c]).run P w = .ok v' w' ∧ w'.ownsRow base e size v' (n + m) (xs ++ news) ∧ w.grownBy w' v.ownBlock ∧
      (v'.ownBlock = v.ownBlock ∨ v'.ownBlock = some w.heap.size) := by
  by_cases hne : news = []
  · subst hne
    have hm0 : m = 0 := by
      have : m * size = 0 := by simpa using hm.symm
      rcases Nat.mul_eq_zero.1 this with h | h <;> omega
    subst hm0
    rcases A with _ | ad
    · exact ⟨v, w, run_append_nil_src w base t ty e i size ht hi v n xs hown c, by simpa using hown, World.grownBy.refl w _, .inl rfl⟩
    · obtain ⟨v', w', hrun, h2, h3, _, h5⟩ := run_append_own_at (P := P) w base t ty e i z size bytes ht hi hz hsize hby hzs hsz v n xs hown ad 0 c [] (by simp) (by simp) (by simp) h63 hbytes hbase
      exact ⟨v', w', hrun, h2, h3, h5⟩
  · obtain ⟨b, off, rfl, hb, hc⟩ := hr hne
    obtain ⟨v', w', hrun, h2, h3, _, h5⟩ := run_append_own_at (P := P) w base t ty e i z size bytes ht hi hz hsize hby hzs hsz v n xs hown _ m c news hm (cells_add w hc hb) h1 h63 hbytes hbase
    exact ⟨v', w', hrun, h2, h3, h5⟩
theorem wpList_append_src {ops : Array Oper} {rest : List Oper} {o : Oper} {a : Act} {Q : Exit → Act → World → Prop} (hgd : o.guard = none) (s x : Operand) (t : TypeId)
    (ho : o.op = .call { callee := .builtin .append, args := #[s, x], argTypes := #[t, t] })
    (base : Nat) (e : TypeId) (i : TypeInfo) (z : Value) (size bytes : Nat) (ht : P.underlying t = some (.slice e)) (hi : P.info? e = some i) (hz : i.zero = some z)
    (hsize : i.size = size) (hby : i.bytes = bytes) (hzs : z.cells.size = size) (hsz : 0 < size)
    (v : Value) (n : Nat) (xs : List Value) (hs : a.eval s = v) (hown : w.ownsRow base e size v n xs)
    (B : Nat) (A : Option Addr) (m c : Nat) (news : List Value) (hx : a.eval x = .slice A m c) (hm : news.length = m * size) (hr : Cells B w A news) (h1 : ∀ u ∈ news, u.oneCell' = true)
    (h63 : n + m ≤ maxLen) (hbytes : (n + m) * bytes ≤ 140737488355328) (hbase : base ≤ w.heap.size)
    (h : ∀ v' w', w'.ownsRow base e size v' (n + m) (xs ++ news) → w.grownBy w' v.ownBlock → (v'.ownBlock = v.ownBlock ∨ v'.ownBlock = some w.heap.size) → wpList P ops Q rest (a.put o.dst v') w') : wpList P ops Q (o :: rest) a w := by
  refine wpList_plain hgd fun _ hK => ?_
  obtain ⟨v', w', hrun, h2, h3, h4⟩ := run_append_src (P := P) w base t o.type e i z size bytes ht hi hz hsize hby hzs hsz v n xs hown B A m c news hm hr h1 h63 hbytes hbase
  unfold Oper.wp execOp
  simp only [ho, resolve, invoke, builtin, Sem.run_bind, Sem.run_pure, Result.andThen_ok, List.map_toArray, List.map_cons, List.map_nil, hs, hx, hrun]
  exact hK _ _ (h v' w' h2 h3 h4)
end
/-- what an append leaves of the call's own row and below it -/
theorem below_append {n₀ : Nat} {w W w' : World} {v : Value} {e : TypeId} {size n : Nat} {xs : List Value} (hb : Below n₀ w W) (hown : W.ownsRow n₀ e size v n xs) (hg : W.grownBy w' v.ownBlock) (hn : n₀ ≤ W.heap.size) : Below n₀ w w' :=
  hb.grown hg hn (fun k hk => (hown.lt k hk).1)
theorem own_slice {base : Nat} {w : World} {e : TypeId} {size n : Nat} {v : Value} {xs : List Value} (h : w.ownsRow base e size v n xs) : ∃ A c, v = .slice A n c := by
  rcases h.2 with ⟨rfl, rfl⟩ | ⟨g, cap, cur, rfl, _⟩
  · exact ⟨_, _, rfl⟩
  · exact ⟨_, _, rfl⟩
end Go.Proofs.Ytnmlmbbacicojaa
namespace Go.Proofs.Ytnmlmbbacicojaa
set_option linter.unusedVariables false
set_option linter.unusedSimpArgs false
open Go.RowKit Go.Maps

theorem plainElem_bool_inv {P : Program} {e : TypeId} (he : P.underlying e = some .bool) {v : Value} {z : DataW Unit × List MemPlace} (h : plainElem P e v = some z) : ∃ a, v = .bool a ∧ z = (.lit (.bool a), []) := by
  unfold plainElem at h
  rw [he] at h
  cases v <;> simp at h
  subst h
  exact ⟨_, rfl, rfl⟩
abbrev kI (k : Int) : Lit := .int .i64 k
theorem kI_key (k : Int) : WideAt.IsKeyLit (kI k) := trivial
theorem kI_ne {a b : Int} (h : a ≠ b) : kI a ≠ kI b := fun e => h (by injection e)

/-- what a map from int to int holds -/
def MapII (D : DataW Unit) (f : Int → Option Int) : Prop := IsMap D ∧ ∀ k, has D (kI k) = (f k).isSome ∧ ∀ z, D.atKey (kI k) z = match f k with | some c => .lit (.int .i64 c) | none => z
theorem MapII.none_ : MapII (.map []) (fun _ => none) := ⟨⟨_, rfl⟩, fun k => ⟨rfl, fun z => rfl⟩⟩
theorem MapII.put {D : DataW Unit} {f : Int → Option Int} (h : MapII D f) (k c : Int) : MapII (D.put (kI k) (.lit (.int .i64 c))) (fun x => if x = k then some c else f x) := by
  obtain ⟨h1, h2⟩ := h
  refine ⟨h1.put _ _, fun x => ?_⟩
  by_cases e : x = k
  · subst e
    dsimp only
    rw [if_pos rfl]
    exact ⟨has_put_same h1 (kI_key _) _, fun z => atKey_put_same h1 (kI_key _) _ _⟩
  · dsimp only
    rw [if_neg e]
    refine ⟨(has_put_other (kI_ne e) _).trans (h2 x).1, fun z => (atKey_put_other (kI_ne e) _ _).trans ((h2 x).2 z)⟩
/-- what a map from int to bool holds -/
def MapIB (D : DataW Unit) (g : Int → Bool) : Prop := IsMap D ∧ ∀ k, D.atKey (kI k) (.lit (.bool false)) = .lit (.bool (g k))
theorem MapIB.none_ : MapIB (.map []) (fun _ => false) := ⟨⟨_, rfl⟩, fun k => rfl⟩
theorem MapIB.put {D : DataW Unit} {g : Int → Bool} (h : MapIB D g) (k : Int) (c : Bool) : MapIB (D.put (kI k) (.lit (.bool c))) (fun x => if x = k then c else g x) := by
  obtain ⟨h1, h2⟩ := h
  refine ⟨h1.put _ _, fun x => ?_⟩
  by_cases e : x = k
  · subst e
    dsimp only
    rw [if_pos rfl]
    exact atKey_put_same h1 (kI_key _) _ _
  · dsimp only
    rw [if_neg e]
    exact (atKey_put_other (kI_ne e) _ _).trans (h2 x)
def OwnII (P : Program) (kt et : TypeId) (w : World) (b n : Nat) (f : Int → Option Int) : Prop := ∃ D : DataW Unit, w.ownsMap P kt (plainElem P et) b n D ∧ MapII D f
def OwnIB (P : Program) (kt et : TypeId) (w : World) (b n : Nat) (g : Int → Bool) : Prop := ∃ D : DataW Unit, w.ownsMap P kt (plainElem P et) b n D ∧ MapIB D g
section
variable {P : Program} {kt et t : TypeId} {w w' : World} {b n : Nat} {f : Int → Option Int} {g : Int → Bool}
theorem OwnII.kept {row : Option Nat} (h : OwnII P kt et w b n f) (hg : w.grownBy w' row) (hne : some b ≠ row) : OwnII P kt et w' b n f := by
  obtain ⟨D, h1, h2⟩ := h
  exact ⟨D, h1.kept hg hne, h2⟩
theorem OwnIB.kept {row : Option Nat} (h : OwnIB P kt et w b n g) (hg : w.grownBy w' row) (hne : some b ≠ row) : OwnIB P kt et w' b n g := by
  obtain ⟨D, h1, h2⟩ := h
  exact ⟨D, h1.kept hg hne, h2⟩
theorem OwnII.same (h : OwnII P kt et w b n f) (hb : w'.heap[b]? = w.heap[b]?) : OwnII P kt et w' b n f := by
  obtain ⟨D, ⟨es, clock, h1, h2⟩, h3⟩ := h
  exact ⟨D, ⟨es, clock, hb.trans h1, h2⟩, h3⟩
theorem OwnIB.same (h : OwnIB P kt et w b n g) (hb : w'.heap[b]? = w.heap[b]?) : OwnIB P kt et w' b n g := by
  obtain ⟨D, ⟨es, clock, h1, h2⟩, h3⟩ := h
  exact ⟨D, ⟨es, clock, hb.trans h1, h2⟩, h3⟩
theorem OwnII.lt (h : OwnII P kt et w b n f) : b < w.heap.size := by obtain ⟨D, h1, _⟩ := h; exact h1.lt
theorem OwnIB.lt (h : OwnIB P kt et w b n g) : b < w.heap.size := by obtain ⟨D, h1, _⟩ := h; exact h1.lt
theorem OwnII.mono (h : OwnII P kt et w b n f) {n' : Nat} (hn : n ≤ n') : OwnII P kt et w b n' f := by obtain ⟨D, h1, h2⟩ := h; exact ⟨D, h1.mono hn, h2⟩
theorem OwnIB.mono (h : OwnIB P kt et w b n g) {n' : Nat} (hn : n ≤ n') : OwnIB P kt et w b n' g := by obtain ⟨D, h1, h2⟩ := h; exact ⟨D, h1.mono hn, h2⟩
/-- a map's block is no cells -/
theorem OwnII.obj (h : OwnII P kt et w b n f) : ∃ es clock, w.heap[b]? = some (.map es clock) := by obtain ⟨D, ⟨es, clock, h1, _⟩, _⟩ := h; exact ⟨es, clock, h1⟩
theorem OwnIB.obj (h : OwnIB P kt et w b n g) : ∃ es clock, w.heap[b]? = some (.map es clock) := by obtain ⟨D, ⟨es, clock, h1, _⟩, _⟩ := h; exact ⟨es, clock, h1⟩
theorem OwnII.look (h : OwnII P kt et w b n f) (hk : P.underlying kt = some (.int .i64)) (he : P.underlying et = some (.int .i64)) (ht : P.underlying t = some (.map kt et)) (hz : (zeroValue et).run P w = .ok (.int .i64 0) w) (k : Int) (hw : (Lit.int .i64 k).wf = true) :
    (Instr.lookup t (.map (some b)) (.int .i64 k) true).run P w = .ok (.tuple #[.int .i64 ((f k).getD 0), .bool (f k).isSome]) w := by
  obtain ⟨D, h1, h2, h3⟩ := h
  obtain ⟨v, ps, hrun, hv⟩ := h1.look_ok (int_keyed hk) ht hz (plainElem_int he (by decide)) (keyOf_int_mk hk hw)
  obtain ⟨e1, e2⟩ := h3 k
  rw [hrun]
  obtain ⟨c, rfl, hc, _⟩ := plainElem_int_inv he hv
  have e3 : D.atKey (kI k) (.lit (.int .i64 0)) = .lit (.int .i64 c) := by have := congrArg Prod.fst hc; exact this
  rw [e2] at e3
  have e4 : c = (f k).getD 0 := by
    cases hf : f k with
    | none => rw [hf] at e3; simp at e3; simp [e3]
    | some x => rw [hf] at e3; simp at e3; simp [e3]
  rw [e4, ← e1]
theorem OwnIB.look (h : OwnIB P kt et w b n g) (hk : P.underlying kt = some (.int .i64)) (he : P.underlying et = some .bool) (ht : P.underlying t = some (.map kt et)) (hz : (zeroValue et).run P w = .ok (.bool false) w) (k : Int) (hw : (Lit.int .i64 k).wf = true) :
    (Instr.lookup t (.map (some b)) (.int .i64 k) false).run P w = .ok (.bool (g k)) w := by
  obtain ⟨D, h1, h2, h3⟩ := h
  obtain ⟨v, ps, hrun, hv⟩ := h1.lookup (int_keyed hk) ht hz (plainElem_bool he false) (keyOf_int_mk hk hw)
  rw [hrun]
  rw [show (Lit.int .i64 k) = kI k from rfl, h3 k] at hv
  obtain ⟨c, rfl, hc⟩ := plainElem_bool_inv he hv
  have h5 : (DataW.lit (Lit.bool (g k)) : DataW Unit) = .lit (.bool c) := congrArg Prod.fst hc
  injection h5 with h5
  injection h5 with h5
  rw [h5]
end
end Go.Proofs.Ytnmlmbbacicojaa
namespace Go.Proofs.Ytnmlmbbacicojaa
set_option linter.unusedVariables false
set_option linter.unusedSimpArgs false
open Go.RowKit Go.Proofs.YtnmlmbbacicojaaW.PrintWords

/-- what reads as type t, and weighs no more than memory holds, is of kind d, and S -/
def Opens {α : Type} (P : Program) (t : TypeId) (d : Kd α) (S : α → Prop) : Prop :=
  ∀ {H : Type} {enc : TypeId × Value → H} {w : World} {base : Nat} {spare : Nat → Bool} {held : Bool} {fuel : Nat} {cs : List Value} {x : DataW H × List MemPlace},
    DataW.trod enc P w base spare held fuel t cs = some x → (x.1.weights P t).all (· ≤ reachBytes) = true → ∃ v, d.K w v cs ∧ S v
theorem opens_int {P : Program} {t : TypeId} {k : IntKind} (ht : P.underlying t = some (.int k)) : Opens P t (Kd.int k) (fun n => (Lit.int k n).wf = true) := by
  intro H enc w base spare held fuel cs x h _
  obtain ⟨n, rfl, _, hw⟩ := DataW.trod_int ht h
  exact ⟨n, rfl, hw⟩
theorem opens_string {P : Program} {t : TypeId} (ht : P.underlying t = some .string) : Opens P t Kd.string (fun s => s.size ≤ reachBytes) := by
  intro H enc w base spare held fuel cs x h hw
  obtain ⟨s, rfl, rfl, _⟩ := DataW.trod_string ht h
  refine ⟨s, rfl, ?_⟩
  have : s.data.toList.length ≤ reachBytes := by simpa [DataW.weights] using hw
  rwa [Array.length_toList] at this
theorem mem_weightsAll {H : Type} {P : Program} {e : TypeId} : ∀ {ds : List (DataW H)} {d : DataW H}, d ∈ ds → ∀ n ∈ d.weights P e, n ∈ DataW.weightsAll P e ds
  | d0 :: ds, d, hd, n, hn => by
    rw [DataW.weightsAll, List.mem_append]
    rcases List.mem_cons.1 hd with rfl | hd
    · exact .inl hn
    · exact .inr (mem_weightsAll hd n hn)
theorem opens_slice {α : Type} {P : Program} {t e : TypeId} {d : Kd α} {S : α → Prop} (ht : P.underlying t = some (.slice e)) (hd : Opens P e d S) (hsz : P.cellsOf e = d.sz) (e' : Nat) : Opens P t (Kd.slice e' d) (fun xs => (∀ x ∈ xs, S x) ∧ xs.length * P.bytesOf e ≤ reachBytes ∧ xs.length ≤ maxLen) := by
  intro H enc w base spare held fuel cs x h hw
  rcases DataW.trod_slice ht h with ⟨rfl, _⟩ | ⟨a, len, cap, elems, rest, n, _, rfl, rfl, hb, hl, hm, hlen, hel, _, _⟩
  · exact ⟨[], ⟨none, 0, rfl, Nat.le_refl _, rfl, by simp, fun h => absurd h (by simp)⟩, by simp⟩
  · simp only [DataW.weights, ht, List.all_cons, Bool.and_eq_true, List.all_append] at hw
    obtain ⟨hw1, hw2, _⟩ := hw
    have each : ∀ i : Fin len, ∃ v, S v ∧ ∃ c, c.length = d.sz ∧ d.K w v c ∧ ∀ j u, c[j]? = some u → w.cell? (a.add (i.val * d.sz + j)) = some u := by
      intro i
      have hi := hel i.val i.isLt
      have hlt : i.val < elems.length := by omega
      rw [List.getElem?_eq_getElem hlt, hsz, Option.bind_eq_some_iff] at hi
      obtain ⟨c, hc, hy⟩ := hi
      obtain ⟨_, hcl, hcell⟩ := World.cells?_some hc
      obtain ⟨v, hK, hS⟩ := hd hy (by
        rw [List.all_eq_true] at hw2 ⊢
        intro n hn
        exact hw2 n (mem_weightsAll (List.mem_map.2 ⟨_, List.getElem_mem hlt, rfl⟩) n hn))
      refine ⟨v, hS, c, hcl, hK, fun j u hu => ?_⟩
      have hj : j < d.sz := by have := (List.getElem?_eq_some_iff.1 hu).1; omega
      have := hcell j hj
      rw [Addr.add_add, hu] at this
      exact this
    let f : Fin len → α := fun i => Classical.choose (each i)
    have hf := fun i => Classical.choose_spec (each i)
    have hfl : (List.ofFn f).length = len := List.length_ofFn
    refine ⟨List.ofFn f, ⟨some a, cap, by rw [hfl], by rw [hfl]; exact hl, rfl, ?_, fun _ => ⟨a, rfl, fun j p hj => ?_⟩⟩, fun y hy => ?_, ?_, ?_⟩
    · rw [hfl]; have h2 : cap ≤ 9223372036854775807 := hm; omega
    · rw [List.getElem?_ofFn] at hj
      split at hj
      · rename_i hlt
        injection hj with hj
        subst hj
        obtain ⟨_, c, h1, h2, h3⟩ := hf ⟨j, hlt⟩
        exact ⟨c, h1, h2, fun i u hu => h3 i u hu⟩
      · cases hj
    · obtain ⟨i, hi⟩ := List.mem_ofFn.1 hy
      rw [← hi]
      exact (hf i).1
    · rw [hfl]
      have h2 : (elems.length + rest.length) * P.bytesOf e ≤ reachBytes := by simpa using hw1
      have h3 : len * P.bytesOf e ≤ (elems.length + rest.length) * P.bytesOf e := Nat.mul_le_mul_right _ (by omega)
      omega
    · rw [hfl]; omega
theorem field_weights {H : Type} {P : Program} {t u : TypeId} {fs : Array Field} {ds : List (DataW H)} {d : DataW H} (ht : P.underlying t = some (.struct fs)) (hw : ((DataW.agg ds).weights P t).all (· ≤ reachBytes) = true) (j : Nat) (hu : (fs.toList.map (·.type))[j]? = some u) (hd : ds[j]? = some d) : (d.weights P u).all (· ≤ reachBytes) = true := by
  simp only [DataW.weights, ht] at hw
  rw [List.all_eq_true] at hw ⊢
  exact fun n hn => hw n (DataW.weights_mem_each hu hd n hn)
/-- one field of a struct that was opened -/
theorem opens_field {H : Type} {α : Type} {P : Program} {t u : TypeId} {d : Kd α} {S : α → Prop} {fs : Array Field} {enc : TypeId × Value → H} {w : World} {base : Nat} {spare : Nat → Bool} {held : Bool} {n : Nat} {cs : List Value} {xs : List (DataW H × List MemPlace)}
    (ht : P.underlying t = some (.struct fs)) (ho : Opens P u d S) (hf : ∀ (i : Nat) (f : Field), fs[i]? = some f → DataW.trod enc P w base spare held n f.type ((cs.drop f.offset).take (P.cellsOf f.type)) = xs[i]?)
    (hw : ((DataW.agg (xs.map (·.1))).weights P t).all (· ≤ reachBytes) = true) (hl : xs.length = fs.size) (j off : Nat) (hj : j < fs.size) (hu : fs[j].type = u) (hoff : fs[j].offset = off) :
    ∃ v, d.K w v ((cs.drop off).take (P.cellsOf u)) ∧ S v := by
  have h1 := hf j fs[j] (Array.getElem?_eq_getElem hj)
  have hlt : j < xs.length := by omega
  rw [List.getElem?_eq_getElem hlt, hu, hoff] at h1
  refine ho h1 (field_weights ht hw j ?_ ?_)
  · rw [List.getElem?_map, Array.getElem?_toList, Array.getElem?_eq_getElem hj]; simp [hu]
  · rw [List.getElem?_map, List.getElem?_eq_getElem hlt]; rfl
end Go.Proofs.Ytnmlmbbacicojaa
namespace Go.Proofs.Ytnmlmbbacicojaa
set_option linter.unusedVariables false
set_option linter.unusedSimpArgs false
open Go.RowKit Go.Proofs.YtnmlmbbacicojaaW.PrintWords Go.Proofs.YtnmlmbbacicojaaW.PrintLast Go.Proofs.YtnmlmbbacicojaaW.PrintMore Go.Proofs.Ytnmlmbbacicojaa.PWalkSame

theorem bytes5 : Try.prog.bytesOf 5 = 1 := by kernel_rfl
theorem bytes35 : Try.prog.bytesOf 35 = 32 := by kernel_rfl
theorem bytes32 : Try.prog.bytesOf 32 = 24 := by kernel_rfl
theorem bytes30 : Try.prog.bytesOf 30 = 80 := by kernel_rfl
theorem cells30 : Try.prog.cellsOf 30 = 6 := by kernel_rfl
theorem cells32 : Try.prog.cellsOf 32 = 2 := by kernel_rfl
theorem cells35 : Try.prog.cellsOf 35 = 2 := by kernel_rfl
theorem cells3 : Try.prog.cellsOf 3 = 1 := by kernel_rfl
theorem cells9 : Try.prog.cellsOf 9 = 1 := by kernel_rfl
theorem cells33 : Try.prog.cellsOf 33 = 1 := by kernel_rfl
theorem cells27 : Try.prog.cellsOf 27 = 1 := by kernel_rfl
theorem cells28 : Try.prog.cellsOf 28 = 1 := by kernel_rfl
theorem cells5 : Try.prog.cellsOf 5 = 1 := by kernel_rfl

def PartOk (x : S35) : Prop := (Lit.int .i64 x.f0).wf = true ∧ (∀ b ∈ x.f1, (Lit.int .u8 b).wf = true) ∧ x.f1.length ≤ reachBytes
def EntOk (x : S32) : Prop := (Lit.int .i64 x.f0).wf = true ∧ x.f1.size ≤ reachBytes
def NodeOk (x : S30) : Prop := (Lit.int .i64 x.f0).wf = true ∧ (Lit.int .i64 x.f1).wf = true ∧ (Lit.int .i64 x.f2).wf = true ∧ (Lit.int .i64 x.f3).wf = true ∧ ((∀ p ∈ x.f4, PartOk p) ∧ x.f4.length * 32 ≤ reachBytes) ∧ ((∀ p ∈ x.f5, EntOk p) ∧ x.f5.length * 24 ≤ reachBytes)
def NodesOk (xs : List S30) : Prop := (∀ x ∈ xs, NodeOk x) ∧ xs.length * 80 ≤ reachBytes

theorem opens_bytes : Opens Try.prog 33 (Kd.slice 5 (Kd.int .u8)) (fun xs => (∀ x ∈ xs, (Lit.int .u8 x).wf = true) ∧ xs.length * Try.prog.bytesOf 5 ≤ reachBytes ∧ xs.length ≤ maxLen) := opens_slice Try.underlying33 (opens_int Try.underlying5) cells5 5
theorem opens_part : Opens Try.prog 35 k35 PartOk := by
  intro H enc w base spare held fuel cs x h hw
  obtain ⟨xs, n, _, rfl, hl, hlen, hf⟩ := DataW.trod_struct Try.underlying35 h
  obtain ⟨v0, k0, s0⟩ := opens_field Try.underlying35 (opens_int Try.underlying3) hf hw hlen 0 0 (by decide) rfl rfl
  obtain ⟨v1, k1, s1⟩ := opens_field Try.underlying35 opens_bytes hf hw hlen 1 1 (by decide) rfl rfl
  rw [cells35] at hl
  rw [cells3] at k0
  rw [cells33] at k1
  match cs, hl with
  | [c0, c1], _ =>
    have e0 : [c0] = [Value.int .i64 v0] := k0
    obtain ⟨A, c, e1, l1, g1⟩ := k1
    have e1' : [c1] = [Value.slice A v1.length c] := e1
    rw [List.singleton_inj] at e0 e1'
    subst e0
    subst e1'
    exact ⟨⟨v0, v1⟩, k35_mk w ⟨v0, v1⟩ l1 g1, s0, s1.1, by have := s1.2.1; rw [bytes5, Nat.mul_one] at this; exact this⟩
theorem opens_ent : Opens Try.prog 32 k32 EntOk := by
  intro H enc w base spare held fuel cs x h hw
  obtain ⟨xs, n, _, rfl, hl, hlen, hf⟩ := DataW.trod_struct Try.underlying32 h
  obtain ⟨v0, k0, s0⟩ := opens_field Try.underlying32 (opens_int Try.underlying3) hf hw hlen 0 0 (by decide) rfl rfl
  obtain ⟨v1, k1, s1⟩ := opens_field Try.underlying32 (opens_string Try.underlying9) hf hw hlen 1 1 (by decide) rfl rfl
  rw [cells32] at hl
  rw [cells3] at k0
  rw [cells9] at k1
  match cs, hl with
  | [c0, c1], _ =>
    have e0 : [c0] = [Value.int .i64 v0] := k0
    have e1 : [c1] = [Value.string v1] := k1
    rw [List.singleton_inj] at e0 e1
    subst e0
    subst e1
    exact ⟨⟨v0, v1⟩, k32_mk w ⟨v0, v1⟩, s0, s1⟩
theorem opens_parts : Opens Try.prog 27 (Kd.slice 35 k35) (fun xs => (∀ x ∈ xs, PartOk x) ∧ xs.length * Try.prog.bytesOf 35 ≤ reachBytes ∧ xs.length ≤ maxLen) := opens_slice Try.underlying27 opens_part cells35 35
theorem opens_ents : Opens Try.prog 28 (Kd.slice 32 k32) (fun xs => (∀ x ∈ xs, EntOk x) ∧ xs.length * Try.prog.bytesOf 32 ≤ reachBytes ∧ xs.length ≤ maxLen) := opens_slice Try.underlying28 opens_ent cells32 32
theorem opens_node : Opens Try.prog 30 k30 NodeOk := by
  intro H enc w base spare held fuel cs x h hw
  obtain ⟨xs, n, _, rfl, hl, hlen, hf⟩ := DataW.trod_struct Try.underlying30 h
  obtain ⟨v0, k0, s0⟩ := opens_field Try.underlying30 (opens_int Try.underlying3) hf hw hlen 0 0 (by decide) rfl rfl
  obtain ⟨v1, k1, s1⟩ := opens_field Try.underlying30 (opens_int Try.underlying3) hf hw hlen 1 1 (by decide) rfl rfl
  obtain ⟨v2, k2, s2⟩ := opens_field Try.underlying30 (opens_int Try.underlying3) hf hw hlen 2 2 (by decide) rfl rfl
  obtain ⟨v3, k3, s3⟩ := opens_field Try.underlying30 (opens_int Try.underlying3) hf hw hlen 3 3 (by decide) rfl rfl
  obtain ⟨v4, k4, s4⟩ := opens_field Try.underlying30 opens_parts hf hw hlen 4 4 (by decide) rfl rfl
  obtain ⟨v5, k5, s5⟩ := opens_field Try.underlying30 opens_ents hf hw hlen 5 5 (by decide) rfl rfl
  rw [cells30] at hl
  rw [cells3] at k0 k1 k2 k3
  rw [cells27] at k4
  rw [cells28] at k5
  match cs, hl with
  | [c0, c1, c2, c3, c4, c5], _ =>
    have e0 : [c0] = [Value.int .i64 v0] := k0
    have e1 : [c1] = [Value.int .i64 v1] := k1
    have e2 : [c2] = [Value.int .i64 v2] := k2
    have e3 : [c3] = [Value.int .i64 v3] := k3
    obtain ⟨A4, q4, e4, l4, g4⟩ := k4
    obtain ⟨A5, q5, e5, l5, g5⟩ := k5
    have e4' : [c4] = [Value.slice A4 v4.length q4] := e4
    have e5' : [c5] = [Value.slice A5 v5.length q5] := e5
    rw [List.singleton_inj] at e0 e1 e2 e3 e4' e5'
    subst e0
    subst e1
    subst e2
    subst e3
    subst e4'
    subst e5'
    rw [bytes35] at s4
    rw [bytes32] at s5
    exact ⟨⟨v0, v1, v2, v3, v4, v5⟩, k30_mk w ⟨v0, v1, v2, v3, v4, v5⟩ l4 g4 l5 g5, s0, s1, s2, s3, ⟨s4.1, s4.2.1⟩, ⟨s5.1, s5.2.1⟩⟩
theorem opens_nodes : Opens Try.prog 22 (Kd.slice 30 k30) NodesOk := by
  intro H enc w base spare held fuel cs x h hw
  obtain ⟨v, hK, hS⟩ := opens_slice Try.underlying22 opens_node cells30 30 h hw
  exact ⟨v, hK, hS.1, by have := hS.2.1; rw [bytes30] at this; exact this⟩
end Go.Proofs.Ytnmlmbbacicojaa
namespace Go.Proofs.Ytnmlmbbacicojaa
set_option linter.unusedVariables false
set_option linter.unusedSimpArgs false
open Go.RowKit Go.Proofs.YtnmlmbbacicojaaW.PrintWords Go.Proofs.YtnmlmbbacicojaaW.PrintLast Go.Proofs.YtnmlmbbacicojaaW.PrintMore Go.Proofs.Ytnmlmbbacicojaa.PWalkSame

theorem bytesEqual_c (A A' : Option Addr) (c c' : Nat) (xs ys : List Int) (w : World) (h1 : (Kd.int .u8).C w A xs.length xs) (h2 : (Kd.int .u8).C w A' ys.length ys) :
    Calls Try.prog 36 #[.slice A xs.length c, .slice A' ys.length c'] w fun e w' => e = .returned (.bool ((strOfNums xs).toList == (strOfNums ys).toList)) ∧ w = w' := by
  have hc1 := Kd.C_string (P := Try.prog) (c := c) Try.underlying33 Try.underlying5 Try.underlying9 h1
  have hc2 := Kd.C_string (P := Try.prog) (c := c') Try.underlying33 Try.underlying5 Try.underlying9 h2
  go_enter Try.func36, Try.ntmps36
  go_wp2
  go_ret
  exact ⟨rfl, rfl⟩
/-- are two parts one? -/
def partEq (x y : S35) : Bool := (x.f0 == y.f0) && ((strOfNums x.f1).toList == (strOfNums y.f1).toList)
theorem partEq_c (x y : S35) (A A' : Option Addr) (c c' : Nat) (w : World) (h1 : (Kd.int .u8).C w A x.f1.length x.f1) (h2 : (Kd.int .u8).C w A' y.f1.length y.f1) :
    Calls Try.prog 35 #[.agg #[.int .i64 x.f0, .slice A x.f1.length c], .agg #[.int .i64 y.f0, .slice A' y.f1.length c']] w fun e w' => e = .returned (.bool (partEq x y)) ∧ Below w.heap.size w w' := by
  by_cases e : x.f0 = y.f0
  · have e1 : (x.f0 == y.f0) = true := by simpa using e
    have e2 : partEq x y = ((strOfNums x.f1).toList == (strOfNums y.f1).toList) := by unfold partEq; rw [e1]; rfl
    rw [e2]
    clear e e2
    have H1 := hide h1
    have H2 := hide h2
    clear h1 h2
    go_enter Try.func35, Try.ntmps35
    go_wp2_with (go_at_call 36; refine (bytesEqual_c _ _ _ _ _ _ _ (Kd.C_below H1.out (((Below.refl _ w).alloc (Nat.le_refl _) _).alloc (by simp) _)) (Kd.C_below H2.out (((Below.refl _ w).alloc (Nat.le_refl _) _).alloc (by simp) _))).mono ?_; rintro e w' ⟨rfl, rfl⟩)
    go_ret
    exact ⟨by first | rfl | simp, ((Below.refl _ w).alloc (Nat.le_refl _) _).alloc (by simp) _⟩
  · have e1 : (x.f0 == y.f0) = false := by simpa using e
    have e2 : partEq x y = false := by unfold partEq; rw [e1]; rfl
    rw [e2]
    clear e e2 h1 h2
    go_enter Try.func35, Try.ntmps35
    go_wp2
    go_ret
    exact ⟨by first | rfl | simp, ((Below.refl _ w).alloc (Nat.le_refl _) _).alloc (by simp) _⟩
/-- are two lists one, element by element? -/
def eqL {α : Type} (f : α → α → Bool) (xs ys : List α) : Bool := (xs.length == ys.length) && (xs.zip ys).all fun p => f p.1 p.2

theorem eqL_len {α : Type} {f : α → α → Bool} {xs ys : List α} (h : (xs.length == ys.length) = false) : eqL f xs ys = false := by unfold eqL; rw [h]; rfl
theorem eqL_bad {α : Type} {f : α → α → Bool} {xs ys : List α} (k : Nat) (hk : k < xs.length) (hk' : k < ys.length) (h : f (xs[k]) (ys[k]) = false) : eqL f xs ys = false := by
  unfold eqL
  rw [Bool.and_eq_false_iff]
  refine .inr ?_
  rw [List.all_eq_false]
  refine ⟨(xs[k], ys[k]), ?_, by simp [h]⟩
  have : (xs.zip ys)[k]'(by rw [List.length_zip]; omega) = (xs[k], ys[k]) := List.getElem_zip
  rw [← this]; exact List.getElem_mem _
theorem eqL_good {α : Type} {f : α → α → Bool} {xs ys : List α} (hl : (xs.length == ys.length) = true) (h : ∀ k (hk : k < xs.length) (hk' : k < ys.length), f (xs[k]) (ys[k]) = true) : eqL f xs ys = true := by
  unfold eqL
  rw [hl, Bool.true_and, List.all_eq_true]
  intro p hp
  obtain ⟨k, hk, rfl⟩ := List.getElem_of_mem hp
  rw [List.getElem_zip]
  rw [List.length_zip] at hk
  exact h k (by omega) (by omega)

set_option maxHeartbeats 1000000 in
set_option maxRecDepth 100000 in
theorem partsEq_c (A A' : Option Addr) (c c' : Nat) (xs ys : List S35) (w : World) (h1 : Kd.C k35 w A xs.length xs) (hc : xs.length ≤ c) (h2 : Kd.C k35 w A' ys.length ys) (hc' : ys.length ≤ c') (hl : xs.length ≤ 9223372036854775807) :
    Calls Try.prog 34 #[.slice A xs.length c, .slice A' ys.length c', .func (.func 35) #[] #[]] w fun e w' => e = .returned (.bool (eqL partEq xs ys)) ∧ Below w.heap.size w w' := by
  have H1 := hide h1
  have H2 := hide h2
  clear h1 h2
  by_cases e : xs.length = ys.length
  · have e1 : ((xs.length : Int) == (ys.length : Int)) = true := by rw [e]; simp
    have e2 : ((xs.length : Int) != (ys.length : Int)) = false := by rw [e]; simp
    have e3 : (xs.length : Int) ≤ (ys.length : Int) := by omega
    have e4 : (ys.length : Int) ≤ (xs.length : Int) := by omega
    have E2 := hide (show (xs.length == ys.length) = true by simpa using e)
    clear e
    go_enter Try.func34, Try.ntmps34
    go_wp2
    go_loopw [17] (fun i wr => ∃ k : Nat, k ≤ xs.length ∧ i = .int .i64 k ∧ Below w.heap.size w wr ∧ ∀ j (hj : j < xs.length) (hj' : j < ys.length), j < k → partEq xs[j] ys[j] = true) (fun i _ => xs.length - (intOf i).toNat)
    case atStart => exact ⟨0, by omega, rfl, Below.refl _ _, fun j _ _ h => absurd h (by omega)⟩
    case round =>
      obtain ⟨k, hk, rfl, hbr, hall⟩ := hrel
      have HA := hide hall
      clear hall
      by_cases hlt : k < xs.length
      · have hlt' : k < ys.length := by omega
        obtain ⟨ad, A1, c1, e5, x0, x1, l1, g1⟩ := at_T35 H1.out (k : Int) (by omega) (by omega)
        obtain ⟨ad', A2, c2, e6, y0, y1, l2, g2⟩ := at_T35 H2.out (k : Int) (by omega) (by omega)
        have ex : rd_T35 xs (k : Int) = xs[k] := by unfold rd_T35; simp [hlt]
        have ey : rd_T35 ys (k : Int) = ys[k] := by unfold rd_T35; simp [hlt']
        rw [ex] at x0 x1 g1
        rw [ey] at y0 y1 g2
        rw [Int.toNat_natCast] at x0 x1 y0 y1
        subst e5
        subst e6
        replace x0 := (hbr.cell (World.block_lt_of_cell? w _ x0)).trans x0
        replace x1 := (hbr.cell (World.block_lt_of_cell? w _ x1)).trans x1
        replace y0 := (hbr.cell (World.block_lt_of_cell? w _ y0)).trans y0
        replace y1 := (hbr.cell (World.block_lt_of_cell? w _ y1)).trans y1
        have G1 := hide g1
        have G2 := hide g2
        generalize hx : xs[k] = x at x0 x1 G1
        generalize hy : ys[k] = y at y0 y1 G2
        clear g1 g2 ex ey l1 l2
        have HX := hide hx
        have HY := hide hy
        clear hx hy
        have bA : Below wr.heap.size wr (wr.alloc (.cells #[.int .i64 x.f0, .slice A1 x.f1.length c1] 35)) := (Below.refl _ wr).alloc (Nat.le_refl _) _
        replace y0 := (bA.cell (World.block_lt_of_cell? wr _ y0)).trans y0
        replace y1 := (bA.cell (World.block_lt_of_cell? wr _ y1)).trans y1
        have HBA := hide (hbr.trans ((bA.alloc (by simp) (.cells #[.int .i64 y.f0, .slice A2 y.f1.length c2] 35)).mono hbr.size))
        clear bA
        cases hq : partEq x y with
        | true =>
          have HC := hide (hq ▸ partEq_c x y A1 A2 c1 c2 _ (Kd.C_below G1.out HBA.out) (Kd.C_below G2.out HBA.out))
          have HQ := hide hq
          clear hq
          go_wp2_with (go_at_call 35; refine HC.out.mono ?_; rintro e w3 ⟨rfl, hb3⟩)
          go_roundw
          case rel => exact ⟨k + 1, by omega, by go_num, HBA.out.trans (hb3.mono HBA.out.size), fun j hj hj' hjk => by
            by_cases e : j = k
            · subst e; rw [HX.out, HY.out]; exact HQ.out
            · exact HA.out j hj hj' (by omega)⟩
          case measure => simp [intOf]; omega
        | false =>
          have HC := hide (hq ▸ partEq_c x y A1 A2 c1 c2 _ (Kd.C_below G1.out HBA.out) (Kd.C_below G2.out HBA.out))
          have HE := hide (eqL_bad (f := partEq) k hlt hlt' (by rw [HX.out, HY.out]; exact hq))
          clear hq
          go_wp2_with (go_at_call 35; refine HC.out.mono ?_; rintro e w3 ⟨rfl, hb3⟩)
          go_ret
          exact ⟨by rw [HE.out]; first | rfl | simp, HBA.out.trans (hb3.mono HBA.out.size)⟩
      · have hkn : xs.length ≤ k := by omega
        have HE := hide (eqL_good (f := partEq) E2.out (fun j hj hj' => HA.out j hj hj' (by omega)))
        go_wp2
        go_ret
        exact ⟨by rw [HE.out]; first | rfl | simp, hbr⟩
  · have e1 : ((xs.length : Int) == (ys.length : Int)) = false := by rw [beq_eq_false_iff_ne]; omega
    have e2 : ((xs.length : Int) != (ys.length : Int)) = true := by rw [bne_iff_ne]; omega
    have HE := hide (eqL_len (f := partEq) (show (xs.length == ys.length) = false by simpa using e))
    clear e
    go_enter Try.func34, Try.ntmps34
    go_wp2
    go_ret
    exact ⟨by rw [HE.out]; first | rfl | simp, Below.refl _ _⟩
end Go.Proofs.Ytnmlmbbacicojaa
namespace Go.Proofs.Ytnmlmbbacicojaa
set_option linter.unusedVariables false
set_option linter.unusedSimpArgs false
open Go.RowKit Go.Proofs.YtnmlmbbacicojaaW.PrintWords Go.Proofs.YtnmlmbbacicojaaW.PrintLast Go.Proofs.YtnmlmbbacicojaaW.PrintMore Go.Proofs.Ytnmlmbbacicojaa.PWalkSame

def entEq (x y : S32) : Bool := (x.f0 == y.f0) && (x.f1.toList == y.f1.toList)
theorem wrap_succ (i : Nat) (h : i ≤ 9223372036854775806) : wrap64 ((i : Int) + 1) = ((i + 1 : Nat) : Int) := by unfold wrap64; omega
theorem ents_ev (a b : List S32) (hab : a.length = b.length) (hl : a.length ≤ 9223372036854775807) (d : Nat) : ∀ i : Nat, i + d = a.length → (∀ j (h : j < a.length) (h' : j < b.length), j < i → entEq a[j] b[j] = true) → Ev (fun k => api_Entry.l0 k a b (a.length : Int) (i : Int)) (eqL entEq a b) := by
  induction d with
  | zero =>
    intro i hi ha
    rw [eqL_good (by simpa using hab) (fun k h h' => ha k h h' (by omega))]
    refine Ev.step (f := fun _ => some true) (fun k => ?_) (Ev.now _)
    simp only [api_Entry.l0]
    rw [if_neg (by omega)]
  | succ d ih =>
    intro i hi ha
    have hlt : i < a.length := by omega
    have hlt' : i < b.length := by omega
    have e1 : rd_T32 a (i : Int) = a[i] := by unfold rd_T32; simp [hlt]
    have e2 : rd_T32 b (i : Int) = b[i] := by unfold rd_T32; simp [hlt']
    have e3 : (!((a[i]).f0 == (b[i]).f0) || !((a[i]).f1.toList == (b[i]).f1.toList)) = !(entEq a[i] b[i]) := by unfold entEq; rw [Bool.not_and]
    cases hq : entEq a[i] b[i] with
    | true =>
      refine Ev.step (f := fun k => api_Entry.l0 k a b (a.length : Int) ((i + 1 : Nat) : Int)) (fun k => ?_) (ih (i + 1) (by omega) fun j h h' hj => by
        by_cases e : j = i
        · subst e; exact hq
        · exact ha j h h' (by omega))
      simp only [api_Entry.l0]
      rw [if_pos (by omega), if_pos (by omega), if_pos (by omega), if_pos (by omega), e1, e2, e3, hq, if_neg (by simp), wrap_succ i (by omega)]
    | false =>
      rw [eqL_bad i hlt hlt' hq]
      refine Ev.step (f := fun _ => some false) (fun k => ?_) (Ev.now _)
      simp only [api_Entry.l0]
      rw [if_pos (by omega), if_pos (by omega), if_pos (by omega), if_pos (by omega), e1, e2, e3, hq, if_pos (by simp)]
theorem entsR (a b : List S32) (hl : a.length ≤ 9223372036854775807) : Ev (fun k => api_Entry.f k a b) (eqL entEq a b) := by
  by_cases e : a.length = b.length
  · refine Ev.congr (f := fun k => api_Entry.l0 k a b (a.length : Int) 0) (fun k => ?_) (ents_ev a b e hl a.length 0 (by omega) (fun j _ _ h => absurd h (by omega)))
    unfold api_Entry.f
    rw [if_pos (by omega)]
  · rw [eqL_len (by simpa using e)]
    refine Ev.congr (f := fun _ => some false) (fun k => ?_) (Ev.now _)
    unfold api_Entry.f
    rw [if_neg (by omega)]
theorem entsEq_c (A A' : Option Addr) (c c' : Nat) (xs ys : List S32) (w : World) (h1 : Kd.C k32 w A xs.length xs) (hc : xs.length ≤ c) (h2 : Kd.C k32 w A' ys.length ys) (hc' : ys.length ≤ c') (hl : xs.length ≤ 9223372036854775807) :
    Calls Try.prog 33 #[.slice A xs.length c, .slice A' ys.length c'] w fun e w' => e = .returned (.bool (eqL entEq xs ys)) ∧ Below w.heap.size w w' := by
  obtain ⟨k, hk⟩ := (entsR xs ys hl).rounds
  exact (api_Entry.calls k A c xs A' c' ys _ w h1 hc h2 hc' hk).mono fun e w' ⟨he, hd⟩ => ⟨he, by obtain ⟨q, rfl⟩ := hd.out; exact below_drewN (Below.refl _ _) q⟩
/-- are two nodes one? -/
def nodeEq (x y : S30) : Bool := (x.f0 == y.f0) && ((x.f1 == y.f1) && ((x.f2 == y.f2) && ((x.f3 == y.f3) && (eqL entEq x.f5 y.f5 && eqL partEq x.f4 y.f4))))
def Mod (x : S30) : Prop := x.f4.length ≤ 9223372036854775807 ∧ x.f5.length ≤ 9223372036854775807
def nodeV (x : S30) (A4 : Option Addr) (c4 : Nat) (A5 : Option Addr) (c5 : Nat) : Value := .agg #[.int .i64 x.f0, .int .i64 x.f1, .int .i64 x.f2, .int .i64 x.f3, .slice A4 x.f4.length c4, .slice A5 x.f5.length c5]

set_option maxHeartbeats 1000000 in
set_option maxRecDepth 100000 in
theorem nodeEq_f0 (x y : S30) (A4 A4' A5 A5' : Option Addr) (c4 c4' c5 c5' : Nat) (w : World) (hm : Mod x) (h4 : k35.C w A4 x.f4.length x.f4) (h4' : k35.C w A4' y.f4.length y.f4) (h5 : k32.C w A5 x.f5.length x.f5) (h5' : k32.C w A5' y.f5.length y.f5) (l4 : x.f4.length ≤ c4) (l4' : y.f4.length ≤ c4') (l5 : x.f5.length ≤ c5) (l5' : y.f5.length ≤ c5') (e0 : x.f0 ≠ y.f0) :
    Calls Try.prog 23 #[.agg #[.int .i64 x.f0, .int .i64 x.f1, .int .i64 x.f2, .int .i64 x.f3, .slice A4 x.f4.length c4, .slice A5 x.f5.length c5], .agg #[.int .i64 y.f0, .int .i64 y.f1, .int .i64 y.f2, .int .i64 y.f3, .slice A4' y.f4.length c4', .slice A5' y.f5.length c5']] w fun e w' => e = .returned (.bool (nodeEq x y)) ∧ Below w.heap.size w w' := by
  have b0 : (x.f0 == y.f0) = false := by simpa using e0
  have d0 : (x.f0 != y.f0) = true := by simpa using e0
  have HE := hide (show nodeEq x y = false by unfold nodeEq; simp [b0])
  clear hm h4 h4' h5 h5' l4 l4' l5 l5' e0
  go_enter Try.func23, Try.ntmps23
  go_wp2
  go_ret
  exact ⟨by rw [HE.out]; first | rfl | simp, ((Below.refl _ w).alloc (Nat.le_refl _) _).alloc (by simp) _⟩
set_option maxHeartbeats 1000000 in
set_option maxRecDepth 100000 in
theorem nodeEq_f1 (x y : S30) (A4 A4' A5 A5' : Option Addr) (c4 c4' c5 c5' : Nat) (w : World) (hm : Mod x) (h4 : k35.C w A4 x.f4.length x.f4) (h4' : k35.C w A4' y.f4.length y.f4) (h5 : k32.C w A5 x.f5.length x.f5) (h5' : k32.C w A5' y.f5.length y.f5) (l4 : x.f4.length ≤ c4) (l4' : y.f4.length ≤ c4') (l5 : x.f5.length ≤ c5) (l5' : y.f5.length ≤ c5') (e0 : x.f0 = y.f0) (e1 : x.f1 ≠ y.f1) :
    Calls Try.prog 23 #[.agg #[.int .i64 x.f0, .int .i64 x.f1, .int .i64 x.f2, .int .i64 x.f3, .slice A4 x.f4.length c4, .slice A5 x.f5.length c5], .agg #[.int .i64 y.f0, .int .i64 y.f1, .int .i64 y.f2, .int .i64 y.f3, .slice A4' y.f4.length c4', .slice A5' y.f5.length c5']] w fun e w' => e = .returned (.bool (nodeEq x y)) ∧ Below w.heap.size w w' := by
  have b0 : (x.f0 == y.f0) = true := by simpa using e0
  have d0 : (x.f0 != y.f0) = false := by simpa using e0
  have b1 : (x.f1 == y.f1) = false := by simpa using e1
  have d1 : (x.f1 != y.f1) = true := by simpa using e1
  have HE := hide (show nodeEq x y = false by unfold nodeEq; simp [b0, b1])
  clear hm h4 h4' h5 h5' l4 l4' l5 l5' e0 e1
  go_enter Try.func23, Try.ntmps23
  go_wp2
  go_ret
  exact ⟨by rw [HE.out]; first | rfl | simp, ((Below.refl _ w).alloc (Nat.le_refl _) _).alloc (by simp) _⟩
set_option maxHeartbeats 1000000 in
set_option maxRecDepth 100000 in
theorem nodeEq_f2 (x y : S30) (A4 A4' A5 A5' : Option Addr) (c4 c4' c5 c5' : Nat) (w : World) (hm : Mod x) (h4 : k35.C w A4 x.f4.length x.f4) (h4' : k35.C w A4' y.f4.length y.f4) (h5 : k32.C w A5 x.f5.length x.f5) (h5' : k32.C w A5' y.f5.length y.f5) (l4 : x.f4.length ≤ c4) (l4' : y.f4.length ≤ c4') (l5 : x.f5.length ≤ c5) (l5' : y.f5.length ≤ c5') (e0 : x.f0 = y.f0) (e1 : x.f1 = y.f1) (e2 : x.f2 ≠ y.f2) :
    Calls Try.prog 23 #[.agg #[.int .i64 x.f0, .int .i64 x.f1, .int .i64 x.f2, .int .i64 x.f3, .slice A4 x.f4.length c4, .slice A5 x.f5.length c5], .agg #[.int .i64 y.f0, .int .i64 y.f1, .int .i64 y.f2, .int .i64 y.f3, .slice A4' y.f4.length c4', .slice A5' y.f5.length c5']] w fun e w' => e = .returned (.bool (nodeEq x y)) ∧ Below w.heap.size w w' := by
  have b0 : (x.f0 == y.f0) = true := by simpa using e0
  have d0 : (x.f0 != y.f0) = false := by simpa using e0
  have b1 : (x.f1 == y.f1) = true := by simpa using e1
  have d1 : (x.f1 != y.f1) = false := by simpa using e1
  have b2 : (x.f2 == y.f2) = false := by simpa using e2
  have d2 : (x.f2 != y.f2) = true := by simpa using e2
  have HE := hide (show nodeEq x y = false by unfold nodeEq; simp [b0, b1, b2])
  clear hm h4 h4' h5 h5' l4 l4' l5 l5' e0 e1 e2
  go_enter Try.func23, Try.ntmps23
  go_wp2
  go_ret
  exact ⟨by rw [HE.out]; first | rfl | simp, ((Below.refl _ w).alloc (Nat.le_refl _) _).alloc (by simp) _⟩
set_option maxHeartbeats 1000000 in
set_option maxRecDepth 100000 in
theorem nodeEq_f3 (x y : S30) (A4 A4' A5 A5' : Option Addr) (c4 c4' c5 c5' : Nat) (w : World) (hm : Mod x) (h4 : k35.C w A4 x.f4.length x.f4) (h4' : k35.C w A4' y.f4.length y.f4) (h5 : k32.C w A5 x.f5.length x.f5) (h5' : k32.C w A5' y.f5.length y.f5) (l4 : x.f4.length ≤ c4) (l4' : y.f4.length ≤ c4') (l5 : x.f5.length ≤ c5) (l5' : y.f5.length ≤ c5') (e0 : x.f0 = y.f0) (e1 : x.f1 = y.f1) (e2 : x.f2 = y.f2) (e3 : x.f3 ≠ y.f3) :
    Calls Try.prog 23 #[.agg #[.int .i64 x.f0, .int .i64 x.f1, .int .i64 x.f2, .int .i64 x.f3, .slice A4 x.f4.length c4, .slice A5 x.f5.length c5], .agg #[.int .i64 y.f0, .int .i64 y.f1, .int .i64 y.f2, .int .i64 y.f3, .slice A4' y.f4.length c4', .slice A5' y.f5.length c5']] w fun e w' => e = .returned (.bool (nodeEq x y)) ∧ Below w.heap.size w w' := by
  have b0 : (x.f0 == y.f0) = true := by simpa using e0
  have d0 : (x.f0 != y.f0) = false := by simpa using e0
  have b1 : (x.f1 == y.f1) = true := by simpa using e1
  have d1 : (x.f1 != y.f1) = false := by simpa using e1
  have b2 : (x.f2 == y.f2) = true := by simpa using e2
  have d2 : (x.f2 != y.f2) = false := by simpa using e2
  have b3 : (x.f3 == y.f3) = false := by simpa using e3
  have d3 : (x.f3 != y.f3) = true := by simpa using e3
  have HE := hide (show nodeEq x y = false by unfold nodeEq; simp [b0, b1, b2, b3])
  clear hm h4 h4' h5 h5' l4 l4' l5 l5' e0 e1 e2 e3
  go_enter Try.func23, Try.ntmps23
  go_wp2
  go_ret
  exact ⟨by rw [HE.out]; first | rfl | simp, ((Below.refl _ w).alloc (Nat.le_refl _) _).alloc (by simp) _⟩
set_option maxHeartbeats 1000000 in
set_option maxRecDepth 100000 in
theorem nodeEq_g (x y : S30) (A4 A4' A5 A5' : Option Addr) (c4 c4' c5 c5' : Nat) (w : World) (hm : Mod x) (h4 : k35.C w A4 x.f4.length x.f4) (h4' : k35.C w A4' y.f4.length y.f4) (h5 : k32.C w A5 x.f5.length x.f5) (h5' : k32.C w A5' y.f5.length y.f5) (l4 : x.f4.length ≤ c4) (l4' : y.f4.length ≤ c4') (l5 : x.f5.length ≤ c5) (l5' : y.f5.length ≤ c5') (e0 : x.f0 = y.f0) (e1 : x.f1 = y.f1) (e2 : x.f2 = y.f2) (e3 : x.f3 = y.f3) (hq : eqL entEq x.f5 y.f5 = false) :
    Calls Try.prog 23 #[.agg #[.int .i64 x.f0, .int .i64 x.f1, .int .i64 x.f2, .int .i64 x.f3, .slice A4 x.f4.length c4, .slice A5 x.f5.length c5], .agg #[.int .i64 y.f0, .int .i64 y.f1, .int .i64 y.f2, .int .i64 y.f3, .slice A4' y.f4.length c4', .slice A5' y.f5.length c5']] w fun e w' => e = .returned (.bool (nodeEq x y)) ∧ Below w.heap.size w w' := by
  have b0 : (x.f0 == y.f0) = true := by simpa using e0
  have d0 : (x.f0 != y.f0) = false := by simpa using e0
  have b1 : (x.f1 == y.f1) = true := by simpa using e1
  have d1 : (x.f1 != y.f1) = false := by simpa using e1
  have b2 : (x.f2 == y.f2) = true := by simpa using e2
  have d2 : (x.f2 != y.f2) = false := by simpa using e2
  have b3 : (x.f3 == y.f3) = true := by simpa using e3
  have d3 : (x.f3 != y.f3) = false := by simpa using e3
  have HE := hide (show nodeEq x y = false by unfold nodeEq; simp [b0, b1, b2, b3, hq])
  have HC := hide (fun W (hb : Below w.heap.size w W) => hq ▸ entsEq_c A5 A5' c5 c5' x.f5 y.f5 W (Kd.C_below h5 hb) l5 (Kd.C_below h5' hb) l5' hm.2)
  have HD := hide (fun W (hb : Below w.heap.size w W) => partsEq_c A4 A4' c4 c4' x.f4 y.f4 W (Kd.C_below h4 hb) l4 (Kd.C_below h4' hb) l4' hm.1)
  clear hm h4 h4' h5 h5' l4 l4' l5 l5' e0 e1 e2 e3 hq
  go_enter Try.func23, Try.ntmps23
  go_wp2_with (go_at_call 33; refine (HC.out _ (((Below.refl _ w).alloc (Nat.le_refl _) _).alloc (by simp) _)).mono ?_; rintro e w3 ⟨rfl, hb3⟩)
  go_ret
  exact ⟨by rw [HE.out]; first | rfl | simp, (((Below.refl _ w).alloc (Nat.le_refl _) _).alloc (by simp) _).trans (hb3.mono (by simp; omega))⟩
set_option maxHeartbeats 1000000 in
set_option maxRecDepth 100000 in
theorem nodeEq_h (x y : S30) (A4 A4' A5 A5' : Option Addr) (c4 c4' c5 c5' : Nat) (w : World) (hm : Mod x) (h4 : k35.C w A4 x.f4.length x.f4) (h4' : k35.C w A4' y.f4.length y.f4) (h5 : k32.C w A5 x.f5.length x.f5) (h5' : k32.C w A5' y.f5.length y.f5) (l4 : x.f4.length ≤ c4) (l4' : y.f4.length ≤ c4') (l5 : x.f5.length ≤ c5) (l5' : y.f5.length ≤ c5') (e0 : x.f0 = y.f0) (e1 : x.f1 = y.f1) (e2 : x.f2 = y.f2) (e3 : x.f3 = y.f3) (hq : eqL entEq x.f5 y.f5 = true) :
    Calls Try.prog 23 #[.agg #[.int .i64 x.f0, .int .i64 x.f1, .int .i64 x.f2, .int .i64 x.f3, .slice A4 x.f4.length c4, .slice A5 x.f5.length c5], .agg #[.int .i64 y.f0, .int .i64 y.f1, .int .i64 y.f2, .int .i64 y.f3, .slice A4' y.f4.length c4', .slice A5' y.f5.length c5']] w fun e w' => e = .returned (.bool (nodeEq x y)) ∧ Below w.heap.size w w' := by
  have b0 : (x.f0 == y.f0) = true := by simpa using e0
  have d0 : (x.f0 != y.f0) = false := by simpa using e0
  have b1 : (x.f1 == y.f1) = true := by simpa using e1
  have d1 : (x.f1 != y.f1) = false := by simpa using e1
  have b2 : (x.f2 == y.f2) = true := by simpa using e2
  have d2 : (x.f2 != y.f2) = false := by simpa using e2
  have b3 : (x.f3 == y.f3) = true := by simpa using e3
  have d3 : (x.f3 != y.f3) = false := by simpa using e3
  have HE := hide (show nodeEq x y = eqL partEq x.f4 y.f4 by unfold nodeEq; simp [b0, b1, b2, b3, hq])
  have HC := hide (fun W (hb : Below w.heap.size w W) => hq ▸ entsEq_c A5 A5' c5 c5' x.f5 y.f5 W (Kd.C_below h5 hb) l5 (Kd.C_below h5' hb) l5' hm.2)
  have HD := hide (fun W (hb : Below w.heap.size w W) => partsEq_c A4 A4' c4 c4' x.f4 y.f4 W (Kd.C_below h4 hb) l4 (Kd.C_below h4' hb) l4' hm.1)
  clear hm h4 h4' h5 h5' l4 l4' l5 l5' e0 e1 e2 e3 hq
  go_enter Try.func23, Try.ntmps23
  go_upto_region 3 with (go_at_call 33; refine (HC.out _ (((Below.refl _ w).alloc (Nat.le_refl _) _).alloc (by simp) _)).mono ?_; rintro e w3 ⟨rfl, hb3⟩)
  have z1 : w3.cell? ⟨w.heap.size, 4, none⟩ = some (.slice A4 x.f4.length c4) := (hb3.cell (by simp; omega)).trans (by first | (go_simp; done) | rfl | simp [World.cell?])
  have z2 : w3.cell? ⟨w.heap.size + 1, 4, none⟩ = some (.slice A4' y.f4.length c4') := (hb3.cell (by simp)).trans (by first | (go_simp; done) | rfl | simp [World.cell?])
  go_wp2_with (go_at_call 34; refine (HD.out _ ((((Below.refl _ w).alloc (Nat.le_refl _) _).alloc (by simp) _).trans (hb3.mono (by simp; omega)))).mono ?_; rintro e w4 ⟨rfl, hb4⟩)
  go_ret
  exact ⟨by rw [HE.out]; first | rfl | simp, ((((Below.refl _ w).alloc (Nat.le_refl _) _).alloc (by simp) _).trans (hb3.mono (by simp; omega))).trans (hb4.mono (by have := hb3.size; simp at this; omega))⟩
theorem nodeEq_c (x y : S30) (A4 A4' A5 A5' : Option Addr) (c4 c4' c5 c5' : Nat) (w : World) (hm : Mod x) (h4 : k35.C w A4 x.f4.length x.f4) (h4' : k35.C w A4' y.f4.length y.f4) (h5 : k32.C w A5 x.f5.length x.f5) (h5' : k32.C w A5' y.f5.length y.f5) (l4 : x.f4.length ≤ c4) (l4' : y.f4.length ≤ c4') (l5 : x.f5.length ≤ c5) (l5' : y.f5.length ≤ c5') :
    Calls Try.prog 23 #[.agg #[.int .i64 x.f0, .int .i64 x.f1, .int .i64 x.f2, .int .i64 x.f3, .slice A4 x.f4.length c4, .slice A5 x.f5.length c5], .agg #[.int .i64 y.f0, .int .i64 y.f1, .int .i64 y.f2, .int .i64 y.f3, .slice A4' y.f4.length c4', .slice A5' y.f5.length c5']] w fun e w' => e = .returned (.bool (nodeEq x y)) ∧ Below w.heap.size w w' := by
  by_cases e0 : x.f0 = y.f0
  · by_cases e1 : x.f1 = y.f1
    · by_cases e2 : x.f2 = y.f2
      · by_cases e3 : x.f3 = y.f3
        · cases hq : eqL entEq x.f5 y.f5 with
          | true => exact nodeEq_h x y A4 A4' A5 A5' c4 c4' c5 c5' w hm h4 h4' h5 h5' l4 l4' l5 l5' e0 e1 e2 e3 hq
          | false => exact nodeEq_g x y A4 A4' A5 A5' c4 c4' c5 c5' w hm h4 h4' h5 h5' l4 l4' l5 l5' e0 e1 e2 e3 hq
        · exact nodeEq_f3 x y A4 A4' A5 A5' c4 c4' c5 c5' w hm h4 h4' h5 h5' l4 l4' l5 l5' e0 e1 e2 e3
      · exact nodeEq_f2 x y A4 A4' A5 A5' c4 c4' c5 c5' w hm h4 h4' h5 h5' l4 l4' l5 l5' e0 e1 e2
    · exact nodeEq_f1 x y A4 A4' A5 A5' c4 c4' c5 c5' w hm h4 h4' h5 h5' l4 l4' l5 l5' e0 e1
  · exact nodeEq_f0 x y A4 A4' A5 A5' c4 c4' c5 c5' w hm h4 h4' h5 h5' l4 l4' l5 l5' e0
set_option maxHeartbeats 1000000 in
set_option maxRecDepth 100000 in
theorem nodesEq_c (A A' : Option Addr) (c c' : Nat) (xs ys : List S30) (w : World) (h1 : Kd.C k30 w A xs.length xs) (hc : xs.length ≤ c) (h2 : Kd.C k30 w A' ys.length ys) (hc' : ys.length ≤ c') (hl : xs.length ≤ 9223372036854775807) (hm : ∀ x ∈ xs, Mod x) :
    Calls Try.prog 22 #[.slice A xs.length c, .slice A' ys.length c', .func (.func 23) #[] #[]] w fun e w' => e = .returned (.bool (eqL nodeEq xs ys)) ∧ Below w.heap.size w w' := by
  have H1 := hide h1
  have H2 := hide h2
  clear h1 h2
  by_cases e : xs.length = ys.length
  · have e1 : ((xs.length : Int) == (ys.length : Int)) = true := by rw [e]; simp
    have e2 : ((xs.length : Int) != (ys.length : Int)) = false := by rw [e]; simp
    have e3 : (xs.length : Int) ≤ (ys.length : Int) := by omega
    have e4 : (ys.length : Int) ≤ (xs.length : Int) := by omega
    have E2 := hide (show (xs.length == ys.length) = true by simpa using e)
    clear e
    go_enter Try.func22, Try.ntmps22
    go_wp2
    go_loopw [17] (fun i wr => ∃ k : Nat, k ≤ xs.length ∧ i = .int .i64 k ∧ Below w.heap.size w wr ∧ ∀ j (hj : j < xs.length) (hj' : j < ys.length), j < k → nodeEq xs[j] ys[j] = true) (fun i _ => xs.length - (intOf i).toNat)
    case atStart => exact ⟨0, by omega, rfl, Below.refl _ _, fun j _ _ h => absurd h (by omega)⟩
    case round =>
      obtain ⟨k, hk, rfl, hbr, hall⟩ := hrel
      have HA := hide hall
      clear hall
      by_cases hlt : k < xs.length
      · have hlt' : k < ys.length := by omega
        obtain ⟨ad, A4, c4, A5, c5, e5, x0, x1, x2, x3, x4, x5, l4, g4, l5, g5⟩ := at_T30 H1.out (k : Int) (by omega) (by omega)
        obtain ⟨ad', A4', c4', A5', c5', e6, y0, y1, y2, y3, y4, y5, l4', g4', l5', g5'⟩ := at_T30 H2.out (k : Int) (by omega) (by omega)
        have ex : rd_T30 xs (k : Int) = xs[k] := by unfold rd_T30; simp [hlt]
        have ey : rd_T30 ys (k : Int) = ys[k] := by unfold rd_T30; simp [hlt']
        rw [ex] at x0 x1 x2 x3 x4 x5 l4 g4 l5 g5
        rw [ey] at y0 y1 y2 y3 y4 y5 l4' g4' l5' g5'
        rw [Int.toNat_natCast] at x0 x1 x2 x3 x4 x5 y0 y1 y2 y3 y4 y5
        subst e5
        subst e6
        replace x0 := (hbr.cell (World.block_lt_of_cell? w _ x0)).trans x0
        replace x1 := (hbr.cell (World.block_lt_of_cell? w _ x1)).trans x1
        replace x2 := (hbr.cell (World.block_lt_of_cell? w _ x2)).trans x2
        replace x3 := (hbr.cell (World.block_lt_of_cell? w _ x3)).trans x3
        replace x4 := (hbr.cell (World.block_lt_of_cell? w _ x4)).trans x4
        replace x5 := (hbr.cell (World.block_lt_of_cell? w _ x5)).trans x5
        replace y0 := (hbr.cell (World.block_lt_of_cell? w _ y0)).trans y0
        replace y1 := (hbr.cell (World.block_lt_of_cell? w _ y1)).trans y1
        replace y2 := (hbr.cell (World.block_lt_of_cell? w _ y2)).trans y2
        replace y3 := (hbr.cell (World.block_lt_of_cell? w _ y3)).trans y3
        replace y4 := (hbr.cell (World.block_lt_of_cell? w _ y4)).trans y4
        replace y5 := (hbr.cell (World.block_lt_of_cell? w _ y5)).trans y5
        have hmx := hm xs[k] (List.getElem_mem hlt)
        clear hm
        have G4 := hide g4
        have L4 := hide l4
        have G4' := hide g4'
        have L4' := hide l4'
        have G5 := hide g5
        have L5 := hide l5
        have G5' := hide g5'
        have L5' := hide l5'
        have HM := hide hmx
        clear g4 g4' g5 g5' l4 l4' l5 l5' hmx ex ey
        generalize hx : xs[k] = x at x0 x1 x2 x3 x4 x5 G4 G5 L4 L5 HM
        generalize hy : ys[k] = y at y0 y1 y2 y3 y4 y5 G4' G5' L4' L5'
        have HX := hide hx
        have HY := hide hy
        clear hx hy
        have bA : Below wr.heap.size wr (wr.alloc (.cells #[.int .i64 x.f0, .int .i64 x.f1, .int .i64 x.f2, .int .i64 x.f3, .slice A4 x.f4.length c4, .slice A5 x.f5.length c5] 30)) := (Below.refl _ wr).alloc (Nat.le_refl _) _
        replace y0 := (bA.cell (World.block_lt_of_cell? wr _ y0)).trans y0
        replace y1 := (bA.cell (World.block_lt_of_cell? wr _ y1)).trans y1
        replace y2 := (bA.cell (World.block_lt_of_cell? wr _ y2)).trans y2
        replace y3 := (bA.cell (World.block_lt_of_cell? wr _ y3)).trans y3
        replace y4 := (bA.cell (World.block_lt_of_cell? wr _ y4)).trans y4
        replace y5 := (bA.cell (World.block_lt_of_cell? wr _ y5)).trans y5
        have HBA := hide (hbr.trans ((bA.alloc (by simp) (.cells #[.int .i64 y.f0, .int .i64 y.f1, .int .i64 y.f2, .int .i64 y.f3, .slice A4' y.f4.length c4', .slice A5' y.f5.length c5'] 30)).mono hbr.size))
        clear bA
        cases hq : nodeEq x y with
        | true =>
          have HC := hide (hq ▸ nodeEq_c x y A4 A4' A5 A5' c4 c4' c5 c5' _ HM.out (Kd.C_below G4.out HBA.out) (Kd.C_below G4'.out HBA.out) (Kd.C_below G5.out HBA.out) (Kd.C_below G5'.out HBA.out) L4.out L4'.out L5.out L5'.out)
          have HQ := hide hq
          clear hq
          go_wp2_with (go_at_call 23; refine HC.out.mono ?_; rintro e w3 ⟨rfl, hb3⟩)
          go_roundw
          case rel => exact ⟨k + 1, by omega, by go_num, HBA.out.trans (hb3.mono HBA.out.size), fun j hj hj' hjk => by
            by_cases e : j = k
            · subst e; rw [HX.out, HY.out]; exact HQ.out
            · exact HA.out j hj hj' (by omega)⟩
          case measure => simp [intOf]; omega
        | false =>
          have HC := hide (hq ▸ nodeEq_c x y A4 A4' A5 A5' c4 c4' c5 c5' _ HM.out (Kd.C_below G4.out HBA.out) (Kd.C_below G4'.out HBA.out) (Kd.C_below G5.out HBA.out) (Kd.C_below G5'.out HBA.out) L4.out L4'.out L5.out L5'.out)
          have HE := hide (eqL_bad (f := nodeEq) k hlt hlt' (by rw [HX.out, HY.out]; exact hq))
          clear hq
          go_wp2_with (go_at_call 23; refine HC.out.mono ?_; rintro e w3 ⟨rfl, hb3⟩)
          go_ret
          exact ⟨by rw [HE.out]; first | rfl | simp, HBA.out.trans (hb3.mono HBA.out.size)⟩
      · have hkn : xs.length ≤ k := by omega
        have HE := hide (eqL_good (f := nodeEq) E2.out (fun j hj hj' => HA.out j hj hj' (by omega)))
        go_wp2
        go_ret
        exact ⟨by rw [HE.out]; first | rfl | simp, hbr⟩
  · have e1 : ((xs.length : Int) == (ys.length : Int)) = false := by rw [beq_eq_false_iff_ne]; omega
    have e2 : ((xs.length : Int) != (ys.length : Int)) = true := by rw [bne_iff_ne]; omega
    have HE := hide (eqL_len (f := nodeEq) (show (xs.length == ys.length) = false by simpa using e))
    clear e
    go_enter Try.func22, Try.ntmps22
    go_wp2
    go_ret
    exact ⟨by rw [HE.out]; first | rfl | simp, Below.refl _ _⟩

theorem walkSame_c (A A' : Option Addr) (c c' : Nat) (xs ys : List S30) (w : World) (h1 : Kd.C k30 w A xs.length xs) (hc : xs.length ≤ c) (h2 : Kd.C k30 w A' ys.length ys) (hc' : ys.length ≤ c') (hl : xs.length ≤ 9223372036854775807) (hm : ∀ x ∈ xs, Mod x) :
    Calls Try.prog 11 #[.slice A xs.length c, .slice A' ys.length c'] w fun e w' => e = .returned (.bool (eqL nodeEq xs ys)) ∧ Below w.heap.size w w' := by
  have HC := hide (nodesEq_c A A' c c' xs ys w h1 hc h2 hc' hl hm)
  clear h1 h2 hm
  go_enter Try.func11, Try.ntmps11
  go_wp2_with (go_at_call 22; refine HC.out.mono ?_; rintro e w1 ⟨rfl, hb⟩)
  go_ret
  exact ⟨rfl, hb⟩
end Go.Proofs.Ytnmlmbbacicojaa
namespace Go.Proofs.Ytnmlmbbacicojaa
set_option linter.unusedVariables false
set_option linter.unusedSimpArgs false
open Go.RowKit Go.Proofs.YtnmlmbbacicojaaW.PrintWords Go.Proofs.YtnmlmbbacicojaaW.PrintLast Go.Proofs.YtnmlmbbacicojaaW.PrintMore Go.Proofs.Ytnmlmbbacicojaa.PWalkSame

theorem rd30 {l : List S30} {i : Nat} (h : i < l.length) : rd_T30 l (i : Int) = l[i] := by unfold rd_T30; simp [h]
theorem rd32 {l : List S32} {i : Nat} (h : i < l.length) : rd_T32 l (i : Int) = l[i] := by unfold rd_T32; simp [h]
theorem rd35 {l : List S35} {i : Nat} (h : i < l.length) : rd_T35 l (i : Int) = l[i] := by unfold rd_T35; simp [h]
theorem reach47 : reachBytes ≤ 140737488355328 := Nat.le_of_lt reachBytes_lt

theorem big_l1 (l : List S30) (i n : Nat) (hi : i < l.length) (x : S30) (hx : l[i] = x) (hs : x.f5.length ≤ 140737488355328) (d : Nat) : ∀ j : Nat, j + d = x.f5.length →
    ∃ b : Bool, (b = true → ∀ q (h : q < x.f5.length), j ≤ q → q < 500 → (x.f5[q]).f1.size ≤ 1000) ∧ ∀ r, (b = true → Ev (fun k => lockgatelaw20_Big.l2 k l (n : Int) (i : Int) 0) r) → Ev (fun k => lockgatelaw20_Big.l1 k l (n : Int) (i : Int) (j : Int)) (if b then r else true) := by
  have ex : rd_T30 l (i : Int) = x := by rw [rd30 hi, hx]
  have hi' : (i : Int) < (l.length : Int) := by omega
  induction d with
  | zero =>
    intro j hj
    refine ⟨true, fun _ q h hq _ => absurd h (by omega), fun r hr => ?_⟩
    refine Ev.step (f := fun k => lockgatelaw20_Big.j3 k l (n : Int) (i : Int) (j : Int) false) (fun k => ?_) ?_
    · simp only [lockgatelaw20_Big.l1]
      rw [if_pos (by omega), if_pos hi', ex, if_neg (by omega)]
    · refine Ev.step (f := fun k => lockgatelaw20_Big.l2 k l (n : Int) (i : Int) 0) (fun k => ?_) (hr rfl)
      simp only [lockgatelaw20_Big.j3]
      rw [if_neg (by simp)]
  | succ d ih =>
    intro j hj
    have hlt : j < x.f5.length := by omega
    by_cases h500 : j < 500
    · by_cases hbad : 1000 < (x.f5[j]).f1.size
      · refine ⟨false, (fun h => by cases h), fun r _ => ?_⟩
        refine Ev.step (f := fun k => lockgatelaw20_Big.j3 k l (n : Int) (i : Int) (j : Int) true) (fun k => ?_) ?_
        · simp only [lockgatelaw20_Big.l1]
          rw [if_pos (by omega), if_pos hi', ex, if_pos (by omega), decide_eq_true (by omega)]
        · refine Ev.step (f := fun _ => some true) (fun k => ?_) (Ev.now _)
          simp only [lockgatelaw20_Big.j3]
          rw [if_pos trivial, if_pos (by omega), if_pos hi', if_pos (by omega), ex, if_pos (by omega), rd32 hlt, if_pos (by omega)]
      · obtain ⟨b, hb, hr⟩ := ih (j + 1) (by omega)
        refine ⟨b, fun e q h hq hq' => ?_, fun r hr' => ?_⟩
        · by_cases e2 : q = j
          · subst e2; omega
          · exact hb e q h (by omega) hq'
        · refine Ev.step (f := fun k => lockgatelaw20_Big.j3 k l (n : Int) (i : Int) (j : Int) true) (fun k => ?_) ?_
          · simp only [lockgatelaw20_Big.l1]
            rw [if_pos (by omega), if_pos hi', ex, if_pos (by omega), decide_eq_true (by omega)]
          · refine Ev.step (f := fun k => lockgatelaw20_Big.l1 k l (n : Int) (i : Int) ((j + 1 : Nat) : Int)) (fun k => ?_) (hr r hr')
            simp only [lockgatelaw20_Big.j3]
            rw [if_pos trivial, if_pos (by omega), if_pos hi', if_pos (by omega), ex, if_pos (by omega), rd32 hlt, if_neg (by omega), wrap_succ j (by omega)]
    · refine ⟨true, fun _ q h hq hq' => by omega, fun r hr => ?_⟩
      refine Ev.step (f := fun k => lockgatelaw20_Big.j3 k l (n : Int) (i : Int) (j : Int) false) (fun k => ?_) ?_
      · simp only [lockgatelaw20_Big.l1]
        rw [if_pos (by omega), if_pos hi', ex, if_pos (by omega), decide_eq_false (by omega)]
      · refine Ev.step (f := fun k => lockgatelaw20_Big.l2 k l (n : Int) (i : Int) 0) (fun k => ?_) (hr rfl)
        simp only [lockgatelaw20_Big.j3]
        rw [if_neg (by simp)]
theorem big_l2 (l : List S30) (i n : Nat) (hi : i < l.length) (hl : l.length ≤ 140737488355328) (x : S30) (hx : l[i] = x) (hs : x.f4.length ≤ 140737488355328) (d : Nat) : ∀ j : Nat, j + d = x.f4.length →
    ∃ b : Bool, (b = true → ∀ q (h : q < x.f4.length), j ≤ q → q < 500 → (x.f4[q]).f1.length ≤ 2000) ∧ ∀ r, (b = true → Ev (fun k => lockgatelaw20_Big.l0 k l (n : Int) ((i + 1 : Nat) : Int)) r) → Ev (fun k => lockgatelaw20_Big.l2 k l (n : Int) (i : Int) (j : Int)) (if b then r else true) := by
  have ex : rd_T30 l (i : Int) = x := by rw [rd30 hi, hx]
  have hi' : (i : Int) < (l.length : Int) := by omega
  induction d with
  | zero =>
    intro j hj
    refine ⟨true, fun _ q h hq _ => absurd h (by omega), fun r hr => ?_⟩
    refine Ev.step (f := fun k => lockgatelaw20_Big.j5 k l (n : Int) (i : Int) (j : Int) false) (fun k => ?_) ?_
    · simp only [lockgatelaw20_Big.l2]
      rw [if_pos (by omega), if_pos hi', ex, if_neg (by omega)]
    · refine Ev.step (f := fun k => lockgatelaw20_Big.l0 k l (n : Int) ((i + 1 : Nat) : Int)) (fun k => ?_) (hr rfl)
      simp only [lockgatelaw20_Big.j5]
      rw [if_neg (by simp), wrap_succ i (by omega)]
  | succ d ih =>
    intro j hj
    have hlt : j < x.f4.length := by omega
    by_cases h500 : j < 500
    · by_cases hbad : 2000 < (x.f4[j]).f1.length
      · refine ⟨false, (fun h => by cases h), fun r _ => ?_⟩
        refine Ev.step (f := fun k => lockgatelaw20_Big.j5 k l (n : Int) (i : Int) (j : Int) true) (fun k => ?_) ?_
        · simp only [lockgatelaw20_Big.l2]
          rw [if_pos (by omega), if_pos hi', ex, if_pos (by omega), decide_eq_true (by omega)]
        · refine Ev.step (f := fun _ => some true) (fun k => ?_) (Ev.now _)
          simp only [lockgatelaw20_Big.j5]
          rw [if_pos trivial, if_pos (by omega), if_pos hi', if_pos (by omega), ex, if_pos (by omega), rd35 hlt, if_pos (by omega)]
      · obtain ⟨b, hb, hr⟩ := ih (j + 1) (by omega)
        refine ⟨b, fun e q h hq hq' => ?_, fun r hr' => ?_⟩
        · by_cases e2 : q = j
          · subst e2; omega
          · exact hb e q h (by omega) hq'
        · refine Ev.step (f := fun k => lockgatelaw20_Big.j5 k l (n : Int) (i : Int) (j : Int) true) (fun k => ?_) ?_
          · simp only [lockgatelaw20_Big.l2]
            rw [if_pos (by omega), if_pos hi', ex, if_pos (by omega), decide_eq_true (by omega)]
          · refine Ev.step (f := fun k => lockgatelaw20_Big.l2 k l (n : Int) (i : Int) ((j + 1 : Nat) : Int)) (fun k => ?_) (hr r hr')
            simp only [lockgatelaw20_Big.j5]
            rw [if_pos trivial, if_pos (by omega), if_pos hi', if_pos (by omega), ex, if_pos (by omega), rd35 hlt, if_neg (by omega), wrap_succ j (by omega)]
    · refine ⟨true, fun _ q h hq hq' => by omega, fun r hr => ?_⟩
      refine Ev.step (f := fun k => lockgatelaw20_Big.j5 k l (n : Int) (i : Int) (j : Int) false) (fun k => ?_) ?_
      · simp only [lockgatelaw20_Big.l2]
        rw [if_pos (by omega), if_pos hi', ex, if_pos (by omega), decide_eq_false (by omega)]
      · refine Ev.step (f := fun k => lockgatelaw20_Big.l0 k l (n : Int) ((i + 1 : Nat) : Int)) (fun k => ?_) (hr rfl)
        simp only [lockgatelaw20_Big.j5]
        rw [if_neg (by simp), wrap_succ i (by omega)]
/-- what is small: a node's slots and blocks are at most m together; names and bytes are short -/
def SmallN (m : Nat) (x : S30) : Prop := x.f5.length + x.f4.length ≤ m ∧ (∀ q (h : q < x.f5.length), q < 500 → (x.f5[q]).f1.size ≤ 1000) ∧ ∀ q (h : q < x.f4.length), q < 500 → (x.f4[q]).f1.length ≤ 2000
theorem SmallN.mono {m m' : Nat} {x : S30} (h : SmallN m x) (hm : m ≤ m') : SmallN m' x := ⟨Nat.le_trans h.1 hm, h.2⟩
def Small (l : List S30) : Prop := l.length ≤ 500 ∧ ∀ i (h : i < l.length), SmallN 500 l[i]
theorem big_l0 (l : List S30) (hok : NodesOk l) (d : Nat) : ∀ i n : Nat, i + d = l.length → n ≤ 1125899906842624 → l.length ≤ n → (∀ j (h : j < l.length), j < i → SmallN n l[j]) →
    ∃ r : Bool, Ev (fun k => lockgatelaw20_Big.l0 k l (n : Int) (i : Int)) r ∧ (r = false → Small l) := by
  have hr47 := reach47
  have hll : l.length ≤ 140737488355328 := by have := hok.2; omega
  induction d with
  | zero =>
    intro i n hi hn hln hall
    refine ⟨decide (500 < n), ?_, fun e => ?_⟩
    · refine Ev.step (f := fun k => lockgatelaw20_Big.j1 k l (n : Int) (i : Int) false) (fun k => ?_) ?_
      · simp only [lockgatelaw20_Big.l0]
        rw [if_neg (by omega)]
      · refine Ev.step (f := fun _ => some (decide (500 < n))) (fun k => ?_) (Ev.now _)
        simp only [lockgatelaw20_Big.j1]
        rw [if_neg (by simp)]
        congr 2
        simp; omega
    · have e' : ¬ 500 < n := by simpa using e
      exact ⟨by omega, fun j h => (hall j h (by omega)).mono (by omega)⟩
  | succ d ih =>
    intro i n hi hn hln hall
    have hlt : i < l.length := by omega
    by_cases h500 : n ≤ 500
    · have hx := hok.1 _ (List.getElem_mem hlt)
      generalize hxe : l[i] = x at hx
      have h5 : x.f5.length ≤ 140737488355328 := by have := hx.2.2.2.2.2.2; omega
      have h4 : x.f4.length ≤ 140737488355328 := by have := hx.2.2.2.2.1.2; omega
      have ew1 : wrap64 ((n : Int) + (x.f5.length : Int)) = ((n + x.f5.length : Nat) : Int) := by unfold wrap64; omega
      have ew2 : wrap64 (((n + x.f5.length : Nat) : Int) + (x.f4.length : Int)) = ((n + x.f5.length + x.f4.length : Nat) : Int) := by unfold wrap64; omega
      obtain ⟨b1, hb1, hr1⟩ := big_l1 l i (n + x.f5.length + x.f4.length) hlt x hxe h5 x.f5.length 0 (by omega)
      obtain ⟨b2, hb2, hr2⟩ := big_l2 l i (n + x.f5.length + x.f4.length) hlt hll x hxe h4 x.f4.length 0 (by omega)
      have start : ∀ r, Ev (fun k => lockgatelaw20_Big.l1 k l ((n + x.f5.length + x.f4.length : Nat) : Int) (i : Int) 0) r → Ev (fun k => lockgatelaw20_Big.l0 k l (n : Int) (i : Int)) r := fun r hr => by
        refine Ev.step (f := fun k => lockgatelaw20_Big.j1 k l (n : Int) (i : Int) true) (fun k => ?_) ?_
        · simp only [lockgatelaw20_Big.l0]
          rw [if_pos (by omega), decide_eq_true (by omega)]
        · refine Ev.step (f := fun k => lockgatelaw20_Big.l1 k l ((n + x.f5.length + x.f4.length : Nat) : Int) (i : Int) 0) (fun k => ?_) hr
          simp only [lockgatelaw20_Big.j1]
          rw [if_pos trivial, if_pos (by omega), if_pos (by omega), rd30 hlt, hxe, ew1, ew2]
      cases b1 with
      | false => exact ⟨true, start _ (hr1 true (fun e => by cases e)), fun e => by cases e⟩
      | true =>
        cases b2 with
        | false => exact ⟨true, start _ (hr1 true (fun _ => hr2 true (fun e => by cases e))), fun e => by cases e⟩
        | true =>
          obtain ⟨r, hr, hsm⟩ := ih (i + 1) (n + x.f5.length + x.f4.length) (by omega) (by omega) (by omega) (fun j h hj => by
            by_cases e : j = i
            · subst e
              rw [hxe]
              exact ⟨by omega, fun q h hq => hb1 rfl q h (by omega) hq, fun q h hq => hb2 rfl q h (by omega) hq⟩
            · exact (hall j h (by omega)).mono (by omega))
          exact ⟨r, start _ (hr1 r (fun _ => hr2 r (fun _ => hr))), hsm⟩
    · refine ⟨true, ?_, fun e => by cases e⟩
      refine Ev.step (f := fun k => lockgatelaw20_Big.j1 k l (n : Int) (i : Int) false) (fun k => ?_) ?_
      · simp only [lockgatelaw20_Big.l0]
        rw [if_pos (by omega), decide_eq_false (by omega)]
      · refine Ev.step (f := fun _ => some true) (fun k => ?_) (Ev.now _)
        simp only [lockgatelaw20_Big.j1]
        rw [if_neg (by simp), decide_eq_true (by omega)]
theorem bigR (l : List S30) (hok : NodesOk l) : ∃ r : Bool, Ev (fun k => lockgatelaw20_Big.f k l) r ∧ (r = false → Small l) := by
  have hr47 := reach47
  have hll : l.length ≤ 140737488355328 := by have := hok.2; omega
  obtain ⟨r, h1, h2⟩ := big_l0 l hok l.length 0 l.length (by omega) (by omega) (Nat.le_refl _) (fun j _ h => absurd h (by omega))
  exact ⟨r, h1, h2⟩
/-- what Big answers -/
noncomputable def bigB (l : List S30) (hok : NodesOk l) : Bool := Classical.choose (bigR l hok)
theorem bigB_small {l : List S30} {hok : NodesOk l} (h : bigB l hok = false) : Small l := (Classical.choose_spec (bigR l hok)).2 h
theorem big_c (A : Option Addr) (n c : Nat) (l : List S30) (hok : NodesOk l) (w : World) (hn : l.length = n) (h : Kd.C k30 w A n l) (hc : n ≤ c) :
    Calls Try.prog 10 #[.slice A n c] w fun e w' => e = .returned (.bool (bigB l hok)) ∧ Below w.heap.size w w' := by
  subst hn
  obtain ⟨k, hk⟩ := ((Classical.choose_spec (bigR l hok)).1).rounds
  exact (lockgatelaw20_Big.calls k A c l _ w h hc hk).mono fun e w' ⟨he, hd⟩ => ⟨he, by obtain ⟨q, rfl⟩ := hd.out; exact below_drewN (Below.refl _ _) q⟩
end Go.Proofs.Ytnmlmbbacicojaa
namespace Go.Proofs.Ytnmlmbbacicojaa
set_option linter.unusedVariables false
set_option linter.unusedSimpArgs false
open Go.RowKit Go.Maps Go.Proofs.YtnmlmbbacicojaaW.PrintWords Go.Proofs.YtnmlmbbacicojaaW.PrintLast Go.Proofs.YtnmlmbbacicojaaW.PrintMore Go.Proofs.Ytnmlmbbacicojaa.PWalkSame

/-- the place of the first node of an inode -/
def atF (l : List S30) (x : Int) : Option Int := (l.findIdx? (fun n => n.f0 == x)).map (fun i : Nat => (i : Int))
theorem atF_lt {l : List S30} {x c : Int} (h : atF l x = some c) : ∃ i : Nat, c = (i : Int) ∧ ∃ hi : i < l.length, (l[i]).f0 = x := by
  unfold atF at h
  rw [Option.map_eq_some_iff] at h
  obtain ⟨i, hi, rfl⟩ := h
  obtain ⟨h1, h2, _⟩ := List.findIdx?_eq_some_iff_getElem.1 hi
  exact ⟨i, rfl, h1, by simpa using h2⟩
theorem atF_step {l : List S30} {k : Nat} (hk : k < l.length) (x : Int) : atF (l.take (k + 1)) x = match atF (l.take k) x with | some c => some c | none => if (l[k]).f0 = x then some (k : Int) else none := by
  unfold atF
  rw [List.take_succ_eq_append_getElem hk, List.findIdx?_append]
  cases h : (l.take k).findIdx? (fun n => n.f0 == x) with
  | some i => simp
  | none =>
    simp only [Option.none_or, Option.map_none]
    by_cases e : (l[k]).f0 = x
    · simp [List.findIdx?_cons, e]; omega
    · simp [List.findIdx?_cons, e]
theorem zero3 (w : World) : (zeroValue 3).run Try.prog w = .ok (.int .i64 0) w := by kernel_rfl
theorem zero4 (w : World) : (zeroValue 4).run Try.prog w = .ok (.bool false) w := by kernel_rfl

set_option maxHeartbeats 1000000 in
set_option maxRecDepth 100000 in
theorem index_c (A : Option Addr) (n c : Nat) (l : List S30) (w : World) (hn : l.length = n) (h : Kd.C k30 w A n l) (hc : n ≤ c) (hl : n ≤ 140737488355328) (hi : ∀ x ∈ l, (Lit.int .i64 x.f0).wf = true) :
    Calls Try.prog 27 #[.slice A n c] w fun e w' => ∃ b m, e = .returned (.map (some b)) ∧ w.heap.size ≤ b ∧ OwnII Try.prog 3 3 w' b m (atF l) ∧ m ≤ 140737488355328 ∧ Below w.heap.size w w' := by
  subst hn
  have H := hide h
  have HI := hide hi
  clear h hi
  have hmm := @run_makeMap Try.prog
  go_enter Try.func27, Try.ntmps27
  go_wp2
  go_loopw [11] (fun i wr => ∃ k : Nat, k ≤ l.length ∧ i = .int .i64 k ∧ OwnII Try.prog 3 3 wr w.heap.size k (atF (l.take k)) ∧ Below w.heap.size w wr) (fun i _ => l.length - (intOf i).toNat)
  case atStart => exact ⟨0, by omega, rfl, ⟨_, World.ownsMap_made _ _ _ _, MapII.none_⟩, (Below.refl _ _).alloc (Nat.le_refl _) _⟩
  case round =>
    obtain ⟨k, hk, rfl, hown, hbr⟩ := hrel
    by_cases hlt : k < l.length
    · obtain ⟨ad, A4, c4, A5, c5, e5, x0, x1, x2, x3, x4, x5, l4, g4, l5, g5⟩ := at_T30 H.out (k : Int) (by omega) (by omega)
      rw [rd30 hlt] at x0 x1 x2 x3 x4 x5 l4 g4 l5 g5
      rw [Int.toNat_natCast] at x0 x1 x2 x3 x4 x5
      subst e5
      replace x0 := (hbr.cell (World.block_lt_of_cell? w _ x0)).trans x0
      replace x1 := (hbr.cell (World.block_lt_of_cell? w _ x1)).trans x1
      replace x2 := (hbr.cell (World.block_lt_of_cell? w _ x2)).trans x2
      replace x3 := (hbr.cell (World.block_lt_of_cell? w _ x3)).trans x3
      replace x4 := (hbr.cell (World.block_lt_of_cell? w _ x4)).trans x4
      replace x5 := (hbr.cell (World.block_lt_of_cell? w _ x5)).trans x5
      have hwf := HI.out _ (List.getElem_mem hlt)
      have hst := fun x => atF_step hlt x
      generalize l[k] = y at x0 x1 x2 x3 x4 x5 hwf hst
      clear l4 g4 l5 g5
      have HO1 := hide (hown.kept (World.grownBy_alloc wr (.cells #[.int .i64 y.f0, .int .i64 y.f1, .int .i64 y.f2, .int .i64 y.f3, .slice A4 y.f4.length c4, .slice A5 y.f5.length c5] 30) none) (by simp))
      have hlk := HO1.out.look Try.underlying3 Try.underlying3 Try.underlying56 (zero3 _) y.f0 hwf
      cases hq : atF (l.take k) y.f0 with
      | some cc =>
        rw [hq] at hlk
        simp only [Option.getD_some, Option.isSome_some] at hlk
        have HE := hide (show atF (l.take (k + 1)) = atF (l.take k) by
          funext x
          rw [hst x]
          cases hx : atF (l.take k) x with
          | some c => rfl
          | none =>
            by_cases e : y.f0 = x
            · subst e; rw [hx] at hq; cases hq
            · simp [e])
        clear hq hst
        have HO := hide hown
        clear hown
        go_wp2
        go_roundw
        case rel => exact ⟨k + 1, by omega, by go_num, by rw [HE.out]; exact HO1.out.mono (by omega), hbr.alloc hbr.size _⟩
        case measure => simp [intOf]; omega
      | none =>
        rw [hq] at hlk
        simp only [Option.getD_none, Option.isSome_none] at hlk
        have HE := hide (show atF (l.take (k + 1)) = fun x => if x = y.f0 then some (k : Int) else atF (l.take k) x by
          funext x
          rw [hst x]
          cases hx : atF (l.take k) x with
          | some c =>
            by_cases e : x = y.f0
            · subst e; rw [hx] at hq; cases hq
            · simp [e]
          | none =>
            by_cases e : y.f0 = x
            · simp [e]
            · simp [e, Ne.symm e])
        clear hq hst
        obtain ⟨D, hD1, hD2⟩ := HO1.out
        have HO := hide hown
        clear hown
        go_wp2_with (at_mapUpdate; refine wpList_mapUpdate_own _ rfl _ _ _ 56 rfl 3 3 (int_keyed Try.underlying3) Try.underlying56 _ w.heap.size _ _ rfl hD1 (by unfold maxLen; omega) _ _ _ rfl rfl (keyOf_int_mk Try.underlying3 hwf) _ [] (plainElem_int Try.underlying3 (WalkArith.wf_i64 ⟨by omega, by omega⟩)) ?_; intro w1 hown1 hg1)
        go_roundw
        case rel => exact ⟨k + 1, by omega, by go_num, by rw [HE.out]; exact ⟨_, hown1, hD2.put _ _⟩, (hbr.alloc hbr.size _).grown hg1 (by have := hbr.size; simp; omega) (fun j hj => by cases hj; exact Nat.le_refl _)⟩
        case measure => simp [intOf]; omega
    · have hkn : k = l.length := by omega
      have HE := hide (show atF (l.take k) = atF l by rw [hkn, List.take_length])
      clear hkn
      have HO := hide hown
      clear hown
      go_wp2
      go_ret
      exact ⟨_, k, rfl, Nat.le_refl _, by rw [← HE.out]; exact HO.out, by omega, hbr⟩
end Go.Proofs.Ytnmlmbbacicojaa
namespace Go.Proofs.Ytnmlmbbacicojaa
set_option linter.unusedVariables false
set_option linter.unusedSimpArgs false
open Go.RowKit Go.Maps Go.Proofs.YtnmlmbbacicojaaW.PrintWords Go.Proofs.YtnmlmbbacicojaaW.PrintLast Go.Proofs.YtnmlmbbacicojaaW.PrintMore Go.Proofs.Ytnmlmbbacicojaa.PWalkSame

/-- is this slot in use, and of this name? -/
def slotIs (p : ByteArray) (e : S32) : Bool := (e.f0 != 0) && (e.f1.toList == p.toList)
theorem slotIs_c (e : S32) (p : ByteArray) (b : Nat) (w : World) (hb : w.cell? ⟨b, 0, none⟩ = some (.string p)) :
    Calls Try.prog 29 #[.agg #[.int .i64 e.f0, .string e.f1], .pointer (some ⟨b, 0, none⟩)] w fun r w' => r = .returned (.bool (slotIs p e)) ∧ Below w.heap.size w w' := by
  have hlt : b < w.heap.size := World.block_lt_of_cell? w _ hb
  have hb1 : (w.alloc (.cells #[.int .i64 e.f0, .string e.f1] 32)).cell? ⟨b, 0, none⟩ = some (.string p) := (((Below.refl w.heap.size w).alloc (Nat.le_refl _) _).cell (World.block_lt_of_cell? w _ hb)).trans hb
  by_cases h0 : e.f0 = 0
  · have e1 : (e.f0 == 0) = true := by simpa using h0
    have e2 : (e.f0 != 0) = false := by simpa using h0
    have HE := hide (show slotIs p e = false by unfold slotIs; rw [e2]; rfl)
    clear h0
    go_enter Try.func29, Try.ntmps29
    go_wp2
    go_ret
    exact ⟨by rw [HE.out]; first | rfl | simp, (Below.refl _ w).alloc (Nat.le_refl _) _⟩
  · have e1 : (e.f0 == 0) = false := by simpa using h0
    have e2 : (e.f0 != 0) = true := by simpa using h0
    have HE := hide (show slotIs p e = (e.f1.toList == p.toList) by unfold slotIs; rw [e2]; rfl)
    clear h0
    go_enter Try.func29, Try.ntmps29
    go_wp2
    go_ret
    exact ⟨by rw [HE.out]; first | rfl | simp, (Below.refl _ w).alloc (Nat.le_refl _) _⟩
/-- the place of the first one; -1: none -/
def slotAt (p : ByteArray) (es : List S32) : Int := match es.findIdx? (slotIs p) with | some i => (i : Int) | none => -1
theorem slotAt_hit {p : ByteArray} {es : List S32} {k : Nat} (hk : k < es.length) (h : slotIs p es[k] = true) (hb : ∀ j (hj : j < es.length), j < k → slotIs p es[j] = false) : slotAt p es = (k : Int) := by
  unfold slotAt
  rw [List.findIdx?_eq_some_iff_getElem.2 ⟨hk, h, fun j hj => by simpa using hb j (by omega) hj⟩]
theorem slotAt_miss {p : ByteArray} {es : List S32} (h : ∀ j (hj : j < es.length), slotIs p es[j] = false) : slotAt p es = -1 := by
  unfold slotAt
  rw [List.findIdx?_eq_none_iff.2 (fun x hx => by obtain ⟨j, hj, rfl⟩ := List.getElem_of_mem hx; exact h j hj)]

set_option maxHeartbeats 1000000 in
set_option maxRecDepth 100000 in
theorem indexFunc_c (A : Option Addr) (c b : Nat) (es : List S32) (p : ByteArray) (w : World) (h : Kd.C k32 w A es.length es) (hc : es.length ≤ c) (hb : w.cell? ⟨b, 0, none⟩ = some (.string p)) (hl : es.length ≤ 140737488355328) :
    Calls Try.prog 28 #[.slice A es.length c, .func (.func 29) #[] #[.pointer (some ⟨b, 0, none⟩)]] w fun r w' => r = .returned (.int .i64 (slotAt p es)) ∧ Below w.heap.size w w' := by
  have H := hide h
  have HB := hide hb
  clear h hb
  go_enter Try.func28, Try.ntmps28
  go_wp2
  go_loopw [8] (fun i wr => ∃ k : Nat, k ≤ es.length ∧ i = .int .i64 k ∧ Below w.heap.size w wr ∧ ∀ j (hj : j < es.length), j < k → slotIs p es[j] = false) (fun i _ => es.length - (intOf i).toNat)
  case atStart => exact ⟨0, by omega, rfl, Below.refl _ _, fun j _ h => absurd h (by omega)⟩
  case round =>
    obtain ⟨k, hk, rfl, hbr, hall⟩ := hrel
    have HA := hide hall
    clear hall
    by_cases hlt : k < es.length
    · obtain ⟨ae, e6, u0, u1⟩ := at_T32 H.out (k : Int) (by omega) (by omega)
      rw [rd32 hlt] at u0 u1
      rw [Int.toNat_natCast] at u0 u1
      subst e6
      replace u0 := (hbr.cell (World.block_lt_of_cell? w _ u0)).trans u0
      replace u1 := (hbr.cell (World.block_lt_of_cell? w _ u1)).trans u1
      have hbw : wr.cell? ⟨b, 0, none⟩ = some (.string p) := (hbr.cell (World.block_lt_of_cell? w _ HB.out)).trans HB.out
      have HC := hide (slotIs_c es[k] p b wr hbw)
      have HIT := hide (fun h => slotAt_hit (p := p) hlt h HA.out)
      cases hq : slotIs p es[k] with
      | true =>
        rw [hq] at HC
        have HI := hide (HIT.out hq)
        clear hq hbw
        generalize es[k] = e at u0 u1 HC
        go_wp2_with (go_at_call 29; refine HC.out.mono ?_; rintro r w3 ⟨rfl, hb3⟩)
        go_ret
        exact ⟨by rw [HI.out]; first | rfl | simp, hbr.trans (hb3.mono hbr.size)⟩
      | false =>
        rw [hq] at HC
        have HQ := hide hq
        clear hq hbw HIT
        have HQ2 := hide (show ∀ j (hj : j < es.length), j < k + 1 → slotIs p es[j] = false from fun j hj hjk => by
          by_cases e : j = k
          · subst e; exact HQ.out
          · exact HA.out j hj (by omega))
        clear HQ
        generalize es[k] = e at u0 u1 HC
        go_wp2_with (go_at_call 29; refine HC.out.mono ?_; rintro r w3 ⟨rfl, hb3⟩)
        go_roundw
        case rel => exact ⟨k + 1, by omega, by go_num, hbr.trans (hb3.mono hbr.size), HQ2.out⟩
        case measure => simp [intOf]; omega
    · have HI := hide (slotAt_miss (p := p) (fun j hj => HA.out j hj (by omega)))
      go_wp2
      go_ret
      exact ⟨by rw [HI.out]; first | rfl | simp, hbr⟩
end Go.Proofs.Ytnmlmbbacicojaa
namespace Go.Proofs.Ytnmlmbbacicojaa
set_option linter.unusedVariables false
set_option linter.unusedSimpArgs false

abbrev Bytes8 := List UInt8
def bs (l : Bytes8) : ByteArray := ⟨l.toArray⟩
@[simp] theorem bs_data (l : Bytes8) : (bs l).data.toList = l := rfl
@[simp] theorem bs_of (s : ByteArray) : bs s.data.toList = s := by cases s; rfl
theorem bs_size (l : Bytes8) : (bs l).size = l.length := by simp [bs, ByteArray.size]
theorem size_toList (s : ByteArray) : s.size = s.data.toList.length := by cases s; rfl
theorem bs_inj {a b : Bytes8} (h : bs a = bs b) : a = b := by have := congrArg (fun s => s.data.toList) h; simpa using this
theorem ba_ext {a b : ByteArray} (h : a.data.toList = b.data.toList) : a = b := by rw [← bs_of a, ← bs_of b, h]

/-- the place of a byte, or none -/
theorem idx_cases (l : Bytes8) (c : UInt8) : (Lib.indexByte l c = -1 ∧ c ∉ l) ∨ ∃ a b, l = a ++ c :: b ∧ c ∉ a ∧ Lib.indexByte l c = (a.length : Int) := by
  induction l with
  | nil => exact .inl ⟨rfl, by simp⟩
  | cons x l ih =>
    by_cases e : x = c
    · subst e
      exact .inr ⟨[], l, rfl, by simp, by simp [Lib.indexByte]⟩
    · rcases ih with ⟨h1, h2⟩ | ⟨a, b, rfl, h2, h3⟩
      · exact .inl ⟨by simp [Lib.indexByte, e, h1], by simp [h2, Ne.symm e]⟩
      · refine .inr ⟨x :: a, b, rfl, by simp [h2, Ne.symm e], ?_⟩
        have : ¬ ((a.length : Int) = -1) := by omega
        simp [Lib.indexByte, e, h3, this]
theorem idx_neg (l : Bytes8) (c : UInt8) : decide (Lib.indexByte l c < 0) = !(l.contains c) := by
  rcases idx_cases l c with ⟨h1, h2⟩ | ⟨a, b, rfl, h2, h3⟩
  · rw [h1]; simp [h2]
  · rw [h3]; simp

/-- what stands between the slashes -/
def partsL : Bytes8 → List Bytes8
  | [] => [[]]
  | c :: l => if c = 47 then [] :: partsL l else match partsL l with | [] => [[c]] | p :: ps => (c :: p) :: ps
theorem partsL_ne (l : Bytes8) : partsL l ≠ [] := by
  induction l with
  | nil => simp [partsL]
  | cons c l ih => unfold partsL; split; · simp
                   · split <;> simp
theorem partsL_one {l : Bytes8} (h : (47 : UInt8) ∉ l) : partsL l = [l] := by
  induction l with
  | nil => rfl
  | cons c l ih =>
    have hc : ¬ c = 47 := fun e => h (by simp [e])
    unfold partsL
    rw [if_neg hc, ih (fun e => h (by simp [e]))]
theorem partsL_cut {a b : Bytes8} (h : (47 : UInt8) ∉ a) : partsL (a ++ 47 :: b) = a :: partsL b := by
  induction a with
  | nil => simp [partsL]
  | cons c a ih =>
    have hc : ¬ c = 47 := fun e => h (by simp [e])
    rw [List.cons_append]
    conv => lhs; unfold partsL
    rw [if_neg hc, ih (fun e => h (by simp [e]))]
theorem partsL_noslash (l : Bytes8) : ∀ p ∈ partsL l, (47 : UInt8) ∉ p := by
  induction l with
  | nil => simp [partsL]
  | cons c l ih =>
    unfold partsL
    split
    · intro p hp
      rcases List.mem_cons.1 hp with rfl | hp
      · simp
      · exact ih p hp
    · rename_i hc
      split
      · intro p hp; simp at hp; subst hp; simp [Ne.symm hc]
      · rename_i q qs hq
        intro p hp
        rw [hq] at ih
        rcases List.mem_cons.1 hp with rfl | hp
        · have := ih q (by simp)
          simp [Ne.symm hc, this]
        · exact ih p (by simp [hp])
/-- the slashes put back -/
def joinL : List Bytes8 → Bytes8
  | [] => []
  | [p] => p
  | p :: q :: ps => p ++ 47 :: joinL (q :: ps)
theorem joinL_cons (p : Bytes8) {ps : List Bytes8} (h : ps ≠ []) : joinL (p :: ps) = p ++ 47 :: joinL ps := by
  cases ps with
  | nil => exact absurd rfl h
  | cons q ps => rfl
theorem joinL_partsL (l : Bytes8) : joinL (partsL l) = l := by
  induction l with
  | nil => rfl
  | cons c l ih =>
    unfold partsL
    split
    · rename_i e
      rw [joinL_cons _ (partsL_ne l), ih, e]; rfl
    · split
      · rename_i h; exact absurd h (partsL_ne l)
      · rename_i p ps h
        rw [h] at ih
        cases ps with
        | nil => simp [joinL] at ih ⊢; exact ih
        | cons q ps => simp [joinL] at ih ⊢; exact ih
theorem partsL_joinL : ∀ {ps : List Bytes8}, ps ≠ [] → (∀ p ∈ ps, (47 : UInt8) ∉ p) → partsL (joinL ps) = ps
  | [], h, _ => absurd rfl h
  | [p], _, h => partsL_one (h p (by simp))
  | p :: q :: ps, _, h => by
    show partsL (p ++ 47 :: joinL (q :: ps)) = _
    rw [partsL_cut (h p (by simp)), partsL_joinL (ps := q :: ps) (by simp) (fun x hx => h x (by simp [hx]))]
/-- may an entry have this name? -/
def nameL (l : Bytes8) : Bool := !l.isEmpty && decide (l.length ≤ 27) && !l.contains 0 && !l.contains 47
def okP (l : Bytes8) : Bool := nameL l && !(l == [46]) && !(l == [46, 46])
/-- a path's parts -/
def splitL : Bytes8 → Option (List Bytes8)
  | [] => none
  | c :: t => if c ≠ 47 ∨ 500 < t.length + 1 then none else if t = [] then some [] else if (partsL t).all okP then some (partsL t) else none
theorem splitL_cons (c : UInt8) (t : Bytes8) : splitL (c :: t) = if c ≠ 47 ∨ 500 < t.length + 1 then none else if t = [] then some [] else if (partsL t).all okP then some (partsL t) else none := rfl
theorem okP_noslash {p : Bytes8} (h : okP p = true) : (47 : UInt8) ∉ p := by
  simp [okP, nameL] at h; exact h.1.1.2
theorem okP_ne {p : Bytes8} (h : okP p = true) : p ≠ [] := by
  simp [okP, nameL] at h; exact h.1.1.1.1.1
end Go.Proofs.Ytnmlmbbacicojaa
namespace Go.Proofs
open Go.Shelf
def Try.lays137_ren : Go.Shelf.Ren := ⟨fun | 137 => 50 | 217 => 53 | 266 => 55 | n => n, fun | 9 => 9 | 5 => 5 | 3 => 3 | n => n, fun | n => n⟩
theorem Try.lays137 : Go.Proofs.Lays.n137 Try.prog Try.lays137_ren := {
  mixed := by kernel_rfl
  f137 := Try.func50.trans (congrArg some (by kernel_rfl))
  f217 := Try.func53.trans (congrArg some (by kernel_rfl))
  f266 := Try.func55.trans (congrArg some (by kernel_rfl))
  t3 := Try.underlying3
  a3 := Try.isAgg3
  z3 := Try.sizeOf3
  v3 := Try.zeroValue3
  t5 := Try.underlying5
  a5 := Try.isAgg5
  z5 := Try.sizeOf5
  v5 := Try.zeroValue5
  t9 := Try.underlying9
  a9 := Try.isAgg9
  z9 := Try.sizeOf9
  v9 := Try.zeroValue9 }
open Go.RowKit in
/-- strings.IndexByte: "IndexByte returns the index of the first instance of c in s, or -1 if c is not present in s.": IT RETURNS 'Lib.indexByte s c'; the world is as it was. (LAID: no walk: one application.) -/
theorem Try.strings_IndexByte (s : ByteArray) (c : Int) (w : World) :
    Calls Try.prog 50 #[.string s, .int .u8 c] w fun e w' => e = .returned (.int .i64 (Lib.indexByte s.data.toList c.toNat.toUInt8)) ∧ w' = w := Any.strings_IndexByte Try.lays137 s c w
def Try.lays210_ren : Go.Shelf.Ren := ⟨fun | 210 => 47 | 206 => 51 | n => n, fun | 9 => 9 | 4 => 4 | 3 => 3 | n => n, fun | n => n⟩
theorem Try.lays210 : Go.Proofs.Lays.n210 Try.prog Try.lays210_ren := {
  mixed := by kernel_rfl
  f206 := Try.func51.trans (congrArg some (by kernel_rfl))
  f210 := Try.func47.trans (congrArg some (by kernel_rfl))
  t3 := Try.underlying3
  a3 := Try.isAgg3
  z3 := Try.sizeOf3
  v3 := Try.zeroValue3
  t4 := Try.underlying4
  a4 := Try.isAgg4
  z4 := Try.sizeOf4
  v4 := Try.zeroValue4
  t9 := Try.underlying9
  a9 := Try.isAgg9
  z9 := Try.sizeOf9
  v9 := Try.zeroValue9 }
open Go.RowKit in
/-- internal/stringslite.CutPrefix (what strings.CutPrefix calls). (LAID: no walk: one application.) -/
theorem Try.stringslite_CutPrefix (s p : ByteArray) (w : World) :
    Calls Try.prog 47 #[.string s, .string p] w fun e w' => e = .returned (.tuple #[.string ⟨(Lib.trimPrefix s.data.toList p.data.toList).toArray⟩, .bool (Lib.hasPrefix s.data.toList p.data.toList)]) ∧ w' = w := Any.stringslite_CutPrefix Try.lays210 s p w
def Try.lays103_ren : Go.Shelf.Ren := ⟨fun | 103 => 39 | 210 => 47 | 206 => 51 | n => n, fun | 9 => 9 | 4 => 4 | 24 => 77 | 3 => 3 | n => n, fun | n => n⟩
theorem Try.lays103 : Go.Proofs.Lays.n103 Try.prog Try.lays103_ren := {
  mixed := by kernel_rfl
  f103 := Try.func39.trans (congrArg some (by kernel_rfl))
  f206 := Try.func51.trans (congrArg some (by kernel_rfl))
  f210 := Try.func47.trans (congrArg some (by kernel_rfl))
  t3 := Try.underlying3
  a3 := Try.isAgg3
  z3 := Try.sizeOf3
  v3 := Try.zeroValue3
  t4 := Try.underlying4
  a4 := Try.isAgg4
  z4 := Try.sizeOf4
  v4 := Try.zeroValue4
  t9 := Try.underlying9
  a9 := Try.isAgg9
  z9 := Try.sizeOf9
  v9 := Try.zeroValue9
  t24 := Try.underlying77
  a24 := Try.isAgg77
  z24 := Try.sizeOf77
  v24 := Try.zeroValue77 }
open Go.RowKit in
/-- strings.CutPrefix: "CutPrefix returns s without the provided leading prefix string and reports whether it found the prefix. If s doesn't start with prefix, CutPrefix returns s, false. If prefix is the empty string, CutPrefix returns s, true.": IT RETURNS '(Lib.trimPrefix s p, Lib.hasPrefix s p)'; the world is as it was. (LAID: no walk: one application.) -/
theorem Try.strings_CutPrefix (s p : ByteArray) (w : World) :
    Calls Try.prog 39 #[.string s, .string p] w fun e w' => e = .returned (.tuple #[.string ⟨(Lib.trimPrefix s.data.toList p.data.toList).toArray⟩, .bool (Lib.hasPrefix s.data.toList p.data.toList)]) ∧ w' = w := Any.strings_CutPrefix Try.lays103 s p w
def Try.lays217_ren : Go.Shelf.Ren := ⟨fun | 217 => 53 | 266 => 55 | n => n, fun | 9 => 9 | 5 => 5 | 3 => 3 | n => n, fun | n => n⟩
theorem Try.lays217 : Go.Proofs.Lays.n217 Try.prog Try.lays217_ren := {
  mixed := by kernel_rfl
  f217 := Try.func53.trans (congrArg some (by kernel_rfl))
  f266 := Try.func55.trans (congrArg some (by kernel_rfl))
  t3 := Try.underlying3
  a3 := Try.isAgg3
  z3 := Try.sizeOf3
  v3 := Try.zeroValue3
  t5 := Try.underlying5
  a5 := Try.isAgg5
  z5 := Try.sizeOf5
  v5 := Try.zeroValue5
  t9 := Try.underlying9
  a9 := Try.isAgg9
  z9 := Try.sizeOf9
  v9 := Try.zeroValue9 }
open Go.RowKit Go.Lib in
/-- internal/stringslite.IndexByte (what strings.IndexByte calls): IT RETURNS 'Lib.indexByte s c'; the world is as it was. (LAID: no walk: one application.) -/
theorem Try.stringslite_IndexByte (s : ByteArray) (c : Int) (w : World) :
    Calls Try.prog 53 #[.string s, .int .u8 c] w fun e w' => e = .returned (.int .i64 (Lib.indexByte s.data.toList c.toNat.toUInt8)) ∧ w' = w := Any.stringslite_IndexByte Try.lays217 s c w
def Try.lays224_ren : Go.Shelf.Ren := ⟨fun | 224 => 57 | n => n, fun | 3 => 3 | n => n, fun | n => n⟩
theorem Try.lays224 : Go.Proofs.Lays.n224 Try.prog Try.lays224_ren := {
  mixed := by kernel_rfl
  f224 := Try.func57.trans (congrArg some (by kernel_rfl))
  t3 := Try.underlying3
  a3 := Try.isAgg3
  z3 := Try.sizeOf3
  v3 := Try.zeroValue3 }
open Go.RowKit Go.Lib in
/-- internal/bytealg.Cutover: "Cutover reports the number of failures of IndexByte we should tolerate before switching over to Index. n is the number of bytes processed so far.": on amd64: (n + 16) / 8. (LAID: no walk: one application.) -/
theorem Try.bytealg_Cutover (n : Int) (h0 : 0 ≤ n) (h1 : n < 4611686018427387904) (w : World) :
    Calls Try.prog 57 #[.int .i64 n] w fun e w' => e = .returned (.int .i64 ((n + 16) / 8)) ∧ w' = w := Any.bytealg_Cutover Try.lays224 n h0 h1 w
def Try.lays314_ren : Go.Shelf.Ren := ⟨fun | 314 => 59 | n => n, fun | 9 => 9 | 51 => 94 | 3 => 3 | 4 => 4 | 5 => 5 | 46 => 93 | n => n, fun | n => n⟩
theorem Try.lays314 : Go.Proofs.Lays.n314 Try.prog Try.lays314_ren := {
  mixed := by kernel_rfl
  f314 := Try.func59.trans (congrArg some (by kernel_rfl))
  t3 := Try.underlying3
  a3 := Try.isAgg3
  z3 := Try.sizeOf3
  v3 := Try.zeroValue3
  t4 := Try.underlying4
  a4 := Try.isAgg4
  z4 := Try.sizeOf4
  v4 := Try.zeroValue4
  t5 := Try.underlying5
  a5 := Try.isAgg5
  z5 := Try.sizeOf5
  v5 := Try.zeroValue5
  t9 := Try.underlying9
  a9 := Try.isAgg9
  z9 := Try.sizeOf9
  v9 := Try.zeroValue9
  t46 := Try.underlying93
  a46 := Try.isAgg93
  z46 := Try.sizeOf93
  v46 := Try.zeroValue93
  t51 := Try.underlying94
  a51 := Try.isAgg94
  z51 := Try.sizeOf94
  v51 := Try.zeroValue94 }
open Go.RowKit Go.Lib in
/-- hashStr: "returns the hash and the appropriate multiplicative factor for use in Rabin-Karp algorithm": THE HASH OF ALL OF sep, AND 16777619 ^ len(sep), both in uint32. (LAID: no walk: one application.) -/
theorem Try.bytealg_hashStr (sep : ByteArray) (hs : sep.size < 4294967281) (w : World) :
    Calls Try.prog 59 #[.string sep] w fun e w' => e = .returned (.tuple #[.int .u32 (RK.H sep.data.toList % 4294967296), .int .u32 (16777619 ^ sep.size % 4294967296)]) ∧ w' = w := Any.bytealg_hashStr Try.lays314 sep hs w
def Try.lays267_ren : Go.Shelf.Ren := ⟨fun | 267 => 58 | 314 => 59 | n => n, fun | 9 => 9 | 3 => 3 | 146 => 95 | 51 => 94 | 4 => 4 | 5 => 5 | 46 => 93 | n => n, fun | n => n⟩
theorem Try.lays267 : Go.Proofs.Lays.n267 Try.prog Try.lays267_ren := {
  mixed := by kernel_rfl
  f267 := Try.func58.trans (congrArg some (by kernel_rfl))
  f314 := Try.func59.trans (congrArg some (by kernel_rfl))
  t3 := Try.underlying3
  a3 := Try.isAgg3
  z3 := Try.sizeOf3
  v3 := Try.zeroValue3
  t4 := Try.underlying4
  a4 := Try.isAgg4
  z4 := Try.sizeOf4
  v4 := Try.zeroValue4
  t5 := Try.underlying5
  a5 := Try.isAgg5
  z5 := Try.sizeOf5
  v5 := Try.zeroValue5
  t9 := Try.underlying9
  a9 := Try.isAgg9
  z9 := Try.sizeOf9
  v9 := Try.zeroValue9
  t46 := Try.underlying93
  a46 := Try.isAgg93
  z46 := Try.sizeOf93
  v46 := Try.zeroValue93
  t51 := Try.underlying94
  a51 := Try.isAgg94
  z51 := Try.sizeOf94
  v51 := Try.zeroValue94
  t146 := Try.underlying95
  a146 := Try.isAgg95
  z146 := Try.sizeOf95
  v146 := Try.zeroValue95 }
open Go.RowKit Go.Lib in
theorem Try.bytealg_IndexRabinKarp (s sep : ByteArray) (h1 : 1 ≤ sep.size) (h2 : sep.size ≤ s.size) (hs : s.size < 4294967281) (w : World) :
    Calls Try.prog 58 #[.string s, .string sep] w fun e w' => e = .returned (.int .i64 (Lib.index s.data.toList sep.data.toList)) ∧ w' = w := Any.bytealg_IndexRabinKarp Try.lays267 s sep h1 h2 hs w
def Try.lays219_ren : Go.Shelf.Ren := ⟨fun | 219 => 54 | 217 => 53 | 225 => 56 | 224 => 57 | 267 => 58 | 266 => 55 | 314 => 59 | n => n, fun | 9 => 9 | 3 => 3 | 4 => 4 | 5 => 5 | 46 => 93 | 146 => 95 | 51 => 94 | n => n, fun | 1 => 0 | n => n⟩
theorem Try.lays219 : Go.Proofs.Lays.n219 Try.prog Try.lays219_ren := {
  mixed := by kernel_rfl
  f217 := Try.func53.trans (congrArg some (by kernel_rfl))
  f219 := Try.func54.trans (congrArg some (by kernel_rfl))
  f224 := Try.func57.trans (congrArg some (by kernel_rfl))
  f225 := Try.func56.trans (congrArg some (by kernel_rfl))
  f266 := Try.func55.trans (congrArg some (by kernel_rfl))
  f267 := Try.func58.trans (congrArg some (by kernel_rfl))
  f314 := Try.func59.trans (congrArg some (by kernel_rfl))
  t3 := Try.underlying3
  a3 := Try.isAgg3
  z3 := Try.sizeOf3
  v3 := Try.zeroValue3
  t4 := Try.underlying4
  a4 := Try.isAgg4
  z4 := Try.sizeOf4
  v4 := Try.zeroValue4
  t5 := Try.underlying5
  a5 := Try.isAgg5
  z5 := Try.sizeOf5
  v5 := Try.zeroValue5
  t9 := Try.underlying9
  a9 := Try.isAgg9
  z9 := Try.sizeOf9
  v9 := Try.zeroValue9
  t46 := Try.underlying93
  a46 := Try.isAgg93
  z46 := Try.sizeOf93
  v46 := Try.zeroValue93
  t51 := Try.underlying94
  a51 := Try.isAgg94
  z51 := Try.sizeOf94
  v51 := Try.zeroValue94
  t146 := Try.underlying95
  a146 := Try.isAgg95
  z146 := Try.sizeOf95
  v146 := Try.zeroValue95
  g1 := by kernel_rfl }
open Go.RowKit Go.Lib in
/-- internal/stringslite.Index (what strings.Index calls) AT A substr OF ONE BYTE c: IT RETURNS 'Lib.indexByte s c'; the world is as it was. (LAID: no walk: one application.) -/
theorem Try.stringslite_Index_one (s : ByteArray) (c : UInt8) (w : World) :
    Calls Try.prog 54 #[.string s, .string ⟨#[c]⟩] w fun e w' => e = .returned (.int .i64 (Lib.indexByte s.data.toList c)) ∧ w' = w := Any.stringslite_Index_one Try.lays219 s c w
open Go.RowKit Go.Lib in
/-- internal/stringslite.Index (what strings.Index calls) AT A substr OF WHATEVER LENGTH: IT RETURNS 'Lib.index s substr'; the world is as it was. 'm': what internal/bytealg.MaxLen holds: whatever. (LAID: no walk: one application.) -/
theorem Try.stringslite_Index (s sub : ByteArray) (m : Int) (w : World) (hs : s.size < 4294967281) (hm : w.cell? ⟨0, 0, none⟩ = some (.int .i64 m)) :
    Calls Try.prog 54 #[.string s, .string sub] w fun e w' => e = .returned (.int .i64 (Lib.index s.data.toList sub.data.toList)) ∧ w' = w := Any.stringslite_Index Try.lays219 s sub m w hs hm
def Try.lays220_ren : Go.Shelf.Ren := ⟨fun | 220 => 52 | 219 => 54 | 217 => 53 | 225 => 56 | 224 => 57 | 267 => 58 | 266 => 55 | 314 => 59 | n => n, fun | 9 => 9 | 4 => 4 | 3 => 3 | 5 => 5 | 46 => 93 | 146 => 95 | 51 => 94 | n => n, fun | 1 => 0 | n => n⟩
theorem Try.lays220 : Go.Proofs.Lays.n220 Try.prog Try.lays220_ren := {
  mixed := by kernel_rfl
  f217 := Try.func53.trans (congrArg some (by kernel_rfl))
  f219 := Try.func54.trans (congrArg some (by kernel_rfl))
  f220 := Try.func52.trans (congrArg some (by kernel_rfl))
  f224 := Try.func57.trans (congrArg some (by kernel_rfl))
  f225 := Try.func56.trans (congrArg some (by kernel_rfl))
  f266 := Try.func55.trans (congrArg some (by kernel_rfl))
  f267 := Try.func58.trans (congrArg some (by kernel_rfl))
  f314 := Try.func59.trans (congrArg some (by kernel_rfl))
  t3 := Try.underlying3
  a3 := Try.isAgg3
  z3 := Try.sizeOf3
  v3 := Try.zeroValue3
  t4 := Try.underlying4
  a4 := Try.isAgg4
  z4 := Try.sizeOf4
  v4 := Try.zeroValue4
  t5 := Try.underlying5
  a5 := Try.isAgg5
  z5 := Try.sizeOf5
  v5 := Try.zeroValue5
  t9 := Try.underlying9
  a9 := Try.isAgg9
  z9 := Try.sizeOf9
  v9 := Try.zeroValue9
  t46 := Try.underlying93
  a46 := Try.isAgg93
  z46 := Try.sizeOf93
  v46 := Try.zeroValue93
  t51 := Try.underlying94
  a51 := Try.isAgg94
  z51 := Try.sizeOf94
  v51 := Try.zeroValue94
  t146 := Try.underlying95
  a146 := Try.isAgg95
  z146 := Try.sizeOf95
  v146 := Try.zeroValue95
  g1 := by kernel_rfl }
open Go.RowKit Go.Lib in
/-- internal/stringslite.Cut (what strings.Cut calls): IT RETURNS 'Lib.cut s sep'; the world is as it was but for the count of draws. (LAID: no walk: one application.) -/
theorem Try.stringslite_Cut (s sep : ByteArray) (m : Int) (w : World) (hs : s.size < 4294967281) (hm : w.cell? ⟨0, 0, none⟩ = some (.int .i64 m)) :
    Calls Try.prog 52 #[.string s, .string sep] w fun e w' => e = .returned (.tuple #[.string ⟨(Lib.cut s.data.toList sep.data.toList).1.toArray⟩, .string ⟨(Lib.cut s.data.toList sep.data.toList).2.1.toArray⟩, .bool (Lib.cut s.data.toList sep.data.toList).2.2]) ∧ ∃ n, w' = w.drewN n := Any.stringslite_Cut Try.lays220 s sep m w hs hm
def Try.lays145_ren : Go.Shelf.Ren := ⟨fun | 145 => 49 | 220 => 52 | 219 => 54 | 217 => 53 | 225 => 56 | 224 => 57 | 267 => 58 | 266 => 55 | 314 => 59 | n => n, fun | 9 => 9 | 4 => 4 | 59 => 87 | 3 => 3 | 5 => 5 | 46 => 93 | 146 => 95 | 51 => 94 | n => n, fun | 1 => 0 | n => n⟩
theorem Try.lays145 : Go.Proofs.Lays.n145 Try.prog Try.lays145_ren := {
  mixed := by kernel_rfl
  f145 := Try.func49.trans (congrArg some (by kernel_rfl))
  f217 := Try.func53.trans (congrArg some (by kernel_rfl))
  f219 := Try.func54.trans (congrArg some (by kernel_rfl))
  f220 := Try.func52.trans (congrArg some (by kernel_rfl))
  f224 := Try.func57.trans (congrArg some (by kernel_rfl))
  f225 := Try.func56.trans (congrArg some (by kernel_rfl))
  f266 := Try.func55.trans (congrArg some (by kernel_rfl))
  f267 := Try.func58.trans (congrArg some (by kernel_rfl))
  f314 := Try.func59.trans (congrArg some (by kernel_rfl))
  t3 := Try.underlying3
  a3 := Try.isAgg3
  z3 := Try.sizeOf3
  v3 := Try.zeroValue3
  t4 := Try.underlying4
  a4 := Try.isAgg4
  z4 := Try.sizeOf4
  v4 := Try.zeroValue4
  t5 := Try.underlying5
  a5 := Try.isAgg5
  z5 := Try.sizeOf5
  v5 := Try.zeroValue5
  t9 := Try.underlying9
  a9 := Try.isAgg9
  z9 := Try.sizeOf9
  v9 := Try.zeroValue9
  t46 := Try.underlying93
  a46 := Try.isAgg93
  z46 := Try.sizeOf93
  v46 := Try.zeroValue93
  t51 := Try.underlying94
  a51 := Try.isAgg94
  z51 := Try.sizeOf94
  v51 := Try.zeroValue94
  t59 := Try.underlying87
  a59 := Try.isAgg87
  z59 := Try.sizeOf87
  v59 := Try.zeroValue87
  t146 := Try.underlying95
  a146 := Try.isAgg95
  z146 := Try.sizeOf95
  v146 := Try.zeroValue95
  g1 := by kernel_rfl }
open Go.RowKit Go.Lib in
/-- strings.Cut: "Cut slices s around the first instance of sep, returning the text before and after sep. The found result reports whether sep appears in s. If sep does not appear in s, cut returns s, "", false.": IT RETURNS 'Lib.cut s sep'; the world is as it was but for the count of draws. (LAID: no walk: one application.) -/
theorem Try.strings_Cut (s sep : ByteArray) (m : Int) (w : World) (hs : s.size < 4294967281) (hm : w.cell? ⟨0, 0, none⟩ = some (.int .i64 m)) :
    Calls Try.prog 49 #[.string s, .string sep] w fun e w' => e = .returned (.tuple #[.string ⟨(Lib.cut s.data.toList sep.data.toList).1.toArray⟩, .string ⟨(Lib.cut s.data.toList sep.data.toList).2.1.toArray⟩, .bool (Lib.cut s.data.toList sep.data.toList).2.2]) ∧ ∃ n, w' = w.drewN n := Any.strings_Cut Try.lays145 s sep m w hs hm
def Try.laysM219_ren : Go.Shelf.Ren := ⟨fun | 219 => 54 | 217 => 53 | 225 => 56 | 224 => 57 | 267 => 58 | 266 => 55 | 314 => 59 | n => n, fun | 9 => 9 | 3 => 3 | 4 => 4 | 5 => 5 | 46 => 93 | 146 => 95 | 51 => 94 | n => n, fun | 1 => 0 | n => n⟩
theorem Try.laysM219 : Go.Proofs.LaysM.n219 Try.prog Try.laysM219_ren := {
  mixed := by kernel_rfl
  f217 := Try.func53.trans (congrArg some (by kernel_rfl))
  f219 := Try.func54.trans (congrArg some (by kernel_rfl))
  f224 := Try.func57.trans (congrArg some (by kernel_rfl))
  f225 := Try.func56.trans (congrArg some (by kernel_rfl))
  f266 := Try.func55.trans (congrArg some (by kernel_rfl))
  f267 := Try.func58.trans (congrArg some (by kernel_rfl))
  f314 := Try.func59.trans (congrArg some (by kernel_rfl))
  t3 := Try.underlying3
  a3 := Try.isAgg3
  z3 := Try.sizeOf3
  v3 := Try.zeroValue3
  t4 := Try.underlying4
  a4 := Try.isAgg4
  z4 := Try.sizeOf4
  v4 := Try.zeroValue4
  t5 := Try.underlying5
  a5 := Try.isAgg5
  z5 := Try.sizeOf5
  v5 := Try.zeroValue5
  t9 := Try.underlying9
  a9 := Try.isAgg9
  z9 := Try.sizeOf9
  v9 := Try.zeroValue9
  t46 := Try.underlying93
  a46 := Try.isAgg93
  z46 := Try.sizeOf93
  v46 := Try.zeroValue93
  t51 := Try.underlying94
  a51 := Try.isAgg94
  z51 := Try.sizeOf94
  v51 := Try.zeroValue94
  t146 := Try.underlying95
  a146 := Try.isAgg95
  z146 := Try.sizeOf95
  v146 := Try.zeroValue95
  g1 := by kernel_rfl
  i3 := by kernel_rfl
  i4 := by kernel_rfl
  i5 := by kernel_rfl
  i9 := by kernel_rfl
  i46 := by kernel_rfl
  i51 := by kernel_rfl
  i146 := by kernel_rfl
  m1 := by kernel_rfl
  s1_3 := fun w h => Go.Proofs.cell_of_shapedOpen_int (zero := #[.int .i64 0]) (t := 3) h (of_decide_eq_true (by kernel_rfl)) (by kernel_rfl) rfl (by kernel_rfl) (by kernel_rfl) Try.underlying3 }
open Go.RowKit Go.Lib in
theorem Try.stringslite_Index_shaped (s sub : ByteArray) (w : World) (h : w.ShapedOpen Try.prog) (hs : s.size < 4294967281) :
    Calls Try.prog 54 #[.string s, .string sub] w fun e w' => e = .returned (.int .i64 (Lib.index s.data.toList sub.data.toList)) ∧ w' = w := Any.stringslite_Index_shaped Try.laysM219 s sub w h hs
def Try.laysM220_ren : Go.Shelf.Ren := ⟨fun | 220 => 52 | 219 => 54 | 217 => 53 | 225 => 56 | 224 => 57 | 267 => 58 | 266 => 55 | 314 => 59 | n => n, fun | 9 => 9 | 4 => 4 | 3 => 3 | 5 => 5 | 46 => 93 | 146 => 95 | 51 => 94 | n => n, fun | 1 => 0 | n => n⟩
theorem Try.laysM220 : Go.Proofs.LaysM.n220 Try.prog Try.laysM220_ren := {
  mixed := by kernel_rfl
  f217 := Try.func53.trans (congrArg some (by kernel_rfl))
  f219 := Try.func54.trans (congrArg some (by kernel_rfl))
  f220 := Try.func52.trans (congrArg some (by kernel_rfl))
  f224 := Try.func57.trans (congrArg some (by kernel_rfl))
  f225 := Try.func56.trans (congrArg some (by kernel_rfl))
  f266 := Try.func55.trans (congrArg some (by kernel_rfl))
  f267 := Try.func58.trans (congrArg some (by kernel_rfl))
  f314 := Try.func59.trans (congrArg some (by kernel_rfl))
  t3 := Try.underlying3
  a3 := Try.isAgg3
  z3 := Try.sizeOf3
  v3 := Try.zeroValue3
  t4 := Try.underlying4
  a4 := Try.isAgg4
  z4 := Try.sizeOf4
  v4 := Try.zeroValue4
  t5 := Try.underlying5
  a5 := Try.isAgg5
  z5 := Try.sizeOf5
  v5 := Try.zeroValue5
  t9 := Try.underlying9
  a9 := Try.isAgg9
  z9 := Try.sizeOf9
  v9 := Try.zeroValue9
  t46 := Try.underlying93
  a46 := Try.isAgg93
  z46 := Try.sizeOf93
  v46 := Try.zeroValue93
  t51 := Try.underlying94
  a51 := Try.isAgg94
  z51 := Try.sizeOf94
  v51 := Try.zeroValue94
  t146 := Try.underlying95
  a146 := Try.isAgg95
  z146 := Try.sizeOf95
  v146 := Try.zeroValue95
  g1 := by kernel_rfl
  i3 := by kernel_rfl
  i4 := by kernel_rfl
  i5 := by kernel_rfl
  i9 := by kernel_rfl
  i46 := by kernel_rfl
  i51 := by kernel_rfl
  i146 := by kernel_rfl
  m1 := by kernel_rfl
  s1_3 := fun w h => Go.Proofs.cell_of_shapedOpen_int (zero := #[.int .i64 0]) (t := 3) h (of_decide_eq_true (by kernel_rfl)) (by kernel_rfl) rfl (by kernel_rfl) (by kernel_rfl) Try.underlying3 }
open Go.RowKit Go.Lib in
theorem Try.stringslite_Cut_shaped (s sep : ByteArray) (w : World) (h : w.ShapedOpen Try.prog) (hs : s.size < 4294967281) :
    Calls Try.prog 52 #[.string s, .string sep] w fun e w' => e = .returned (.tuple #[.string ⟨(Lib.cut s.data.toList sep.data.toList).1.toArray⟩, .string ⟨(Lib.cut s.data.toList sep.data.toList).2.1.toArray⟩, .bool (Lib.cut s.data.toList sep.data.toList).2.2]) ∧ ∃ n, w' = w.drewN n := Any.stringslite_Cut_shaped Try.laysM220 s sep w h hs
def Try.laysM145_ren : Go.Shelf.Ren := ⟨fun | 145 => 49 | 220 => 52 | 219 => 54 | 217 => 53 | 225 => 56 | 224 => 57 | 267 => 58 | 266 => 55 | 314 => 59 | n => n, fun | 9 => 9 | 4 => 4 | 59 => 87 | 3 => 3 | 5 => 5 | 46 => 93 | 146 => 95 | 51 => 94 | n => n, fun | 1 => 0 | n => n⟩
theorem Try.laysM145 : Go.Proofs.LaysM.n145 Try.prog Try.laysM145_ren := {
  mixed := by kernel_rfl
  f145 := Try.func49.trans (congrArg some (by kernel_rfl))
  f217 := Try.func53.trans (congrArg some (by kernel_rfl))
  f219 := Try.func54.trans (congrArg some (by kernel_rfl))
  f220 := Try.func52.trans (congrArg some (by kernel_rfl))
  f224 := Try.func57.trans (congrArg some (by kernel_rfl))
  f225 := Try.func56.trans (congrArg some (by kernel_rfl))
  f266 := Try.func55.trans (congrArg some (by kernel_rfl))
  f267 := Try.func58.trans (congrArg some (by kernel_rfl))
  f314 := Try.func59.trans (congrArg some (by kernel_rfl))
  t3 := Try.underlying3
  a3 := Try.isAgg3
  z3 := Try.sizeOf3
  v3 := Try.zeroValue3
  t4 := Try.underlying4
  a4 := Try.isAgg4
  z4 := Try.sizeOf4
  v4 := Try.zeroValue4
  t5 := Try.underlying5
  a5 := Try.isAgg5
  z5 := Try.sizeOf5
  v5 := Try.zeroValue5
  t9 := Try.underlying9
  a9 := Try.isAgg9
  z9 := Try.sizeOf9
  v9 := Try.zeroValue9
  t46 := Try.underlying93
  a46 := Try.isAgg93
  z46 := Try.sizeOf93
  v46 := Try.zeroValue93
  t51 := Try.underlying94
  a51 := Try.isAgg94
  z51 := Try.sizeOf94
  v51 := Try.zeroValue94
  t59 := Try.underlying87
  a59 := Try.isAgg87
  z59 := Try.sizeOf87
  v59 := Try.zeroValue87
  t146 := Try.underlying95
  a146 := Try.isAgg95
  z146 := Try.sizeOf95
  v146 := Try.zeroValue95
  g1 := by kernel_rfl
  i3 := by kernel_rfl
  i4 := by kernel_rfl
  i5 := by kernel_rfl
  i9 := by kernel_rfl
  i46 := by kernel_rfl
  i51 := by kernel_rfl
  i59 := by kernel_rfl
  i146 := by kernel_rfl
  m1 := by kernel_rfl
  s1_3 := fun w h => Go.Proofs.cell_of_shapedOpen_int (zero := #[.int .i64 0]) (t := 3) h (of_decide_eq_true (by kernel_rfl)) (by kernel_rfl) rfl (by kernel_rfl) (by kernel_rfl) Try.underlying3 }
open Go.RowKit Go.Lib in
theorem Try.strings_Cut_shaped (s sep : ByteArray) (w : World) (h : w.ShapedOpen Try.prog) (hs : s.size < 4294967281) :
    Calls Try.prog 49 #[.string s, .string sep] w fun e w' => e = .returned (.tuple #[.string ⟨(Lib.cut s.data.toList sep.data.toList).1.toArray⟩, .string ⟨(Lib.cut s.data.toList sep.data.toList).2.1.toArray⟩, .bool (Lib.cut s.data.toList sep.data.toList).2.2]) ∧ ∃ n, w' = w.drewN n := Any.strings_Cut_shaped Try.laysM145 s sep w h hs
def Try.lays206_ren : Go.Shelf.Ren := ⟨fun | 206 => 51 | n => n, fun | 9 => 9 | 4 => 4 | 3 => 3 | n => n, fun | n => n⟩
theorem Try.lays206 : Go.Proofs.Lays.n206 Try.prog Try.lays206_ren := {
  mixed := by kernel_rfl
  f206 := Try.func51.trans (congrArg some (by kernel_rfl))
  t3 := Try.underlying3
  a3 := Try.isAgg3
  z3 := Try.sizeOf3
  v3 := Try.zeroValue3
  t4 := Try.underlying4
  a4 := Try.isAgg4
  z4 := Try.sizeOf4
  v4 := Try.zeroValue4
  t9 := Try.underlying9
  a9 := Try.isAgg9
  z9 := Try.sizeOf9
  v9 := Try.zeroValue9 }
open Go.RowKit Go.Lib in
/-- internal/stringslite.HasPrefix (what strings.HasPrefix calls). (LAID: no walk: one application.) -/
theorem Try.stringslite_HasPrefix (s p : ByteArray) (w : World) :
    Calls Try.prog 51 #[.string s, .string p] w fun e w' => e = .returned (.bool (Lib.hasPrefix s.data.toList p.data.toList)) ∧ w' = w := Any.stringslite_HasPrefix Try.lays206 s p w
def Try.lays115_ren : Go.Shelf.Ren := ⟨fun | 115 => 36 | n => n, fun | 37 => 33 | 4 => 4 | 9 => 9 | 5 => 5 | n => n, fun | n => n⟩
theorem Try.lays115 : Go.Proofs.Lays.n115 Try.prog Try.lays115_ren := {
  mixed := by kernel_rfl
  f115 := Try.func36.trans (congrArg some (by kernel_rfl))
  t4 := Try.underlying4
  a4 := Try.isAgg4
  z4 := Try.sizeOf4
  v4 := Try.zeroValue4
  t9 := Try.underlying9
  a9 := Try.isAgg9
  z9 := Try.sizeOf9
  v9 := Try.zeroValue9
  t37 := Try.underlying33
  a37 := Try.isAgg33
  z37 := Try.sizeOf33
  v37 := Try.zeroValue33 }
open Go.Proofs Go.RowKit Go.Lib in
/-- bytes.Equal, each argument with what 'string(..)' of it gives. (LAID: no walk: one application.) -/
theorem Try.bytes_Equal_strs (v1 v2 : Value) (t1 t2 : ByteArray) (w : World) (h1 : (convert 33 9 v1).run Try.prog w = .ok (.string t1) w) (h2 : (convert 33 9 v2).run Try.prog w = .ok (.string t2) w) :
    Calls Try.prog 36 #[v1, v2] w fun e w' => e = .returned (.bool (t1.toList == t2.toList)) ∧ w' = w := Any.bytes_Equal_strs Try.lays115 v1 v2 t1 t2 w h1 h2
def Try.laysnb115_ren : Go.Shelf.Ren := ⟨fun | 115 => 36 | n => n, fun | 37 => 33 | 4 => 4 | 9 => 9 | 5 => 5 | n => n, fun | n => n⟩
theorem Try.laysnb115 : Go.Proofs.Lays.nb115 Try.prog Try.laysnb115_ren := {
  mixed := by kernel_rfl
  f115 := Try.func36.trans (congrArg some (by kernel_rfl))
  t4 := Try.underlying4
  a4 := Try.isAgg4
  z4 := Try.sizeOf4
  v4 := Try.zeroValue4
  t9 := Try.underlying9
  a9 := Try.isAgg9
  z9 := Try.sizeOf9
  v9 := Try.zeroValue9
  t37 := Try.underlying33
  a37 := Try.isAgg33
  z37 := Try.sizeOf33
  v37 := Try.zeroValue33
  t5 := Try.underlying5
  a5 := Try.isAgg5
  z5 := Try.sizeOf5
  v5 := Try.zeroValue5 }
/-- bytes.Equal: WHOLE. (LAID: no walk: one application.) -/
theorem Try.bytes_Equal_all (p1 p2 : Option Addr) (n c m d : Nat) (xs ys : List Int) (w : World) (hx : xs.length = n) (hy : ys.length = m) (h1 : Lib.BytesIn w p1 n xs) (h2 : Lib.BytesIn w p2 m ys) :
    Calls Try.prog 36 #[.slice p1 n c, .slice p2 m d] w fun e w' => e = .returned (.bool (Lib.bytesOf xs == Lib.bytesOf ys)) ∧ w' = w := Any.bytes_Equal_all Try.laysnb115 p1 p2 n c m d xs ys w hx hy h1 h2
/-- bytes.Equal: "Equal reports whether a and b are the same length and contain the same bytes. A nil argument is equivalent to an empty slice.": IT RETURNS 'the bytes of the one == the bytes of the other'; the world is as it was. THE TWO ARGUMENTS COME AS WHATEVER VALUES, each with the one fact that the walk wants of it: what 'string(..)' of it gives: for a slice whose cells you know: 'run_convert_bytes_arg' (Derived/Laws/BytesArg.lean) hands that fact; for a nil one: 'run_convert_bytes_nil' (with xs := []). (LAID: no walk: one application.) -/
theorem Try.bytes_Equal (v1 v2 : Value) (xs ys : List Int) (w : World) (h1 : (convert 33 9 v1).run Try.prog w = .ok (.string (strOfNums xs)) w) (h2 : (convert 33 9 v2).run Try.prog w = .ok (.string (strOfNums ys)) w) :
    Calls Try.prog 36 #[v1, v2] w fun e w' => e = .returned (.bool (Lib.bytesOf xs == Lib.bytesOf ys)) ∧ w' = w := Any.bytes_Equal Try.lays115 v1 v2 xs ys w h1 h2
end Go.Proofs
