/-
  General words of this session over any program: a slice that reads as a list of cells; an append from such a slice onto a row of the call's own. No condition on a program.
  General words over any program: a block that is known whole; what stores, allocations and appends leave of it. No condition on a program.
  Maps of the call's own with whole numbers for keys and whatever for elements, as functions. General words; conditions on the types alone.
  What a call's own blocks hold, part by part, no part touching another. General words over any program; no condition.
  What a deps.Graph is in memory, part by part, and the words for its changes. No condition.
  DERIVED: THE SHELF's CONTRACTS AT THIS DUMP, IN PLAIN WORDS (tools/lay-plain.mjs out of 'YtjfejimghbohdaaKeys0.lean', which tools/lay-shelf.mjs wrote): THE SAME DECLARATIONS UNDER THE SAME NAMES: 'import', 'namespace', 'open', 'def', 'theorem' AND NOTHING ELSE: no command of the shelf's: FOR A HAND-IN. Each laying: the table of numbers ('.._ren') and one theorem, a field a fact of the dump's own or the kernel's comparison; each contract: ONE APPLICATION.
-/
import Derived.WalkKit
import Derived.Maps.AppendAt
import Derived.Laws.OwnMore
import Derived.Laws.AppendOwnNone
import Derived.OpenShut
import Derived.Deep.DeepMust
import Derived.RangeFuncNested
import Derived.Deep.QuietTactic
import Derived.Maps.OwnSet
import Derived.Maps.OwnOps
import Derived.Maps.Keyed
import Derived.Test.YtjfejimghbohdaaProg
import Derived.Lib.SlKeysI
import Derived.KernelRfl
import Derived.WalkSpells
import Derived.BigQuiet
import Derived.Shelf.SlIterI.Nil
import Derived.Shelf.SortM.Plain
import Derived.Shelf.SortM.SortNone
import Derived.Ground.GgzProg
import Derived.Ground.SlgmProg
namespace Go.Proofs.Ytjfejimghbohdaa
open Go.RowKit

theorem hide {p : Prop} (h : p) : Hid p := h
theorem results_tmp4 {fn : Func} {t u v x : Tmp} (h : fn.results = #[.tmp t, .tmp u, .tmp v, .tmp x]) (tmps : Array Value) (P : Program) (w : World) :
    (results fn tmps).run P w = .ok (.tuple #[tmps.getD t undef, tmps.getD u undef, tmps.getD v undef, tmps.getD x undef]) w := by simp [results, h]

def I64 (n : Int) : Prop := -9223372036854775808 ≤ n ∧ n ≤ 9223372036854775807
theorem i64_of_wf {n : Int} (h : (Lit.int .i64 n).wf = true) : I64 n := bounds_i64 h
theorem wf64 {n : Int} (h : I64 n) : (Lit.int .i64 n).wf = true := WalkArith.wf_i64 ⟨h.1, h.2⟩

/-- the slice's address A leads to the cells xs, below block B -/
def Cells (B : Nat) (w : World) (A : Option Addr) (xs : List Value) : Prop :=
  xs ≠ [] → ∃ b off, A = some ⟨b, off, none⟩ ∧ b < B ∧ ∀ i u, xs[i]? = some u → w.cell? ⟨b, off + i, none⟩ = some u
/-- a slice of ints below block B that reads as zs -/
def Ints (B : Nat) (w : World) (A : Option Addr) (zs : List Int) : Prop :=
  zs ≠ [] → ∃ b off, A = some ⟨b, off, none⟩ ∧ b < B ∧ ∀ i, i < zs.length → w.cell? ⟨b, off + i, none⟩ = some (.int .i64 (zs.getD i 0))
theorem Ints.cells {B : Nat} {w : World} {A : Option Addr} {zs : List Int} (h : Ints B w A zs) : Cells B w A (zs.map (Value.int .i64)) := fun hne => by
  obtain ⟨b, off, rfl, hlt, hc⟩ := h (by intro e; simp [e] at hne)
  refine ⟨b, off, rfl, hlt, fun i u hu => ?_⟩
  rw [List.getElem?_map, Option.map_eq_some_iff] at hu
  obtain ⟨n, hn, rfl⟩ := hu
  obtain ⟨hi, rfl⟩ := List.getElem?_eq_some_iff.1 hn
  rw [hc i hi]; simp [hi]
theorem Ints.below {B B' : Nat} {w w' : World} {A : Option Addr} {zs : List Int} (h : Ints B w A zs) (hb : Below B' w w') (hB : B ≤ B') : Ints B w' A zs := fun hne => by
  obtain ⟨b, off, rfl, hlt, hc⟩ := h hne
  exact ⟨b, off, rfl, hlt, fun i hi => (hb.cell (p := ⟨b, off + i, none⟩) (show b < B' by omega)).trans (hc i hi)⟩
theorem Ints.more {B B' : Nat} {w : World} {A : Option Addr} {zs : List Int} (h : Ints B w A zs) (hB : B ≤ B') : Ints B' w A zs := fun hne => by
  obtain ⟨b, off, rfl, hlt, hc⟩ := h hne
  exact ⟨b, off, rfl, by omega, hc⟩
/-- what the row's opening gives -/
theorem Ints.of_open {B : Nat} {w : World} {A : Option Addr} {zs : List Int} (h : zs ≠ [] → ∃ x, A = some x ∧ x.block < B ∧ ∀ j, j < zs.length → w.cell? (x.add j) = some (.int .i64 (zs.getD j 0))) : Ints B w A zs := fun hne => by
  obtain ⟨x, rfl, hb, hc⟩ := h hne
  have hl : 0 < zs.length := List.length_pos_iff.2 hne
  obtain ⟨b, off, spot⟩ := x
  have h0 := hc 0 hl
  have hspot : spot = none := by simpa [Addr.add] using World.cell?_spot h0
  subst hspot
  refine ⟨b, off, rfl, hb, fun i hi => ?_⟩
  have := hc i hi
  simp only [Addr.add] at this
  split at this
  · rename_i e; rw [e] at this ⊢; simpa using this
  · simpa using this
theorem Ints.of_own {B base : Nat} {w : World} {e : TypeId} {A : Option Addr} {n c : Nat} {zs : List Int} (h : w.ownsRow base e 1 (.slice A n c) n (zs.map (Value.int .i64))) (hB : w.heap.size ≤ B) : Ints B w A zs := fun hne => by
  have hl : 0 < zs.length := List.length_pos_iff.2 hne
  have hlen : zs.length = n := by have := h.1; simpa using this
  rcases h.2 with ⟨hv, h0⟩ | ⟨g, cap, cur, hv, _, hg, _⟩
  · omega
  · injection hv with hA _ hcap
    subst hA
    subst hcap
    have hlt : g < w.heap.size := (Array.getElem?_eq_some_iff.1 hg).1
    refine ⟨g, 0, rfl, by omega, fun i hi => ?_⟩
    rw [Nat.zero_add, h.cellAt i (by omega)]
    simp [hi]

section
variable {P : Program} (w : World)
theorem run_append_nil_src (base : Nat) (t ty e : TypeId) (i : TypeInfo) (size : Nat) (ht : P.underlying t = some (.slice e)) (hi : P.info? e = some i)
    (v : Value) (n : Nat) (xs : List Value) (hown : w.ownsRow base e size v n xs) (c : Nat) : (Builtin.append_ #[t, t] ty #[v, .slice none 0 c]).run P w = .ok v w := by
  rcases hown.2 with ⟨rfl, rfl⟩ | ⟨g, cap, cur, rfl, _, _, hnc, _⟩
  · simp [Builtin.append_, run_underlying ht, sizeOf, typeInfo, hi, Builtin.lenOf, Builtin.firstCells]
  · simp [Builtin.append_, run_underlying ht, sizeOf, typeInfo, hi, Builtin.lenOf, Builtin.firstCells, hnc, storeCells]
theorem cells_add {B : Nat} {b off : Nat} {xs : List Value} (h : ∀ i u, xs[i]? = some u → w.cell? ⟨b, off + i, none⟩ = some u) (_ : b < B) :
    ∀ j u, xs[j]? = some u → w.cell? ((⟨b, off, none⟩ : Addr).add j) = some u := fun j u hu => by
  have := h j u hu
  unfold Addr.add
  split
  · rename_i e; subst e; simpa using this
  · exact this
/-- append(v, src...) whatever src is -/
theorem run_append_src (base : Nat) (t ty e : TypeId) (i : TypeInfo) (z : Value) (size bytes : Nat) (ht : P.underlying t = some (.slice e)) (hi : P.info? e = some i) (hz : i.zero = some z)
    (hsize : i.size = size) (hby : i.bytes = bytes) (hzs : z.cells.size = size) (hsz : 0 < size)
    (v : Value) (n : Nat) (xs : List Value) (hown : w.ownsRow base e size v n xs)
    (B : Nat) (A : Option Addr) (m c : Nat) (news : List Value) (hm : news.length = m * size) (hr : Cells B w A news) (h1 : ∀ u ∈ news, u.oneCell' = true)
    (h63 : n + m ≤ maxLen) (hbytes : (n + m) * bytes ≤ 140737488355328) (hbase : base ≤ w.heap.size) :
    ∃ v' w', (Builtin.append_ #[t, t] ty #[v, .slice A m c]).run P w = .ok v' w' ∧ w'.ownsRow base e size v' (n + m) (xs ++ news) ∧ w.grownBy w' v.ownBlock ∧
      (v'.ownBlock = v.ownBlock ∨ v'.ownBlock = some w.heap.size) := by
  by_cases hne : news = []
  · subst hne
    have hm0 : m = 0 := by
      have : m * size = 0 := by simpa using hm.symm
      rcases Nat.mul_eq_zero.1 this with h | h <;> omega
    subst hm0
    rcases A with _ | ad
    · exact ⟨v, w, run_append_nil_src w base t ty e i size ht hi v n xs hown c, by simpa using hown, World.grownBy.refl w _, .inl rfl⟩
    · obtain ⟨v', w', hrun, h2, h3, _, h5⟩ := run_append_own_at (P := P) w base t ty e i z size bytes ht hi hz hsize hby hzs hsz v n xs hown ad 0 c [] (by simp) (by simp) (by simp) h63 hbytes hbase
      exact ⟨v', w', hrun, h2, h3, h5⟩
  · obtain ⟨b, off, rfl, hb, hc⟩ := hr hne
    obtain ⟨v', w', hrun, h2, h3, _, h5⟩ := run_append_own_at (P := P) w base t ty e i z size bytes ht hi hz hsize hby hzs hsz v n xs hown _ m c news hm (cells_add w hc hb) h1 h63 hbytes hbase
    exact ⟨v', w', hrun, h2, h3, h5⟩
theorem wpList_append_src {ops : Array Oper} {rest : List Oper} {o : Oper} {a : Act} {Q : Exit → Act → World → Prop} (hgd : o.guard = none) (s x : Operand) (t : TypeId)
    (ho : o.op = .call { callee := .builtin .append, args := #[s, x], argTypes := #[t, t] })
    (base : Nat) (e : TypeId) (i : TypeInfo) (z : Value) (size bytes : Nat) (ht : P.underlying t = some (.slice e)) (hi : P.info? e = some i) (hz : i.zero = some z)
    (hsize : i.size = size) (hby : i.bytes = bytes) (hzs : z.cells.size = size) (hsz : 0 < size)
    (v : Value) (n : Nat) (xs : List Value) (hs : a.eval s = v) (hown : w.ownsRow base e size v n xs)
    (B : Nat) (A : Option Addr) (m c : Nat) (news : List Value) (hx : a.eval x = .slice A m c) (hm : news.length = m * size) (hr : Cells B w A news) (h1 : ∀ u ∈ news, u.oneCell' = true)
    (h63 : n + m ≤ maxLen) (hbytes : (n + m) * bytes ≤ 140737488355328) (hbase : base ≤ w.heap.size)
    (h : ∀ v' w', w'.ownsRow base e size v' (n + m) (xs ++ news) → w.grownBy w' v.ownBlock → (v'.ownBlock = v.ownBlock ∨ v'.ownBlock = some w.heap.size) → wpList P ops Q rest (a.put o.dst v') w') : wpList P ops Q (o :: rest) a w := by
  refine wpList_plain hgd fun _ hK => ?_
  obtain ⟨v', w', hrun, h2, h3, h4⟩ := run_append_src (P := P) w base t o.type e i z size bytes ht hi hz hsize hby hzs hsz v n xs hown B A m c news hm hr h1 h63 hbytes hbase
  unfold Oper.wp execOp
  simp only [ho, resolve, invoke, builtin, Sem.run_bind, Sem.run_pure, Result.andThen_ok, List.map_toArray, List.map_cons, List.map_nil, hs, hx, hrun]
  exact hK _ _ (h v' w' h2 h3 h4)
end
/-- what an append leaves of the call's own row and below it -/
theorem below_append {n₀ : Nat} {w W w' : World} {v : Value} {e : TypeId} {size n : Nat} {xs : List Value} (hb : Below n₀ w W) (hown : W.ownsRow n₀ e size v n xs) (hg : W.grownBy w' v.ownBlock) (hn : n₀ ≤ W.heap.size) : Below n₀ w w' :=
  hb.grown hg hn (fun k hk => (hown.lt k hk).1)
theorem own_slice {base : Nat} {w : World} {e : TypeId} {size n : Nat} {v : Value} {xs : List Value} (h : w.ownsRow base e size v n xs) : ∃ A c, v = .slice A n c := by
  rcases h.2 with ⟨rfl, rfl⟩ | ⟨g, cap, cur, rfl, _⟩
  · exact ⟨_, _, rfl⟩
  · exact ⟨_, _, rfl⟩
end Go.Proofs.Ytjfejimghbohdaa
namespace Go.Proofs.Ytjfejimghbohdaa
open Go.RowKit
set_option linter.unusedVariables false

/-- block b holds the cells cs of elements of type t -/
def Blk (W : World) (b : Nat) (cs : Array Value) (t : TypeId) : Prop := W.heap[b]? = some (.cells cs t (0, 0))
section
variable {W W' : World} {b : Nat} {cs : Array Value} {t : TypeId}
theorem Blk.lt (h : Blk W b cs t) : b < W.heap.size := (Array.getElem?_eq_some_iff.1 h).1
theorem Blk.cell (h : Blk W b cs t) (i : Nat) : W.cell? ⟨b, i, none⟩ = cs[i]? := by simp [World.cell?, show W.heap[b]? = _ from h]
theorem Blk.frozen (h : Blk W b cs t) (i : Nat) : W.frozen? ⟨b, i, none⟩ = false := by simp [World.frozen?, show W.heap[b]? = _ from h]
theorem Blk.same (h : Blk W b cs t) (e : W'.heap[b]? = W.heap[b]?) : Blk W' b cs t := e.trans h
theorem Blk.kept {row : Option Nat} (h : Blk W b cs t) (hg : W.grownBy W' row) (hne : some b ≠ row) : Blk W' b cs t := (hg.block b h.lt hne).trans h
theorem Blk.alloc (h : Blk W b cs t) (o : Obj) : Blk (W.alloc o) b cs t := h.kept (World.grownBy_alloc W o none) (by simp)
theorem Blk.below {B : Nat} (h : Blk W b cs t) (hb : Below B W W') (hB : b < B) : Blk W' b cs t := (hb.block b hB).trans h
theorem Blk.other (h : Blk W b cs t) {a : Addr} (hne : b ≠ a.block) (u : Value) : Blk (W.setCell a u) b cs t := (Below.heap_setCell W a u b hne).trans h
theorem Blk.set (h : Blk W b cs t) (i : Nat) (u : Value) : Blk (W.setCell ⟨b, i, none⟩ u) b (cs.setIfInBounds i u) t := by
  obtain ⟨hlt, hk⟩ := Array.getElem?_eq_some_iff.1 h
  show (W.heap.modify b _)[b]? = _
  rw [Array.getElem?_eq_getElem (by rw [Array.size_modify]; exact hlt), Array.getElem_modify_self, hk]
  rfl
theorem Blk.new (W : World) (cs : Array Value) (t : TypeId) : Blk (W.alloc (.cells cs t)) W.heap.size cs t := World.alloc_heap_new W _
end
/-- blocks of other element types are no rows of one -/
theorem Blk.not_row {W : World} {b : Nat} {cs : Array Value} {t e : TypeId} (h : Blk W b cs t) (hte : t ≠ e) {base size k : Nat} {v : Value} {xs : List Value} (hr : W.ownsRow base e size v k xs) : some b ≠ v.ownBlock := by
  rcases hr.2 with ⟨rfl, _⟩ | ⟨g, cap, cur, rfl, _, hgb, _⟩
  · simp [Value.ownBlock]
  · intro e'
    obtain rfl : b = g := by simpa [Value.ownBlock] using e'
    rw [show W.heap[b]? = _ from h] at hgb
    injection hgb with hgb
    injection hgb with _ h2 _
    exact hte h2
theorem Below.heap_cell_alloc (w : World) (o : Obj) (a : Addr) (h : a.block < w.heap.size) : (w.alloc o).cell? a = w.cell? a := World.cell?_of_block (Below.heap_alloc w o a.block h)
theorem results_nil {fn : Func} (h : fn.results = #[]) (tmps : Array Value) (P : Program) (w : World) : (results fn tmps).run P w = .ok (.tuple #[]) w := by simp [results, h]
theorem below_drewN' {B : Nat} {w W : World} (h : Below B w W) (q : Nat) : Below B w (W.drewN q) := ⟨h.os, h.tape, h.output, h.size, h.block⟩
theorem own_drewN {W : World} {base : Nat} {e : TypeId} {size n : Nat} {v : Value} {xs : List Value} (h : W.ownsRow base e size v n xs) (q : Nat) : (W.drewN q).ownsRow base e size v n xs := h
end Go.Proofs.Ytjfejimghbohdaa
namespace Go.Proofs.Ytjfejimghbohdaa
set_option linter.unusedVariables false
set_option linter.unusedSimpArgs false
open Go.RowKit Go.Maps

abbrev heldR (v : Value) : Option (DataW Value × List MemPlace) := some (.held v, [])
abbrev kV (k : Int) : Lit := .int .i64 k
theorem kV_key (k : Int) : WideAt.IsKeyLit (kV k) := trivial
theorem kV_ne {a b : Int} (h : a ≠ b) : kV a ≠ kV b := fun e => h (by injection e)
/-- what a map holds: by each key; how many -/
def MapV (D : DataW Value) (f : Int → Option Value) (s : Nat) : Prop := Tidy D ∧ size D = s ∧ ∀ k, has D (kV k) = (f k).isSome ∧ ∀ z, D.atKey (kV k) z = match f k with | some v => .held v | none => z
theorem MapV.none_ : MapV (.map []) (fun _ => none) 0 := ⟨tidy_empty, rfl, fun k => ⟨rfl, fun z => rfl⟩⟩
theorem MapV.put {D : DataW Value} {f : Int → Option Value} {s : Nat} (h : MapV D f s) (k : Int) (v : Value) : MapV (D.put (kV k) (.held v)) (fun x => if x = k then some v else f x) (if (f k).isSome then s else s + 1) := by
  obtain ⟨h1, h2, h3⟩ := h
  refine ⟨h1.put (kV_key k) _, ?_, fun x => ?_⟩
  · rw [size_put h1, (h3 k).1, h2]
  · by_cases e : x = k
    · subst e
      dsimp only
      rw [if_pos rfl]
      exact ⟨has_put_same h1.isMap (kV_key _) _, fun z => atKey_put_same h1.isMap (kV_key _) _ _⟩
    · dsimp only
      rw [if_neg e]
      exact ⟨(has_put_other (kV_ne e) _).trans (h3 x).1, fun z => (atKey_put_other (kV_ne e) _ _).trans ((h3 x).2 z)⟩
theorem MapV.del {D : DataW Value} {f : Int → Option Value} {s : Nat} (h : MapV D f s) (k : Int) : MapV (D.del (kV k)) (fun x => if x = k then none else f x) (if (f k).isSome then s - 1 else s) := by
  obtain ⟨h1, h2, h3⟩ := h
  refine ⟨h1.del _, ?_, fun x => ?_⟩
  · have := size_del (k := kV k) h1
    rw [(h3 k).1, h2] at this
    split <;> rename_i e
    · rw [if_pos e] at this; omega
    · rw [if_neg e] at this; omega
  · by_cases e : x = k
    · subst e
      dsimp only
      rw [if_pos rfl]
      exact ⟨has_del_same, fun z => atKey_del_same z⟩
    · dsimp only
      rw [if_neg e]
      exact ⟨(has_del_other (kV_ne e)).trans (h3 x).1, fun z => (atKey_del_other (kV_ne e) z).trans ((h3 x).2 z)⟩
def OwnV (P : Program) (kt : TypeId) (w : World) (b : Nat) (f : Int → Option Value) (s : Nat) : Prop := ∃ D : DataW Value, w.ownsMap P kt heldR b s D ∧ MapV D f s
theorem ownsMap_tight {H : Type} {P : Program} {k : TypeId} {R : Value → Option (DataW H × List MemPlace)} {w : World} {b n : Nat} {D : DataW H} (h : w.ownsMap P k R b n D) : w.ownsMap P k R b (size D) D := by
  obtain ⟨es, clock, h1, h2, h3, rfl⟩ := h
  exact ⟨es, clock, h1, h2, by have := length_sorted (es.toList.map (WideElems.rg P k R)); simp [Maps.size, this], rfl⟩
section
variable {P : Program} {kt et t : TypeId} {w w' : World} {b s : Nat} {f : Int → Option Value}
theorem OwnV.made (w : World) (P : Program) (kt : TypeId) : OwnV P kt (w.alloc (.map #[] 0)) w.heap.size (fun _ => none) 0 := ⟨_, World.ownsMap_made _ _ _ _, MapV.none_⟩
theorem OwnV.same (h : OwnV P kt w b f s) (hb : w'.heap[b]? = w.heap[b]?) : OwnV P kt w' b f s := by
  obtain ⟨D, ⟨es, clock, h1, h2⟩, h3⟩ := h
  exact ⟨D, ⟨es, clock, hb.trans h1, h2⟩, h3⟩
theorem OwnV.obj (h : OwnV P kt w b f s) : ∃ es clock, w.heap[b]? = some (.map es clock) := by obtain ⟨D, ⟨es, clock, h1, _⟩, _⟩ := h; exact ⟨es, clock, h1⟩
theorem OwnV.lt (h : OwnV P kt w b f s) : b < w.heap.size := by obtain ⟨D, h1, _⟩ := h; exact h1.lt
theorem OwnV.kept {row : Option Nat} (h : OwnV P kt w b f s) (hg : w.grownBy w' row) (hne : some b ≠ row) : OwnV P kt w' b f s := h.same (hg.block b h.lt hne)
theorem OwnV.alloc (h : OwnV P kt w b f s) (o : Obj) : OwnV P kt (w.alloc o) b f s := h.kept (World.grownBy_alloc w o none) (by simp)
theorem OwnV.below {B : Nat} (h : OwnV P kt w b f s) (hb : Below B w w') (hB : b < B) : OwnV P kt w' b f s := h.same (hb.block b hB)
theorem OwnV.setCell (h : OwnV P kt w b f s) {a : Addr} (hne : b ≠ a.block) (u : Value) : OwnV P kt (w.setCell a u) b f s := h.same (Below.heap_setCell w a u b hne)
theorem OwnV.look (h : OwnV P kt w b f s) (hk : P.underlying kt = some (.int .i64)) (ht : P.underlying t = some (.map kt et)) {z : Value} (hz : (zeroValue et).run P w = .ok z w) (k : Int) (hw : (Lit.int .i64 k).wf = true) :
    (Instr.lookup t (.map (some b)) (.int .i64 k) true).run P w = .ok (.tuple #[(f k).getD z, .bool (f k).isSome]) w := by
  obtain ⟨D, h1, h2, h3, h4⟩ := h
  obtain ⟨v, ps, hrun, hv⟩ := h1.look_ok (int_keyed hk) ht hz (zd := .held z) (zp := []) rfl (keyOf_int_mk hk hw)
  rw [show (Lit.int .i64 k) = kV k from rfl, (h4 k).2] at hv
  rw [hrun, show Maps.has D (.int .i64 k) = _ from (h4 k).1]
  have e : v = (f k).getD z := by
    cases hf : f k with
    | none => rw [hf] at hv; injection hv with hv; injection hv with hv _; injection hv
    | some x => rw [hf] at hv; injection hv with hv; injection hv with hv _; injection hv
  rw [e]
theorem OwnV.look0 (h : OwnV P kt w b f s) (hk : P.underlying kt = some (.int .i64)) (ht : P.underlying t = some (.map kt et)) {z : Value} (hz : (zeroValue et).run P w = .ok z w) (k : Int) (hw : (Lit.int .i64 k).wf = true) :
    (Instr.lookup t (.map (some b)) (.int .i64 k) false).run P w = .ok ((f k).getD z) w := by
  obtain ⟨D, h1, h2, h3, h4⟩ := h
  obtain ⟨v, ps, hrun, hv⟩ := h1.lookup (int_keyed hk) ht hz (zd := .held z) (zp := []) rfl (keyOf_int_mk hk hw)
  rw [show (Lit.int .i64 k) = kV k from rfl, (h4 k).2] at hv
  rw [hrun]
  have e : v = (f k).getD z := by
    cases hf : f k with
    | none => rw [hf] at hv; injection hv with hv; injection hv with hv _; injection hv
    | some x => rw [hf] at hv; injection hv with hv; injection hv with hv _; injection hv
  rw [e]
theorem OwnV.len (h : OwnV P kt w b f s) (ht : P.underlying t = some (.map kt et)) (ty : TypeId) : (Builtin.len_ #[t] ty #[.map (some b)]).run P w = .ok (.int .i64 s) w := by
  obtain ⟨D, h1, h2, h3, h4⟩ := h
  rw [h1.len ht ty, h3]
theorem OwnV.update (h : OwnV P kt w b f s) (hk : P.underlying kt = some (.int .i64)) (ht : P.underlying t = some (.map kt et)) (hs : s < maxLen) (k : Int) (hw : (Lit.int .i64 k).wf = true) (v : Value) :
    ∃ w', (Instr.mapUpdate t (.map (some b)) (.int .i64 k) v).run P w = .ok () w' ∧ OwnV P kt w' b (fun x => if x = k then some v else f x) (if (f k).isSome then s else s + 1) ∧ w.grownBy w' (some b) := by
  obtain ⟨D, h1, h2⟩ := h
  obtain ⟨w', hrun, r1, r2⟩ := h1.update (int_keyed hk) ht hs (key := .int .i64 k) (val := v) (kl := kV k) (d := .held v) (ps := []) (keyOf_int_mk hk hw) rfl
  have h3 := h2.put k v
  have r3 := ownsMap_tight r1
  rw [h3.2.1] at r3
  exact ⟨w', hrun, ⟨_, r3, h3⟩, r2⟩
theorem OwnV.drop (h : OwnV P kt w b f s) (hk : P.underlying kt = some (.int .i64)) (ht : P.underlying t = some (.map kt et)) (k : Int) (hw : (Lit.int .i64 k).wf = true) (ty : TypeId) :
    ∃ w', (Builtin.delete_ #[t, kt] ty #[.map (some b), .int .i64 k]).run P w = .ok (.tuple #[]) w' ∧ OwnV P kt w' b (fun x => if x = k then none else f x) (if (f k).isSome then s - 1 else s) ∧ w.grownBy w' (some b) := by
  obtain ⟨D, h1, h2⟩ := h
  obtain ⟨w', hrun, r1, r2⟩ := h1.drop (int_keyed hk) ht (key := .int .i64 k) (kl := kV k) (keyOf_int_mk hk hw) ty
  have h3 := h2.del k
  have r3 := ownsMap_tight r1
  rw [h3.2.1] at r3
  exact ⟨w', hrun, ⟨_, r3, h3⟩, r2.grown⟩
theorem wpList_putV {ops : Array Oper} {rest : List Oper} {o : Oper} {a : Act} {Q : Exit → Act → World → Prop} (hg : o.guard = none) (m x v : Operand) (t : TypeId) (hop : o.op = Op.mapUpdate t m x v ∨ o.op = Op.insert t m x v)
    (kt et : TypeId) (hk : P.underlying kt = some (.int .i64)) (ht : P.underlying t = some (.map kt et)) (b s : Nat) (f : Int → Option Value) (hm : a.eval m = .map (some b)) (h : OwnV P kt w b f s) (hs : s < maxLen)
    (k : Int) (val : Value) (hx : a.eval x = .int .i64 k) (hv : a.eval v = val) (hw : (Lit.int .i64 k).wf = true)
    (hK : ∀ w', OwnV P kt w' b (fun x => if x = k then some val else f x) (if (f k).isSome then s else s + 1) → w.grownBy w' (some b) → wpList P ops Q rest (a.put o.dst undef) w') :
    wpList P ops Q (o :: rest) a w := by
  refine wpList_plain hg fun K' hK' => ?_
  obtain ⟨w', hrun, r1, r2⟩ := h.update hk ht hs k hw val
  unfold Oper.wp
  rcases hop with hop | hop <;> simp [execOp, hop, hm, hx, hv, hrun, Result.andThen] <;> exact hK' _ _ (hK w' r1 r2)
theorem wpList_delV {ops : Array Oper} {rest : List Oper} {o : Oper} {a : Act} {Q : Exit → Act → World → Prop} (hg : o.guard = none) (m x : Operand) (t : TypeId) (kt : TypeId) (hop : o.op = Op.call { callee := Callee.builtin Builtin.delete, args := #[m, x], argTypes := #[t, kt] })
    (et : TypeId) (hk : P.underlying kt = some (.int .i64)) (ht : P.underlying t = some (.map kt et)) (b s : Nat) (f : Int → Option Value) (hm : a.eval m = .map (some b)) (h : OwnV P kt w b f s)
    (k : Int) (hx : a.eval x = .int .i64 k) (hw : (Lit.int .i64 k).wf = true)
    (hK : ∀ w', OwnV P kt w' b (fun x => if x = k then none else f x) (if (f k).isSome then s - 1 else s) → w.grownBy w' (some b) → wpList P ops Q rest (a.put o.dst (.tuple #[])) w') :
    wpList P ops Q (o :: rest) a w := by
  refine wpList_plain hg fun K' hK' => ?_
  obtain ⟨w', hrun, r1, r2⟩ := h.drop hk ht k hw o.type
  unfold Oper.wp
  simp [execOp, hop, resolve, invoke, builtin, hm, hx, hrun, Result.andThen]
  exact hK' _ _ (hK w' r1 r2)
end
end Go.Proofs.Ytjfejimghbohdaa
namespace Go.Proofs.Ytjfejimghbohdaa
open Go.RowKit Go.Maps
set_option linter.unusedVariables false
set_option linter.unusedSimpArgs false

/-- a part of memory: its block (none: it has none), and what holds of the world, by that block alone -/
structure Atom where
  b : Option Nat
  Q : World → Prop
  loc : ∀ {W W' : World}, (∀ k, b = some k → W'.heap[k]? = W.heap[k]?) → Q W → Q W'
  lt : ∀ {W : World}, Q W → ∀ k, b = some k → k < W.heap.size
/-- two parts have no block in common -/
def Far (a a' : Atom) : Prop := ∀ k, a.b = some k → a'.b ≠ some k
theorem Far.symm {a a' : Atom} (h : Far a a') : Far a' a := fun k hk hk' => h k hk' hk
/-- the world W holds the parts as, all in blocks from n on, and is below n as w was -/
structure Own (n : Nat) (w W : World) (atoms : List Atom) : Prop where
  below : Below n w W
  sz : n ≤ W.heap.size
  hold : ∀ a ∈ atoms, a.Q W
  base : ∀ a ∈ atoms, ∀ k, a.b = some k → n ≤ k
  apart : atoms.Pairwise Far
namespace Own
variable {n : Nat} {w W W' : World} {atoms bs : List Atom} {a a' : Atom}
theorem start (w : World) : Own w.heap.size w w [] := ⟨Below.refl _ _, Nat.le_refl _, by simp, by simp, List.Pairwise.nil⟩
theorem perm (h : Own n w W atoms) (p : atoms.Perm bs) : Own n w W bs :=
  ⟨h.below, h.sz, fun a ha => h.hold a (p.mem_iff.2 ha), fun a ha => h.base a (p.mem_iff.2 ha), (p.pairwise_iff (fun {a b} => Far.symm)).1 h.apart⟩
theorem sub (h : Own n w W atoms) (p : bs.Sublist atoms) : Own n w W bs :=
  ⟨h.below, h.sz, fun a ha => h.hold a (p.subset ha), fun a ha => h.base a (p.subset ha), h.apart.sublist p⟩
theorem tail (h : Own n w W (a :: atoms)) : Own n w W atoms := h.sub (List.sublist_cons_self _ _)
theorem head (h : Own n w W (a :: atoms)) : a.Q W := h.hold a List.mem_cons_self
theorem far (h : Own n w W (a :: atoms)) (ha : a' ∈ atoms) : Far a a' := (List.pairwise_cons.1 h.apart).1 a' ha
/-- what is known of a part's block is what holds of it alone -/
theorem turn (h : Own n w W (a :: atoms)) (hb : a'.b = a.b) (hq : a'.Q W) : Own n w W (a' :: atoms) := by
  refine ⟨h.below, h.sz, fun x hx => ?_, fun x hx => ?_, ?_⟩
  · rcases List.mem_cons.1 hx with rfl | hx
    · exact hq
    · exact h.hold x (List.mem_cons_of_mem _ hx)
  · rcases List.mem_cons.1 hx with rfl | hx
    · rw [hb]; exact h.base a List.mem_cons_self
    · exact h.base x (List.mem_cons_of_mem _ hx)
  · refine List.pairwise_cons.2 ⟨fun x hx k hk => h.far hx k (hb ▸ hk), (List.pairwise_cons.1 h.apart).2⟩
/-- a part with no block is there at will -/
theorem bare (h : Own n w W atoms) (hb : a.b = none) (hq : a.Q W) : Own n w W (a :: atoms) :=
  ⟨h.below, h.sz, fun x hx => (List.mem_cons.1 hx).elim (fun e => e ▸ hq) (h.hold x), fun x hx => (List.mem_cons.1 hx).elim (fun e k hk => (by rw [e, hb] at hk; cases hk)) (h.base x),
    List.pairwise_cons.2 ⟨fun x hx k hk => (by rw [hb] at hk; cases hk), h.apart⟩⟩
/-- other blocks than the parts' have turned, or new ones have come -/
theorem kept (h : Own n w W atoms) (hb : Below n W W') (hk : ∀ a ∈ atoms, ∀ k, a.b = some k → W'.heap[k]? = W.heap[k]?) : Own n w W' atoms :=
  ⟨h.below.trans hb, Nat.le_trans h.sz hb.size, fun a ha => a.loc (hk a ha) (h.hold a ha), h.base, h.apart⟩
theorem above (h : Own n w W atoms) (hb : Below W.heap.size W W') : Own n w W' atoms :=
  h.kept (hb.mono h.sz) (fun a ha k hk => hb.block k (a.lt (h.hold a ha) k hk))
theorem alloc (h : Own n w W atoms) (o : Obj) : Own n w (W.alloc o) atoms := h.above ((Below.refl _ _).alloc (Nat.le_refl _) o)
theorem drewN (h : Own n w W atoms) (q : Nat) : Own n w (W.drewN q) atoms := h.above (below_drewN' (Below.refl _ _) q)
theorem drew (h : Own n w W atoms) : Own n w W.drew atoms := h.above ((Below.refl _ _).drew)
/-- a part that came new -/
theorem more (h : Own n w W atoms) (hb : Below W.heap.size W W') (hq : a.Q W') (hf : ∀ k, a.b = some k → W.heap.size ≤ k) : Own n w W' (a :: atoms) := by
  have h' := h.above hb
  refine ⟨h'.below, h'.sz, fun x hx => (List.mem_cons.1 hx).elim (fun e => e ▸ hq) (h'.hold x), fun x hx => (List.mem_cons.1 hx).elim (fun e k hk => ?_) (h'.base x), List.pairwise_cons.2 ⟨fun x hx k hk hk' => ?_, h'.apart⟩⟩
  · subst e; exact Nat.le_trans h.sz (hf k hk)
  · have := hf k hk
    have := x.lt (h.hold x hx) k hk'
    omega
theorem new (h : Own n w W atoms) (o : Obj) (a : Atom) (hb : a.b = some W.heap.size) (hq : a.Q (W.alloc o)) : Own n w (W.alloc o) (a :: atoms) :=
  h.more ((Below.refl _ _).alloc (Nat.le_refl _) o) hq (fun k hk => by rw [hb] at hk; cases hk; exact Nat.le_refl _)
/-- a part has turned, in its block or into a new one -/
theorem grow (h : Own n w W (a :: atoms)) (hg : W.grownBy W' a.b) (hb : ∀ k, a'.b = some k → a.b = some k ∨ W.heap.size ≤ k) (hq : a'.Q W') : Own n w W' (a' :: atoms) := by
  have hbel : Below n W W' := (Below.refl n W).grown hg h.sz (fun k hk => h.base a List.mem_cons_self k hk)
  have h' : Own n w W' atoms := h.tail.kept hbel (fun x hx k hk => hg.block k (x.lt (h.tail.hold x hx) k hk) (fun e => h.far hx k e.symm hk))
  refine ⟨h'.below, h'.sz, fun x hx => (List.mem_cons.1 hx).elim (fun e => e ▸ hq) (h'.hold x), fun x hx => (List.mem_cons.1 hx).elim (fun e k hk => ?_) (h'.base x), List.pairwise_cons.2 ⟨fun x hx k hk hk' => ?_, h'.apart⟩⟩
  · subst e
    rcases hb k hk with h1 | h1
    · exact h.base a List.mem_cons_self k h1
    · exact Nat.le_trans h.sz h1
  · rcases hb k hk with h1 | h1
    · exact h.far hx k h1 hk'
    · have := x.lt (h.tail.hold x hx) k hk'
      omega
/-- a store into a part's block -/
theorem set (h : Own n w W (a :: atoms)) (p : Addr) (u : Value) (hp : a.b = some p.block) (hb : a'.b = a.b) (hq : a'.Q (W.setCell p u)) : Own n w (W.setCell p u) (a' :: atoms) :=
  h.grow (W' := W.setCell p u) ⟨rfl, rfl, rfl, by simp [World.setCell], fun k _ hk => Below.heap_setCell W p u k (fun e => hk (by rw [hp, e]))⟩ (fun k hk => .inl (hb ▸ hk)) hq
theorem swap (h : Own n w W (a :: a' :: atoms)) : Own n w W (a' :: a :: atoms) := h.perm (.swap _ _ _)
/-- the part behind those of l to the front -/
theorem front {l : List Atom} (h : Own n w W (l ++ a :: atoms)) : Own n w W (a :: (l ++ atoms)) := h.perm List.perm_middle
theorem back {l : List Atom} (h : Own n w W (a :: (l ++ atoms))) : Own n w W (l ++ a :: atoms) := h.perm List.perm_middle.symm
theorem f1 {x0 x1 : Atom} (h : Own n w W (x0 :: x1 :: atoms)) : Own n w W (x1 :: x0 :: atoms) := h.perm (List.perm_middle (l₁ := [x0]))
theorem f2 {x0 x1 x2 : Atom} (h : Own n w W (x0 :: x1 :: x2 :: atoms)) : Own n w W (x2 :: x0 :: x1 :: atoms) := h.perm (List.perm_middle (l₁ := [x0, x1]))
theorem f3 {x0 x1 x2 x3 : Atom} (h : Own n w W (x0 :: x1 :: x2 :: x3 :: atoms)) : Own n w W (x3 :: x0 :: x1 :: x2 :: atoms) := h.perm (List.perm_middle (l₁ := [x0, x1, x2]))
theorem f4 {x0 x1 x2 x3 x4 : Atom} (h : Own n w W (x0 :: x1 :: x2 :: x3 :: x4 :: atoms)) : Own n w W (x4 :: x0 :: x1 :: x2 :: x3 :: atoms) := h.perm (List.perm_middle (l₁ := [x0, x1, x2, x3]))
theorem f5 {x0 x1 x2 x3 x4 x5 : Atom} (h : Own n w W (x0 :: x1 :: x2 :: x3 :: x4 :: x5 :: atoms)) : Own n w W (x5 :: x0 :: x1 :: x2 :: x3 :: x4 :: atoms) := h.perm (List.perm_middle (l₁ := [x0, x1, x2, x3, x4]))
theorem f6 {x0 x1 x2 x3 x4 x5 x6 : Atom} (h : Own n w W (x0 :: x1 :: x2 :: x3 :: x4 :: x5 :: x6 :: atoms)) : Own n w W (x6 :: x0 :: x1 :: x2 :: x3 :: x4 :: x5 :: atoms) := h.perm (List.perm_middle (l₁ := [x0, x1, x2, x3, x4, x5]))
theorem f7 {x0 x1 x2 x3 x4 x5 x6 x7 : Atom} (h : Own n w W (x0 :: x1 :: x2 :: x3 :: x4 :: x5 :: x6 :: x7 :: atoms)) : Own n w W (x7 :: x0 :: x1 :: x2 :: x3 :: x4 :: x5 :: x6 :: atoms) := h.perm (List.perm_middle (l₁ := [x0, x1, x2, x3, x4, x5, x6]))
end Own
/-- a row of elements of type e, sz cells each, in a block of its own (or nil) -/
def rowA (e : TypeId) (sz : Nat) (v : Value) (n : Nat) (xs : List Value) : Atom where
  b := v.ownBlock
  Q W := W.ownsRow 0 e sz v n xs
  loc := fun {W W'} h hq => by
    refine ⟨hq.1, ?_⟩
    rcases hq.2 with h2 | ⟨g, cap, cur, rfl, hb, hg, r⟩
    · exact .inl h2
    · exact .inr ⟨g, cap, cur, rfl, hb, (h g rfl).trans hg, r⟩
  lt := fun hq k hk => (hq.lt k hk).2
/-- a block that is known whole -/
def blkA (b : Nat) (cs : Array Value) (t : TypeId) : Atom where
  b := some b
  Q W := Blk W b cs t
  loc := fun h hq => hq.same (h b rfl)
  lt := fun hq k hk => by cases hk; exact hq.lt
/-- a map with whole numbers for keys -/
def mapA (P : Program) (kt : TypeId) (b : Nat) (f : Int → Option Value) (s : Nat) : Atom where
  b := some b
  Q W := OwnV P kt W b f s
  loc := fun h hq => hq.same (h b rfl)
  lt := fun hq k hk => by cases hk; exact hq.lt
/-- a block that is taken, whatever it holds -/
def resA (b : Nat) : Atom where
  b := some b
  Q W := b < W.heap.size
  loc := fun {W W'} h hq => by
    have := h b rfl
    rw [Array.getElem?_eq_getElem hq] at this
    exact (Array.getElem?_eq_some_iff.1 this).1
  lt := fun hq k hk => by cases hk; exact hq
theorem Own.putObj {n : Nat} {w W : World} {atoms : List Atom} {l : Nat} (h : Own n w W (resA l :: atoms)) (o' : Obj) : Own n w (W.putObj l o') (resA l :: atoms) :=
  h.grow (grownBy_putObj' W l o') (fun k hk => .inl hk) (by have hh : l < W.heap.size := h.head; show l < (W.putObj l o').heap.size; simpa [World.putObj] using hh)
theorem row_base {W : World} {base : Nat} {e : TypeId} {sz : Nat} {v : Value} {n : Nat} {xs : List Value} (h : W.ownsRow base e sz v n xs) : W.ownsRow 0 e sz v n xs := by
  refine ⟨h.1, ?_⟩
  rcases h.2 with h2 | ⟨g, cap, cur, rfl, hb, r⟩
  · exact .inl h2
  · exact .inr ⟨g, cap, cur, rfl, Nat.zero_le _, r⟩
theorem row_from {W : World} {base : Nat} {e : TypeId} {sz : Nat} {v : Value} {n : Nat} {xs : List Value} (h : W.ownsRow 0 e sz v n xs) (hb : ∀ k, v.ownBlock = some k → base ≤ k) : W.ownsRow base e sz v n xs := by
  refine ⟨h.1, ?_⟩
  rcases h.2 with h2 | ⟨g, cap, cur, rfl, _, r⟩
  · exact .inl h2
  · exact .inr ⟨g, cap, cur, rfl, hb g rfl, r⟩
section
variable {n : Nat} {w W W' : World} {atoms : List Atom} {e : TypeId} {sz : Nat} {v v' : Value} {k m : Nat} {xs ys : List Value}
theorem Own.row (h : Own n w W (rowA e sz v k xs :: atoms)) : W.ownsRow n e sz v k xs := row_from h.head (h.base _ List.mem_cons_self)
/-- a callee's new row -/
theorem Own.moreRow (h : Own n w W atoms) (hb : Below W.heap.size W W') (hr : W'.ownsRow W.heap.size e sz v k xs) : Own n w W' (rowA e sz v k xs :: atoms) :=
  h.more hb (row_base hr) (fun j hj => (hr.lt j hj).1)
/-- a row of the call's own was appended to -/
theorem Own.growRow (h : Own n w W (rowA e sz v k xs :: atoms)) (hr : W'.ownsRow n e sz v' m ys) (hg : W.grownBy W' v.ownBlock) (hv : v'.ownBlock = v.ownBlock ∨ v'.ownBlock = some W.heap.size) : Own n w W' (rowA e sz v' m ys :: atoms) :=
  h.grow hg (fun j hj => hv.elim (fun x => .inl (show v.ownBlock = some j from x ▸ hj)) (fun x => .inr (by rw [show (rowA e sz v' m ys).b = _ from x] at hj; cases hj; exact Nat.le_refl _))) (row_base hr)
/-- a new row of literal cells -/
theorem Own.newRow (h : Own n w W atoms) (cs : Array Value) (k : Nat) (hm : k ≤ maxLen) (hs : cs.size = k * sz) : Own n w (W.alloc (.cells cs e)) (rowA e sz (.slice (some ⟨W.heap.size, 0, none⟩) k k) k cs.toList :: atoms) :=
  h.new _ _ rfl (row_base (World.ownsRow_lit (base := W.heap.size) W cs k (Nat.le_refl _) hm hs))
theorem Own.nilRow (h : Own n w W atoms) (e : TypeId) (sz : Nat) : Own n w W (rowA e sz (.slice none 0 0) 0 [] :: atoms) := h.bare rfl (World.ownsRow_nil W 0 e sz)
theorem Own.newBlk (h : Own n w W atoms) (cs : Array Value) (t : TypeId) : Own n w (W.alloc (.cells cs t)) (blkA W.heap.size cs t :: atoms) := h.new _ _ rfl (Blk.new W cs t)
theorem Own.newMap (h : Own n w W atoms) (P : Program) (kt : TypeId) : Own n w (W.alloc (.map #[] 0)) (mapA P kt W.heap.size (fun _ => none) 0 :: atoms) := h.new _ _ rfl (OwnV.made W P kt)
theorem Own.setBlk {b : Nat} {cs : Array Value} {t : TypeId} (h : Own n w W (blkA b cs t :: atoms)) (i : Nat) (u : Value) : Own n w (W.setCell ⟨b, i, none⟩ u) (blkA b (cs.setIfInBounds i u) t :: atoms) :=
  h.set ⟨b, i, none⟩ u rfl rfl (Blk.set h.head i u)
theorem Own.setRow {g cap : Nat} (h : Own n w W (rowA e sz (.slice (some ⟨g, 0, none⟩) k cap) k xs :: atoms)) (i : Nat) (u : Value) : Own n w (W.setCell ⟨g, i, none⟩ u) (rowA e sz (.slice (some ⟨g, 0, none⟩) k cap) k (xs.set i u) :: atoms) :=
  h.set ⟨g, i, none⟩ u rfl rfl (World.ownsRow.stored (base := 0) h.head i u).1
/-- a map of the call's own has turned -/
theorem Own.growMap {P : Program} {kt : TypeId} {b s s' : Nat} {f f' : Int → Option Value} (h : Own n w W (mapA P kt b f s :: atoms)) (hr : OwnV P kt W' b f' s') (hg : W.grownBy W' (some b)) : Own n w W' (mapA P kt b f' s' :: atoms) :=
  h.grow hg (fun j hj => .inl hj) hr
end
end Go.Proofs.Ytjfejimghbohdaa
namespace Go.Proofs.Ytjfejimghbohdaa
set_option linter.unusedVariables false
set_option linter.unusedSimpArgs false
open Go.RowKit Go.Maps

/-- a change: its buffer, what it hangs on, how many of these are not done, what hangs on it, whether it is done -/
structure Chg where
  buf : Int
  on : List Int
  left : Int
  to : List Int
  done : Bool
/-- a graph: by each buffer its set of changes that are not done, by each buffer how many may be written -/
structure St where
  l : List Chg
  bufs : Int → Option (Int → Bool)
  opn : Int
  next : Int → Option Int
def zc : Chg := ⟨0, [], 0, [], false⟩
def zst : St := ⟨[], fun _ => none, 0, fun _ => none⟩
def upd {α : Type} (f : Int → α) (k : Int) (v : α) : Int → α := fun x => if x = k then v else f x
/-- a change with the slices of its rows -/
structure Cg where
  c : Chg
  von : Value
  vto : Value
/-- a buffer's set: where it lies -/
structure Bs where
  key : Int
  loc : Nat
  set : Int → Bool
def ints (l : List Int) : List Value := l.map (Value.int .i64)
theorem ints_len (l : List Int) : (ints l).length = l.length := List.length_map _
def Cg.cells (c : Cg) : List Value := [.int .i64 c.c.buf, c.von, .int .i64 c.c.left, c.vto, .bool c.c.done]
def cellsL (l : List Cg) : List Value := l.flatMap Cg.cells
theorem cellsL_len (l : List Cg) : (cellsL l).length = l.length * 5 := by
  unfold cellsL
  induction l with
  | nil => rfl
  | cons c l ih => rw [List.flatMap_cons, List.length_append, ih]; simp [Cg.cells]; omega
theorem cellsL_append (a b : List Cg) : cellsL (a ++ b) = cellsL a ++ cellsL b := by unfold cellsL; rw [List.flatMap_append]
theorem cellsL_at {l : List Cg} {k : Nat} (h : k < l.length) {i : Nat} (hi : i < 5) : (cellsL l)[k * 5 + i]? = (l[k].cells)[i]? := by
  have e : l = l.take k ++ l[k] :: l.drop (k + 1) := by rw [List.getElem_cons_drop, List.take_append_drop]
  conv => lhs; rw [e]
  rw [cellsL_append, List.getElem?_append_right (by rw [cellsL_len, List.length_take]; omega), cellsL_len, List.length_take, Nat.min_eq_left (by omega), Nat.add_sub_cancel_left]
  show (l[k].cells ++ cellsL _)[i]? = _
  rw [List.getElem?_append_left (by simp [Cg.cells]; omega)]
theorem cellsL_set {l : List Cg} {k : Nat} (h : k < l.length) {i : Nat} (hi : i < 5) (u : Value) (c : Cg) (hc : c.cells = (l[k].cells).set i u) : (cellsL l).set (k * 5 + i) u = cellsL (l.set k c) := by
  have e : l = l.take k ++ l[k] :: l.drop (k + 1) := by rw [List.getElem_cons_drop, List.take_append_drop]
  have e2 : l.set k c = l.take k ++ c :: l.drop (k + 1) := by
    rw [List.set_eq_take_append_cons_drop, if_pos h]
  rw [e2]
  conv => lhs; rw [e]
  rw [cellsL_append, cellsL_append, List.set_append, if_neg (by rw [cellsL_len, List.length_take]; omega), cellsL_len, List.length_take, Nat.min_eq_left (by omega), Nat.add_sub_cancel_left]
  congr 1
  show (l[k].cells ++ cellsL _).set i u = c.cells ++ cellsL _
  rw [List.set_append, if_pos (by simp [Cg.cells]; omega), hc]
def onA (c : Cg) : Atom := rowA 3 1 c.von c.c.on.length (ints c.c.on)
def toA (c : Cg) : Atom := rowA 3 1 c.vto c.c.to.length (ints c.c.to)
/-- a map whose size is not told -/
def mpA (b : Nat) (f : Int → Option Value) : Atom where
  b := some b
  Q W := ∃ s, OwnV Try.prog 3 W b f s
  loc := fun h ⟨s, hq⟩ => ⟨s, hq.same (h b rfl)⟩
  lt := fun ⟨s, hq⟩ k hk => by cases hk; exact hq.lt
def setF (s : Int → Bool) : Int → Option Value := fun x => if s x then some (.bool true) else none
def intF (f : Int → Option Int) : Int → Option Value := fun x => (f x).map (Value.int .i64)
def bsAt (bs : List Bs) (x : Int) : Option Bs := bs.find? (fun b => b.key == x)
def locF (bs : List Bs) : Int → Option Value := fun x => (bsAt bs x).map (fun b => .map (some b.loc))
def Bs.a (b : Bs) : Atom := mpA b.loc (setF b.set)
/-- the parts of a graph behind pointer g -/
def gParts (g : Nat) (vl : Value) (l : List Cg) (bb nb : Nat) (opn : Int) (bs : List Bs) (nx : Int → Option Int) : List Atom :=
  blkA g #[vl, .map (some bb), .int .i64 opn, .map (some nb)] 69 :: rowA 64 5 vl l.length (cellsL l) :: mpA bb (locF bs) :: mpA nb (intF nx) :: (l.map onA ++ (l.map toA ++ bs.map Bs.a))
/-- these parts are the graph st behind pointer g -/
def IsG (g : Nat) (st : St) (ps : List Atom) : Prop :=
  ∃ vl l bb nb bs, ps = gParts g vl l bb nb st.opn bs st.next ∧ l.map Cg.c = st.l ∧ (∀ x, st.bufs x = (bsAt bs x).map Bs.set) ∧ (bs.map Bs.key).Nodup
/-- a graph whose numbers are in their bounds -/
structure Fit (st : St) : Prop where
  len : st.l.length < 1099511627776
  chg : ∀ c ∈ st.l, I64 c.buf ∧ c.on.length < 1099511627776 ∧ c.to.length < 1099511627776 ∧ -1099511627776 < c.left ∧ c.left < 1099511627776 ∧ ∀ x ∈ c.to, 0 ≤ x ∧ x < st.l.length
  opn : -1099511627776 < st.opn ∧ st.opn < 1099511627776
  next : ∀ b v, st.next b = some v → -1099511627776 < v ∧ v < 1099511627776
  nextIn : ∀ b, (st.next b).isSome = true → ∃ c ∈ st.l, c.buf = b
  bufsIn : ∀ b, (st.bufs b).isSome = true → ∃ c ∈ st.l, c.buf = b
  set : ∀ b s, st.bufs b = some s → ∀ x, s x = true → 0 ≤ x ∧ x < st.l.length

/-! maps as functions: keys, sizes -/
theorem OwnV.keys {kt : TypeId} {w : World} {b s : Nat} {f : Int → Option Value} (h : OwnV Try.prog kt w b f s) (hk : Try.prog.underlying kt = some (.int .i64)) :
    ∃ D : DataW Value, w.ownsMap Try.prog kt heldR b s D ∧ Maps.size D = s ∧ (intKeys D).Nodup ∧ (intKeys D).length = s ∧ (∀ x, x ∈ intKeys D ↔ (f x).isSome = true) ∧ ∀ x ∈ intKeys D, (Lit.int .i64 x).wf = true := by
  obtain ⟨D, h1, h2, h3, h4⟩ := h
  have hwf := intKeys_wf h1 hk
  obtain ⟨es, hD, hpw, _⟩ := h1.entries (int_keyed hk)
  obtain ⟨es', hD', hko⟩ := h1.keysOf
  obtain rfl : es = es' := by rw [hD] at hD'; simpa using hD'
  subst hD
  have hk' : ∀ p ∈ es, ∃ x, p.1 = .int .i64 x := fun p hp => by obtain ⟨v, hv⟩ := hko p hp; obtain ⟨x, _, hx, _⟩ := Maps.keyOf_i64 hk hv; exact ⟨x, hx⟩
  have hnd : (es.map fun p => Go.intOf p.1).Nodup := by
    refine List.pairwise_map.2 (hpw.imp_of_mem fun {p q} hp' hq' hne e => hne ?_)
    obtain ⟨a, ha⟩ := hk' p hp'
    obtain ⟨c, hc⟩ := hk' q hq'
    rw [ha, hc] at e ⊢
    exact congrArg _ e
  refine ⟨.map es, h1, h3, hnd, ?_, fun x => ?_, hwf⟩
  · show (es.map fun p => Go.intOf p.1).length = s
    rw [List.length_map]; exact h3
  · rw [← (h4 x).1, has_eq, List.any_eq_true]
    show x ∈ es.map (fun p => Go.intOf p.1) ↔ _
    rw [List.mem_map]
    constructor
    · rintro ⟨p, hp', rfl⟩
      obtain ⟨a, ha⟩ := hk' p hp'
      exact ⟨p, hp', by rw [ha]; simp [Lit.sameKey, Go.intOf]⟩
    · rintro ⟨p, hp', hs⟩
      obtain ⟨a, ha⟩ := hk' p hp'
      rw [ha] at hs
      exact ⟨p, hp', by rw [ha]; simpa [Lit.sameKey, Go.intOf] using hs⟩
theorem nodup_le {l m : List Int} (h : l.Nodup) (hs : ∀ x ∈ l, x ∈ m) : l.length ≤ m.length := by
  induction l generalizing m with
  | nil => simp
  | cons a l ih =>
    obtain ⟨h1, h2⟩ := List.nodup_cons.1 h
    have ha : a ∈ m := hs a List.mem_cons_self
    have := ih (m := m.erase a) h2 (fun x hx => (List.mem_erase_of_ne (fun e : x = a => h1 (e ▸ hx))).2 (hs x (List.mem_cons_of_mem _ hx)))
    rw [List.length_erase_of_mem ha] at this
    have := List.length_pos_of_mem ha
    simp only [List.length_cons]; omega
theorem OwnV.size_le {w : World} {b s : Nat} {f : Int → Option Value} (h : OwnV Try.prog 3 w b f s) (m : List Int) (hm : ∀ x, (f x).isSome = true → x ∈ m) : s ≤ m.length := by
  obtain ⟨D, _, _, h1, h2, h3, _⟩ := h.keys Try.underlying3
  rw [← h2]
  exact nodup_le h1 (fun x hx => hm x ((h3 x).1 hx))
theorem OwnV.empty_iff {w : World} {b s : Nat} {f : Int → Option Value} (h : OwnV Try.prog 3 w b f s) : s = 0 ↔ ∀ x, f x = none := by
  obtain ⟨D, _, _, h1, h2, h3, _⟩ := h.keys Try.underlying3
  constructor
  · intro e x
    rw [e, List.length_eq_zero_iff] at h2
    have := h3 x
    rw [h2] at this
    cases hq : f x with
    | none => rfl
    | some _ => rw [hq] at this; exact absurd (this.2 rfl) (by simp)
  · intro e
    rw [← h2, List.length_eq_zero_iff]
    refine List.eq_nil_iff_forall_not_mem.2 fun x hx => ?_
    have := (h3 x).1 hx
    rw [e x] at this; cases this
theorem mem_rangeI {n : Nat} {x : Int} (h : 0 ≤ x ∧ x < n) : x ∈ (List.range n).map (fun i : Nat => (i : Int)) :=
  List.mem_map.2 ⟨x.toNat, List.mem_range.2 (by omega), by omega⟩
section
variable {n : Nat} {w W : World} {ps : List Atom} {st : St}
theorem bsAt_mem {bs : List Bs} {x : Int} {b : Bs} (h : bsAt bs x = some b) : b ∈ bs ∧ b.key = x := by
  unfold bsAt at h
  exact ⟨List.mem_of_find?_eq_some h, by have := List.find?_some h; simpa using this⟩
theorem locF_isSome {bs : List Bs} {x : Int} : (locF bs x).isSome = (bsAt bs x).isSome := by unfold locF; cases bsAt bs x <;> rfl
/-- how many keys a set, the sets, the counts have -/
theorem Fit.setSize (h : Fit st) {b : Int} {s : Int → Bool} (hb : st.bufs b = some s) {bl z : Nat} (hm : OwnV Try.prog 3 W bl (setF s) z) : z ≤ st.l.length := by
  have := hm.size_le ((List.range st.l.length).map (fun i : Nat => (i : Int))) (fun x hx => mem_rangeI (h.set b s hb x (by unfold setF at hx; cases hs : s x with | true => rfl | false => rw [hs] at hx; simp at hx)))
  simpa using this
theorem Fit.bufsSize (h : Fit st) {bs : List Bs} (hb : ∀ x, st.bufs x = (bsAt bs x).map Bs.set) {bl z : Nat} (hm : OwnV Try.prog 3 W bl (locF bs) z) : z ≤ st.l.length := by
  have := hm.size_le (st.l.map Chg.buf) (fun x hx => by
    rw [locF_isSome] at hx
    obtain ⟨c, hc, e⟩ := h.bufsIn x (by rw [hb]; cases hq : bsAt bs x with | none => rw [hq] at hx; cases hx | some _ => rfl)
    exact List.mem_map.2 ⟨c, hc, e⟩)
  simpa using this
theorem Fit.nextSize (h : Fit st) {bl z : Nat} (hm : OwnV Try.prog 3 W bl (intF st.next) z) : z ≤ st.l.length := by
  have := hm.size_le (st.l.map Chg.buf) (fun x hx => by
    obtain ⟨c, hc, e⟩ := h.nextIn x (by unfold intF at hx; cases hq : st.next x with | none => rw [hq] at hx; cases hx | some _ => rfl)
    exact List.mem_map.2 ⟨c, hc, e⟩)
  simpa using this
end
end Go.Proofs.Ytjfejimghbohdaa
namespace Go.Proofs
open Go.Shelf
def Try.keysI_ren : Go.Shelf.Ren := ⟨fun | 7 => 39 | 10 => 51 | n => n, fun | 23 => 67 | 26 => 3 | 3 => 3 | 28 => 61 | 0 => 0 | 27 => 60 | 33 => 40 | 4 => 4 | n => n, fun | n => n⟩
theorem Try.keysI : Go.Proofs.SlLaysZI.n7 Try.prog Try.keysI_ren := {
  mixed := by kernel_rfl
  f7 := ⟨Try.f39.name, by decide, Try.func39.trans (congrArg some (by kernel_rfl))⟩
  f10 := ⟨Try.f51.name, by decide, Try.func51.trans (congrArg some (by kernel_rfl))⟩
  t0 := Try.underlying0
  a0 := Try.isAgg0
  z0 := Try.sizeOf0
  v0 := Try.zeroValue0
  t4 := Try.underlying4
  a4 := Try.isAgg4
  z4 := Try.sizeOf4
  v4 := Try.zeroValue4
  t23 := Try.underlying67
  a23 := Try.isAgg67
  z23 := Try.sizeOf67
  v23 := Try.zeroValue67
  t26 := Try.underlying3
  a26 := Try.isAgg3
  z26 := Try.sizeOf3
  v26 := Try.zeroValue3
  t27 := Try.underlying60
  a27 := Try.isAgg60
  z27 := Try.sizeOf60
  v27 := Try.zeroValue60
  t28 := Try.underlying61
  a28 := Try.isAgg61
  z28 := Try.sizeOf61
  v28 := Try.zeroValue61
  t33 := Try.underlying40
  a33 := Try.isAgg40
  z33 := Try.sizeOf40
  v33 := Try.zeroValue40 }
def Try.keysB_ren : Go.Shelf.Ren := ⟨fun | 7 => 35 | 10 => 50 | n => n, fun | 23 => 71 | 26 => 3 | 3 => 4 | 28 => 61 | 0 => 0 | 27 => 60 | 33 => 40 | 4 => 4 | n => n, fun | n => n⟩
theorem Try.keysB : Go.Proofs.SlLaysZI.n7 Try.prog Try.keysB_ren := {
  mixed := by kernel_rfl
  f7 := ⟨Try.f35.name, by decide, Try.func35.trans (congrArg some (by kernel_rfl))⟩
  f10 := ⟨Try.f50.name, by decide, Try.func50.trans (congrArg some (by kernel_rfl))⟩
  t0 := Try.underlying0
  a0 := Try.isAgg0
  z0 := Try.sizeOf0
  v0 := Try.zeroValue0
  t4 := Try.underlying4
  a4 := Try.isAgg4
  z4 := Try.sizeOf4
  v4 := Try.zeroValue4
  t23 := Try.underlying71
  a23 := Try.isAgg71
  z23 := Try.sizeOf71
  v23 := Try.zeroValue71
  t26 := Try.underlying3
  a26 := Try.isAgg3
  z26 := Try.sizeOf3
  v26 := Try.zeroValue3
  t27 := Try.underlying60
  a27 := Try.isAgg60
  z27 := Try.sizeOf60
  v27 := Try.zeroValue60
  t28 := Try.underlying61
  a28 := Try.isAgg61
  z28 := Try.sizeOf61
  v28 := Try.zeroValue61
  t33 := Try.underlying40
  a33 := Try.isAgg40
  z33 := Try.sizeOf40
  v33 := Try.zeroValue40 }
def Try.sortedA_ren : Go.Shelf.Ren := ⟨fun | 6 => 34 | 8 => 48 | 9 => 49 | 11 => 57 | 13 => 59 | 12 => 58 | 23 => 69 | 24 => 70 | 14 => 60 | 15 => 61 | 16 => 62 | 17 => 63 | 18 => 64 | 19 => 65 | 20 => 66 | 21 => 67 | 22 => 68 | 25 => 71 | 26 => 72 | 27 => 73 | 28 => 74 | 29 => 75 | 30 => 76 | 31 => 77 | n => n, fun | 26 => 3 | 28 => 61 | 24 => 23 | 0 => 0 | 3 => 3 | 37 => 90 | 48 => 99 | 50 => 101 | 4 => 4 | 40 => 93 | 39 => 92 | 45 => 76 | 5 => 5 | 9 => 9 | 51 => 102 | 55 => 106 | 57 => 108 | 58 => 58 | 33 => 40 | n => n, fun | n => n⟩
theorem Try.sortedA : Go.Proofs.SlLaysZI.n6 Try.prog Try.sortedA_ren := {
  mixed := by kernel_rfl
  f6 := ⟨Try.f34.name, by decide, Try.func34.trans (congrArg some (by kernel_rfl))⟩
  f8 := ⟨Try.f48.name, by decide, Try.func48.trans (congrArg some (by kernel_rfl))⟩
  f11 := ⟨Try.f57.name, by decide, Try.func57.trans (congrArg some (by kernel_rfl))⟩
  t0 := Try.underlying0
  a0 := Try.isAgg0
  z0 := Try.sizeOf0
  v0 := Try.zeroValue0
  t24 := Try.underlying23
  a24 := Try.isAgg23
  z24 := Try.sizeOf23
  v24 := Try.zeroValue23
  t26 := Try.underlying3
  a26 := Try.isAgg3
  z26 := Try.sizeOf3
  v26 := Try.zeroValue3
  t28 := Try.underlying61
  a28 := Try.isAgg61
  z28 := Try.sizeOf61
  v28 := Try.zeroValue61
  i26 := by kernel_rfl }
def Try.sortA_ren : Go.Shelf.Ren := ⟨fun | 5 => 49 | 8 => 59 | 7 => 58 | 19 => 69 | 20 => 70 | 10 => 60 | 11 => 61 | 12 => 62 | 13 => 63 | 14 => 64 | 15 => 65 | 16 => 66 | 17 => 67 | 18 => 68 | 30 => 71 | 31 => 72 | 32 => 73 | 33 => 74 | 34 => 75 | 35 => 76 | 40 => 77 | n => n, fun | 23 => 23 | 25 => 3 | 3 => 3 | 32 => 90 | 22 => 23 | 0 => 0 | 44 => 99 | 46 => 101 | 4 => 4 | 36 => 93 | 35 => 92 | 41 => 76 | 5 => 5 | 9 => 9 | 53 => 102 | 57 => 106 | 63 => 108 | 64 => 58 | n => n, fun | n => n⟩
theorem Try.sortA : Go.Proofs.SlLaysM.n5 Try.prog Try.sortA_ren := {
  mixed := by kernel_rfl
  f5 := ⟨Try.f49.name, by decide, Try.func49.trans (congrArg some (by kernel_rfl))⟩
  f7 := ⟨Try.f58.name, by decide, Try.func58.trans (congrArg some (by kernel_rfl))⟩
  f8 := Try.func59.trans (congrArg some (by kernel_rfl))
  f10 := ⟨Try.f60.name, by decide, Try.func60.trans (congrArg some (by kernel_rfl))⟩
  f11 := ⟨Try.f61.name, by decide, Try.func61.trans (congrArg some (by kernel_rfl))⟩
  f12 := ⟨Try.f62.name, by decide, Try.func62.trans (congrArg some (by kernel_rfl))⟩
  f13 := ⟨Try.f63.name, by decide, Try.func63.trans (congrArg some (by kernel_rfl))⟩
  f14 := ⟨Try.f64.name, by decide, Try.func64.trans (congrArg some (by kernel_rfl))⟩
  f15 := ⟨Try.f65.name, by decide, Try.func65.trans (congrArg some (by kernel_rfl))⟩
  f16 := ⟨Try.f66.name, by decide, Try.func66.trans (congrArg some (by kernel_rfl))⟩
  f17 := ⟨Try.f67.name, by decide, Try.func67.trans (congrArg some (by kernel_rfl))⟩
  f18 := ⟨Try.f68.name, by decide, Try.func68.trans (congrArg some (by kernel_rfl))⟩
  f19 := Try.func69.trans (congrArg some (by kernel_rfl))
  f20 := Try.func70.trans (congrArg some (by kernel_rfl))
  f30 := ⟨Try.f71.name, by decide, Try.func71.trans (congrArg some (by kernel_rfl))⟩
  f31 := Try.func72.trans (congrArg some (by kernel_rfl))
  f32 := Try.func73.trans (congrArg some (by kernel_rfl))
  f33 := ⟨Try.f74.name, by decide, Try.func74.trans (congrArg some (by kernel_rfl))⟩
  f34 := ⟨Try.f75.name, by decide, Try.func75.trans (congrArg some (by kernel_rfl))⟩
  f35 := ⟨Try.f76.name, by decide, Try.func76.trans (congrArg some (by kernel_rfl))⟩
  f40 := ⟨Try.f77.name, by decide, Try.func77.trans (congrArg some (by kernel_rfl))⟩
  t0 := Try.underlying0
  a0 := Try.isAgg0
  z0 := Try.sizeOf0
  v0 := Try.zeroValue0
  t3 := Try.underlying3
  a3 := Try.isAgg3
  z3 := Try.sizeOf3
  v3 := Try.zeroValue3
  t4 := Try.underlying4
  a4 := Try.isAgg4
  z4 := Try.sizeOf4
  v4 := Try.zeroValue4
  t5 := Try.underlying5
  a5 := Try.isAgg5
  z5 := Try.sizeOf5
  v5 := Try.zeroValue5
  t9 := Try.underlying9
  a9 := Try.isAgg9
  z9 := Try.sizeOf9
  v9 := Try.zeroValue9
  t22 := Try.underlying23
  a22 := Try.isAgg23
  z22 := Try.sizeOf23
  v22 := Try.zeroValue23
  t23 := Try.underlying23
  a23 := Try.isAgg23
  z23 := Try.sizeOf23
  v23 := Try.zeroValue23
  t25 := Try.underlying3
  a25 := Try.isAgg3
  z25 := Try.sizeOf3
  v25 := Try.zeroValue3
  t32 := Try.underlying90
  a32 := Try.isAgg90
  z32 := Try.sizeOf90
  v32 := Try.zeroValue90
  t35 := Try.underlying92
  a35 := Try.isAgg92
  z35 := Try.sizeOf92
  v35 := Try.zeroValue92
  t36 := Try.underlying93
  a36 := Try.isAgg93
  z36 := Try.sizeOf93
  v36 := Try.zeroValue93
  t41 := Try.underlying76
  a41 := Try.isAgg76
  z41 := Try.sizeOf76
  v41 := Try.zeroValue76
  t44 := Try.underlying99
  a44 := Try.isAgg99
  z44 := Try.sizeOf99
  v44 := Try.zeroValue99
  t46 := Try.underlying101
  a46 := Try.isAgg101
  z46 := Try.sizeOf101
  v46 := Try.zeroValue101
  t53 := Try.underlying102
  a53 := Try.isAgg102
  z53 := Try.sizeOf102
  v53 := Try.zeroValue102
  t57 := Try.underlying106
  a57 := Try.isAgg106
  z57 := Try.sizeOf106
  v57 := Try.zeroValue106
  t63 := Try.underlying108
  a63 := Try.isAgg108
  z63 := Try.sizeOf108
  v63 := Try.zeroValue108
  t64 := Try.underlying58
  a64 := Try.isAgg58
  z64 := Try.sizeOf58
  v64 := Try.zeroValue58 }
end Go.Proofs
