/-
  Maps of the call's own with whole numbers for keys and whatever for elements, as functions. General words; conditions on the types alone.
-/
import Derived.Test.YtcmiboipgngjaaaG
import Derived.Maps.OwnSet
import Derived.Maps.OwnOps
import Derived.Maps.Keyed
namespace Go.Proofs.Ytcmiboipgngjaaa
set_option linter.unusedVariables false
set_option linter.unusedSimpArgs false
open Go.RowKit Go.Maps

abbrev heldR (v : Value) : Option (DataW Value × List MemPlace) := some (.held v, [])
abbrev kV (k : Int) : Lit := .int .i64 k
theorem kV_key (k : Int) : WideAt.IsKeyLit (kV k) := trivial
theorem kV_ne {a b : Int} (h : a ≠ b) : kV a ≠ kV b := fun e => h (by injection e)
/-- what a map holds: by each key; how many -/
def MapV (D : DataW Value) (f : Int → Option Value) (s : Nat) : Prop := Tidy D ∧ size D = s ∧ ∀ k, has D (kV k) = (f k).isSome ∧ ∀ z, D.atKey (kV k) z = match f k with | some v => .held v | none => z
theorem MapV.none_ : MapV (.map []) (fun _ => none) 0 := ⟨tidy_empty, rfl, fun k => ⟨rfl, fun z => rfl⟩⟩
theorem MapV.put {D : DataW Value} {f : Int → Option Value} {s : Nat} (h : MapV D f s) (k : Int) (v : Value) : MapV (D.put (kV k) (.held v)) (fun x => if x = k then some v else f x) (if (f k).isSome then s else s + 1) := by
  obtain ⟨h1, h2, h3⟩ := h
  refine ⟨h1.put (kV_key k) _, ?_, fun x => ?_⟩
  · rw [size_put h1, (h3 k).1, h2]
  · by_cases e : x = k
    · subst e
      dsimp only
      rw [if_pos rfl]
      exact ⟨has_put_same h1.isMap (kV_key _) _, fun z => atKey_put_same h1.isMap (kV_key _) _ _⟩
    · dsimp only
      rw [if_neg e]
      exact ⟨(has_put_other (kV_ne e) _).trans (h3 x).1, fun z => (atKey_put_other (kV_ne e) _ _).trans ((h3 x).2 z)⟩
theorem MapV.del {D : DataW Value} {f : Int → Option Value} {s : Nat} (h : MapV D f s) (k : Int) : MapV (D.del (kV k)) (fun x => if x = k then none else f x) (if (f k).isSome then s - 1 else s) := by
  obtain ⟨h1, h2, h3⟩ := h
  refine ⟨h1.del _, ?_, fun x => ?_⟩
  · have := size_del (k := kV k) h1
    rw [(h3 k).1, h2] at this
    split <;> rename_i e
    · rw [if_pos e] at this; omega
    · rw [if_neg e] at this; omega
  · by_cases e : x = k
    · subst e
      dsimp only
      rw [if_pos rfl]
      exact ⟨has_del_same, fun z => atKey_del_same z⟩
    · dsimp only
      rw [if_neg e]
      exact ⟨(has_del_other (kV_ne e)).trans (h3 x).1, fun z => (atKey_del_other (kV_ne e) z).trans ((h3 x).2 z)⟩
def OwnV (P : Program) (kt : TypeId) (w : World) (b : Nat) (f : Int → Option Value) (s : Nat) : Prop := ∃ D : DataW Value, w.ownsMap P kt heldR b s D ∧ MapV D f s
theorem ownsMap_tight {H : Type} {P : Program} {k : TypeId} {R : Value → Option (DataW H × List MemPlace)} {w : World} {b n : Nat} {D : DataW H} (h : w.ownsMap P k R b n D) : w.ownsMap P k R b (size D) D := by
  obtain ⟨es, clock, h1, h2, h3, rfl⟩ := h
  exact ⟨es, clock, h1, h2, by have := length_sorted (es.toList.map (WideElems.rg P k R)); simp [Maps.size, this], rfl⟩
section
variable {P : Program} {kt et t : TypeId} {w w' : World} {b s : Nat} {f : Int → Option Value}
theorem OwnV.made (w : World) (P : Program) (kt : TypeId) : OwnV P kt (w.alloc (.map #[] 0)) w.heap.size (fun _ => none) 0 := ⟨_, World.ownsMap_made _ _ _ _, MapV.none_⟩
theorem OwnV.same (h : OwnV P kt w b f s) (hb : w'.heap[b]? = w.heap[b]?) : OwnV P kt w' b f s := by
  obtain ⟨D, ⟨es, clock, h1, h2⟩, h3⟩ := h
  exact ⟨D, ⟨es, clock, hb.trans h1, h2⟩, h3⟩
theorem OwnV.obj (h : OwnV P kt w b f s) : ∃ es clock, w.heap[b]? = some (.map es clock) := by obtain ⟨D, ⟨es, clock, h1, _⟩, _⟩ := h; exact ⟨es, clock, h1⟩
theorem OwnV.lt (h : OwnV P kt w b f s) : b < w.heap.size := by obtain ⟨D, h1, _⟩ := h; exact h1.lt
theorem OwnV.kept {row : Option Nat} (h : OwnV P kt w b f s) (hg : w.grownBy w' row) (hne : some b ≠ row) : OwnV P kt w' b f s := h.same (hg.block b h.lt hne)
theorem OwnV.alloc (h : OwnV P kt w b f s) (o : Obj) : OwnV P kt (w.alloc o) b f s := h.kept (World.grownBy_alloc w o none) (by simp)
theorem OwnV.below {B : Nat} (h : OwnV P kt w b f s) (hb : Below B w w') (hB : b < B) : OwnV P kt w' b f s := h.same (hb.block b hB)
theorem OwnV.setCell (h : OwnV P kt w b f s) {a : Addr} (hne : b ≠ a.block) (u : Value) : OwnV P kt (w.setCell a u) b f s := h.same (Below.heap_setCell w a u b hne)
theorem OwnV.look (h : OwnV P kt w b f s) (hk : P.underlying kt = some (.int .i64)) (ht : P.underlying t = some (.map kt et)) {z : Value} (hz : (zeroValue et).run P w = .ok z w) (k : Int) (hw : (Lit.int .i64 k).wf = true) :
    (Instr.lookup t (.map (some b)) (.int .i64 k) true).run P w = .ok (.tuple #[(f k).getD z, .bool (f k).isSome]) w := by
  obtain ⟨D, h1, h2, h3, h4⟩ := h
  obtain ⟨v, ps, hrun, hv⟩ := h1.look_ok (int_keyed hk) ht hz (zd := .held z) (zp := []) rfl (keyOf_int_mk hk hw)
  rw [show (Lit.int .i64 k) = kV k from rfl, (h4 k).2] at hv
  rw [hrun, show Maps.has D (.int .i64 k) = _ from (h4 k).1]
  have e : v = (f k).getD z := by
    cases hf : f k with
    | none => rw [hf] at hv; injection hv with hv; injection hv with hv _; injection hv
    | some x => rw [hf] at hv; injection hv with hv; injection hv with hv _; injection hv
  rw [e]
theorem OwnV.look0 (h : OwnV P kt w b f s) (hk : P.underlying kt = some (.int .i64)) (ht : P.underlying t = some (.map kt et)) {z : Value} (hz : (zeroValue et).run P w = .ok z w) (k : Int) (hw : (Lit.int .i64 k).wf = true) :
    (Instr.lookup t (.map (some b)) (.int .i64 k) false).run P w = .ok ((f k).getD z) w := by
  obtain ⟨D, h1, h2, h3, h4⟩ := h
  obtain ⟨v, ps, hrun, hv⟩ := h1.lookup (int_keyed hk) ht hz (zd := .held z) (zp := []) rfl (keyOf_int_mk hk hw)
  rw [show (Lit.int .i64 k) = kV k from rfl, (h4 k).2] at hv
  rw [hrun]
  have e : v = (f k).getD z := by
    cases hf : f k with
    | none => rw [hf] at hv; injection hv with hv; injection hv with hv _; injection hv
    | some x => rw [hf] at hv; injection hv with hv; injection hv with hv _; injection hv
  rw [e]
theorem OwnV.len (h : OwnV P kt w b f s) (ht : P.underlying t = some (.map kt et)) (ty : TypeId) : (Builtin.len_ #[t] ty #[.map (some b)]).run P w = .ok (.int .i64 s) w := by
  obtain ⟨D, h1, h2, h3, h4⟩ := h
  rw [h1.len ht ty, h3]
theorem OwnV.update (h : OwnV P kt w b f s) (hk : P.underlying kt = some (.int .i64)) (ht : P.underlying t = some (.map kt et)) (hs : s < maxLen) (k : Int) (hw : (Lit.int .i64 k).wf = true) (v : Value) :
    ∃ w', (Instr.mapUpdate t (.map (some b)) (.int .i64 k) v).run P w = .ok () w' ∧ OwnV P kt w' b (fun x => if x = k then some v else f x) (if (f k).isSome then s else s + 1) ∧ w.grownBy w' (some b) := by
  obtain ⟨D, h1, h2⟩ := h
  obtain ⟨w', hrun, r1, r2⟩ := h1.update (int_keyed hk) ht hs (key := .int .i64 k) (val := v) (kl := kV k) (d := .held v) (ps := []) (keyOf_int_mk hk hw) rfl
  have h3 := h2.put k v
  have r3 := ownsMap_tight r1
  rw [h3.2.1] at r3
  exact ⟨w', hrun, ⟨_, r3, h3⟩, r2⟩
theorem OwnV.drop (h : OwnV P kt w b f s) (hk : P.underlying kt = some (.int .i64)) (ht : P.underlying t = some (.map kt et)) (k : Int) (hw : (Lit.int .i64 k).wf = true) (ty : TypeId) :
    ∃ w', (Builtin.delete_ #[t, kt] ty #[.map (some b), .int .i64 k]).run P w = .ok (.tuple #[]) w' ∧ OwnV P kt w' b (fun x => if x = k then none else f x) (if (f k).isSome then s - 1 else s) ∧ w.grownBy w' (some b) := by
  obtain ⟨D, h1, h2⟩ := h
  obtain ⟨w', hrun, r1, r2⟩ := h1.drop (int_keyed hk) ht (key := .int .i64 k) (kl := kV k) (keyOf_int_mk hk hw) ty
  have h3 := h2.del k
  have r3 := ownsMap_tight r1
  rw [h3.2.1] at r3
  exact ⟨w', hrun, ⟨_, r3, h3⟩, r2.grown⟩
theorem wpList_putV {ops : Array Oper} {rest : List Oper} {o : Oper} {a : Act} {Q : Exit → Act → World → Prop} (hg : o.guard = none) (m x v : Operand) (t : TypeId) (hop : o.op = Op.mapUpdate t m x v ∨ o.op = Op.insert t m x v)
    (kt et : TypeId) (hk : P.underlying kt = some (.int .i64)) (ht : P.underlying t = some (.map kt et)) (b s : Nat) (f : Int → Option Value) (hm : a.eval m = .map (some b)) (h : OwnV P kt w b f s) (hs : s < maxLen)
    (k : Int) (val : Value) (hx : a.eval x = .int .i64 k) (hv : a.eval v = val) (hw : (Lit.int .i64 k).wf = true)
    (hK : ∀ w', OwnV P kt w' b (fun x => if x = k then some val else f x) (if (f k).isSome then s else s + 1) → w.grownBy w' (some b) → wpList P ops Q rest (a.put o.dst undef) w') :
    wpList P ops Q (o :: rest) a w := by
  refine wpList_plain hg fun K' hK' => ?_
  obtain ⟨w', hrun, r1, r2⟩ := h.update hk ht hs k hw val
  unfold Oper.wp
  rcases hop with hop | hop <;> simp [execOp, hop, hm, hx, hv, hrun, Result.andThen] <;> exact hK' _ _ (hK w' r1 r2)
theorem wpList_delV {ops : Array Oper} {rest : List Oper} {o : Oper} {a : Act} {Q : Exit → Act → World → Prop} (hg : o.guard = none) (m x : Operand) (t : TypeId) (kt : TypeId) (hop : o.op = Op.call { callee := Callee.builtin Builtin.delete, args := #[m, x], argTypes := #[t, kt] })
    (et : TypeId) (hk : P.underlying kt = some (.int .i64)) (ht : P.underlying t = some (.map kt et)) (b s : Nat) (f : Int → Option Value) (hm : a.eval m = .map (some b)) (h : OwnV P kt w b f s)
    (k : Int) (hx : a.eval x = .int .i64 k) (hw : (Lit.int .i64 k).wf = true)
    (hK : ∀ w', OwnV P kt w' b (fun x => if x = k then none else f x) (if (f k).isSome then s - 1 else s) → w.grownBy w' (some b) → wpList P ops Q rest (a.put o.dst (.tuple #[])) w') :
    wpList P ops Q (o :: rest) a w := by
  refine wpList_plain hg fun K' hK' => ?_
  obtain ⟨w', hrun, r1, r2⟩ := h.drop hk ht k hw o.type
  unfold Oper.wp
  simp [execOp, hop, resolve, invoke, builtin, hm, hx, hrun, Result.andThen]
  exact hK' _ _ (hK w' r1 r2)
end
end Go.Proofs.Ytcmiboipgngjaaa
