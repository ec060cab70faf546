/-
  What Written makes of a graph, in plain words.
-/
import Derived.Test.YtlpdhmkcbdhelaaF
namespace Go.Proofs.Ytlpdhmkcbdhelaa
set_option linter.unusedVariables false
set_option linter.unusedSimpArgs false
open Go.RowKit Go.Maps

/-- one is done -/
def doneOne (buf : Int) (st : St) (id : Int) : St :=
  { l := st.l.modify id.toNat (fun c => ⟨c.buf, c.on, c.left, c.to, true⟩)
    bufs := upd st.bufs buf ((st.bufs buf).map (fun s x => if x = id then false else s x))
    opn := st.opn - 1
    next := st.next }
/-- one that hung on one that is done hangs on one less -/
def freeOne (st : St) (k : Int) : St :=
  { l := st.l.modify k.toNat (fun c => ⟨c.buf, c.on, c.left - 1, c.to, c.done⟩)
    bufs := st.bufs
    opn := st.opn
    next := if (at_ st k).left - 1 = 0 then upd st.next (at_ st k).buf (some ((st.next (at_ st k).buf).getD 0 + 1)) else st.next }
def clearTo (st : St) (id : Int) : St := { st with l := st.l.modify id.toNat (fun c => ⟨c.buf, c.on, c.left, [], c.done⟩) }
def freeAll (st : St) (id : Int) : St := clearTo ((at_ st id).to.foldl freeOne st) id
/-- between the two loops: no set that is empty -/
def midS (st : St) (buf : Int) : St :=
  { st with
    next := upd st.next buf none
    bufs := fun x => if x = buf then (match st.bufs buf with | some s => if (List.range st.l.length).any (fun i => s (i : Int)) then some s else none | none => none) else st.bufs x }
def writtenG (st : St) (buf : Int) (out : List Int) : St := out.foldl freeAll (midS (out.foldl (doneOne buf) st) buf)
def writtenS (st : St) (buf : Int) : St := writtenG st buf (nextS st buf)
/-- every graph on the way is in its bounds -/
def FitAll (st : St) (buf : Int) (out : List Int) : Prop :=
  (∀ k, k ≤ out.length → Fit ((out.take k).foldl (doneOne buf) st)) ∧
  (∀ k, k ≤ out.length → Fit ((out.take k).foldl freeAll (midS (out.foldl (doneOne buf) st) buf))) ∧
  (∀ k (hk : k < out.length) j, j ≤ (at_ ((out.take k).foldl freeAll (midS (out.foldl (doneOne buf) st) buf)) out[k]).to.length →
    Fit (((at_ ((out.take k).foldl freeAll (midS (out.foldl (doneOne buf) st) buf)) out[k]).to.take j).foldl freeOne ((out.take k).foldl freeAll (midS (out.foldl (doneOne buf) st) buf))))
theorem gParts_set_eq (g : Nat) (vl : Value) (l : List Cg) (bb nb : Nat) (opn : Int) (bs : List Bs) (nx : Int → Option Int) (i : Nat) (h : i < l.length) (c : Cg) (h1 : onA c = onA l[i]) (h2 : toA c = toA l[i]) :
    gParts g vl (l.set i c) bb nb opn bs nx = blkA g #[vl, .map (some bb), .int .i64 opn, .map (some nb)] 58 :: rowA 60 5 vl l.length (cellsL (l.set i c)) :: mpA bb (locF bs) :: mpA nb (intF nx) :: (l.map onA ++ (l.map toA ++ bs.map Bs.a)) := by
  have e1 : (l.set i c).map onA = l.map onA := by rw [List.map_set, h1, ← List.getElem_map onA (l := l) (h := by simpa using h), List.set_getElem_self]
  have e2 : (l.set i c).map toA = l.map toA := by rw [List.map_set, h2, ← List.getElem_map toA (l := l) (h := by simpa using h), List.set_getElem_self]
  unfold gParts
  rw [e1, e2, List.length_set]
theorem setF_del (s : Int → Bool) (k : Int) : (fun x => if x = k then none else setF s x) = setF (fun x => if x = k then false else s x) := by
  funext x
  unfold setF
  by_cases e : x = k
  · simp [e]
  · simp [e]
theorem intF_del (f : Int → Option Int) (k : Int) : (fun x => if x = k then none else intF f x) = intF (upd f k none) := by
  funext x
  unfold intF upd
  by_cases e : x = k
  · simp [e]
  · simp [e]
theorem locF_del {l1 l2 : List Bs} {b : Bs} (hn : ((l1 ++ b :: l2).map Bs.key).Nodup) : (fun x => if x = b.key then none else locF (l1 ++ b :: l2) x) = locF (l1 ++ l2) := by
  funext x
  unfold locF
  rw [bsAt_drop hn]
  by_cases e : x = b.key
  · simp [e]
  · simp [e]
theorem locF_none {bs : List Bs} {k : Int} (h : bsAt bs k = none) : (fun x => if x = k then none else locF bs x) = locF bs := by
  funext x
  by_cases e : x = k
  · rw [if_pos e, e]; unfold locF; rw [h]; rfl
  · rw [if_neg e]
theorem mem_someS {st : St} {buf : Int} {may : Bool} {x : Int} (h : x ∈ someS st buf may) : ∃ (i : Nat) (s : Int → Bool), x = (i : Int) ∧ i < st.l.length ∧ st.bufs buf = some s ∧ s x = true := by
  unfold someS at h
  obtain ⟨h1, h2⟩ := List.mem_filter.1 h
  obtain ⟨i, hi, rfl⟩ := List.mem_map.1 h1
  have := (Bool.and_eq_true_iff.1 h2).1
  cases hb : st.bufs buf with
  | none => rw [hb] at this; cases this
  | some s => rw [hb] at this; exact ⟨i, s, rfl, List.mem_range.1 hi, rfl, this⟩
theorem done_len (buf : Int) (ids : List Int) (st : St) : (ids.foldl (doneOne buf) st).l.length = st.l.length := by
  induction ids generalizing st with
  | nil => rfl
  | cons x ids ih => rw [List.foldl_cons, ih]; simp [doneOne]
theorem done_bufs (buf : Int) (ids : List Int) (st : St) {s : Int → Bool} (h : st.bufs buf = some s) : ∃ s', (ids.foldl (doneOne buf) st).bufs buf = some s' := by
  induction ids generalizing st s with
  | nil => exact ⟨s, h⟩
  | cons x ids ih =>
    rw [List.foldl_cons]
    refine ih (doneOne buf st x) (s := fun y => if y = x then false else s y) ?_
    simp [doneOne, upd, h]
theorem freeOne_len (ids : List Int) (st : St) : (ids.foldl freeOne st).l.length = st.l.length := by
  induction ids generalizing st with
  | nil => rfl
  | cons x ids ih => rw [List.foldl_cons, ih]; simp [freeOne]
theorem freeOnes_bufs (ids : List Int) (st : St) : (ids.foldl freeOne st).bufs = st.bufs := by
  induction ids generalizing st with
  | nil => rfl
  | cons x ids ih => rw [List.foldl_cons, ih]; rfl
theorem freeAll_len1 (st : St) (x : Int) : (freeAll st x).l.length = st.l.length := by unfold freeAll clearTo; simp [freeOne_len]
theorem freeAll_len (ids : List Int) (st : St) : (ids.foldl freeAll st).l.length = st.l.length := by
  induction ids generalizing st with
  | nil => rfl
  | cons x ids ih => rw [List.foldl_cons, ih, freeAll_len1]
theorem freeOne_to (st : St) (k : Int) (j : Nat) : ((freeOne st k).l.getD j zc).to = (st.l.getD j zc).to := by
  unfold freeOne
  by_cases hj : j < st.l.length
  · simp [hj, List.getElem_modify]
    split <;> rfl
  · simp [hj]
theorem freeOnes_to (ids : List Int) (st : St) (j : Nat) : ((ids.foldl freeOne st).l.getD j zc).to = (st.l.getD j zc).to := by
  induction ids generalizing st with
  | nil => rfl
  | cons x ids ih => rw [List.foldl_cons, ih, freeOne_to]
theorem wpList_len {P : Program} {w : World} {ops : Array Oper} {rest : List Oper} {o : Oper} {a : Act} {Q : Exit → Act → World → Prop} (hg : o.guard = none) (m : Operand) (t : TypeId) (hop : o.op = Op.call { callee := Callee.builtin Builtin.len, args := #[m], argTypes := #[t] })
    (mv v : Value) (hm : a.eval m = mv) (hrun : ∀ ty, (Builtin.len_ #[t] ty #[mv]).run P w = .ok v w) (hK : wpList P ops Q rest (a.put o.dst v) w) : wpList P ops Q (o :: rest) a w := by
  refine wpList_plain hg fun K' hK' => ?_
  unfold Oper.wp
  simp [execOp, hop, resolve, invoke, builtin, hm, hrun o.type, Result.andThen]
  exact hK' _ _ hK
theorem set_any {st : St} (hf : Fit st) {buf : Int} {s : Int → Bool} (hs : st.bufs buf = some s) {W : World} {b z : Nat} (hz : OwnV Try.prog 3 W b (setF s) z) : (z = 0 ↔ (List.range st.l.length).any (fun i => s (i : Int)) = false) := by
  rw [hz.empty_iff]
  constructor
  · intro h
    rw [List.any_eq_false]
    intro i _ hi
    have := h (i : Int)
    unfold setF at this
    rw [hi] at this
    simp at this
  · intro h x
    unfold setF
    cases hx : s x with
    | false => rfl
    | true =>
      obtain ⟨h0, h1⟩ := hf.set buf s hs x hx
      have := List.any_eq_false.1 h x.toNat (List.mem_range.2 (by omega))
      rw [Int.toNat_of_nonneg h0, hx] at this
      simp at this
end Go.Proofs.Ytlpdhmkcbdhelaa
