/-
  What a deps.Graph is in memory, part by part, and the words for its changes. No condition.
-/
import Derived.Test.YtlpdhmkcbdhelaaP
import Derived.Test.YtlpdhmkcbdhelaaProg
import Derived.Lib.SlKeysI
import Derived.KernelRfl
import Derived.WalkSpells
import Derived.BigQuiet
namespace Go.Proofs.Ytlpdhmkcbdhelaa
set_option linter.unusedVariables false
set_option linter.unusedSimpArgs false
open Go.RowKit Go.Maps

/-- a change: its buffer, what it hangs on, how many of these are not done, what hangs on it, whether it is done -/
structure Chg where
  buf : Int
  on : List Int
  left : Int
  to : List Int
  done : Bool
/-- a graph: by each buffer its set of changes that are not done, by each buffer how many may be written -/
structure St where
  l : List Chg
  bufs : Int → Option (Int → Bool)
  opn : Int
  next : Int → Option Int
def zc : Chg := ⟨0, [], 0, [], false⟩
def zst : St := ⟨[], fun _ => none, 0, fun _ => none⟩
def upd {α : Type} (f : Int → α) (k : Int) (v : α) : Int → α := fun x => if x = k then v else f x
/-- a change with the slices of its rows -/
structure Cg where
  c : Chg
  von : Value
  vto : Value
/-- a buffer's set: where it lies -/
structure Bs where
  key : Int
  loc : Nat
  set : Int → Bool
def ints (l : List Int) : List Value := l.map (Value.int .i64)
theorem ints_len (l : List Int) : (ints l).length = l.length := List.length_map _
def Cg.cells (c : Cg) : List Value := [.int .i64 c.c.buf, c.von, .int .i64 c.c.left, c.vto, .bool c.c.done]
def cellsL (l : List Cg) : List Value := l.flatMap Cg.cells
theorem cellsL_len (l : List Cg) : (cellsL l).length = l.length * 5 := by
  unfold cellsL
  induction l with
  | nil => rfl
  | cons c l ih => rw [List.flatMap_cons, List.length_append, ih]; simp [Cg.cells]; omega
theorem cellsL_append (a b : List Cg) : cellsL (a ++ b) = cellsL a ++ cellsL b := by unfold cellsL; rw [List.flatMap_append]
theorem cellsL_at {l : List Cg} {k : Nat} (h : k < l.length) {i : Nat} (hi : i < 5) : (cellsL l)[k * 5 + i]? = (l[k].cells)[i]? := by
  have e : l = l.take k ++ l[k] :: l.drop (k + 1) := by rw [List.getElem_cons_drop, List.take_append_drop]
  conv => lhs; rw [e]
  rw [cellsL_append, List.getElem?_append_right (by rw [cellsL_len, List.length_take]; omega), cellsL_len, List.length_take, Nat.min_eq_left (by omega), Nat.add_sub_cancel_left]
  show (l[k].cells ++ cellsL _)[i]? = _
  rw [List.getElem?_append_left (by simp [Cg.cells]; omega)]
theorem cellsL_set {l : List Cg} {k : Nat} (h : k < l.length) {i : Nat} (hi : i < 5) (u : Value) (c : Cg) (hc : c.cells = (l[k].cells).set i u) : (cellsL l).set (k * 5 + i) u = cellsL (l.set k c) := by
  have e : l = l.take k ++ l[k] :: l.drop (k + 1) := by rw [List.getElem_cons_drop, List.take_append_drop]
  have e2 : l.set k c = l.take k ++ c :: l.drop (k + 1) := by
    rw [List.set_eq_take_append_cons_drop, if_pos h]
  rw [e2]
  conv => lhs; rw [e]
  rw [cellsL_append, cellsL_append, List.set_append, if_neg (by rw [cellsL_len, List.length_take]; omega), cellsL_len, List.length_take, Nat.min_eq_left (by omega), Nat.add_sub_cancel_left]
  congr 1
  show (l[k].cells ++ cellsL _).set i u = c.cells ++ cellsL _
  rw [List.set_append, if_pos (by simp [Cg.cells]; omega), hc]
def onA (c : Cg) : Atom := rowA 3 1 c.von c.c.on.length (ints c.c.on)
def toA (c : Cg) : Atom := rowA 3 1 c.vto c.c.to.length (ints c.c.to)
/-- a map whose size is not told -/
def mpA (b : Nat) (f : Int → Option Value) : Atom where
  b := some b
  Q W := ∃ s, OwnV Try.prog 3 W b f s
  loc := fun h ⟨s, hq⟩ => ⟨s, hq.same (h b rfl)⟩
  lt := fun ⟨s, hq⟩ k hk => by cases hk; exact hq.lt
def setF (s : Int → Bool) : Int → Option Value := fun x => if s x then some (.bool true) else none
def intF (f : Int → Option Int) : Int → Option Value := fun x => (f x).map (Value.int .i64)
def bsAt (bs : List Bs) (x : Int) : Option Bs := bs.find? (fun b => b.key == x)
def locF (bs : List Bs) : Int → Option Value := fun x => (bsAt bs x).map (fun b => .map (some b.loc))
def Bs.a (b : Bs) : Atom := mpA b.loc (setF b.set)
/-- the parts of a graph behind pointer g -/
def gParts (g : Nat) (vl : Value) (l : List Cg) (bb nb : Nat) (opn : Int) (bs : List Bs) (nx : Int → Option Int) : List Atom :=
  blkA g #[vl, .map (some bb), .int .i64 opn, .map (some nb)] 58 :: rowA 60 5 vl l.length (cellsL l) :: mpA bb (locF bs) :: mpA nb (intF nx) :: (l.map onA ++ (l.map toA ++ bs.map Bs.a))
/-- these parts are the graph st behind pointer g -/
def IsG (g : Nat) (st : St) (ps : List Atom) : Prop :=
  ∃ vl l bb nb bs, ps = gParts g vl l bb nb st.opn bs st.next ∧ l.map Cg.c = st.l ∧ (∀ x, st.bufs x = (bsAt bs x).map Bs.set) ∧ (bs.map Bs.key).Nodup
/-- a graph whose numbers are in their bounds -/
structure Fit (st : St) : Prop where
  len : st.l.length < 1099511627776
  chg : ∀ c ∈ st.l, I64 c.buf ∧ c.on.length < 1099511627776 ∧ c.to.length < 1099511627776 ∧ -1099511627776 < c.left ∧ c.left < 1099511627776 ∧ ∀ x ∈ c.to, 0 ≤ x ∧ x < st.l.length
  opn : -1099511627776 < st.opn ∧ st.opn < 1099511627776
  next : ∀ b v, st.next b = some v → -1099511627776 < v ∧ v < 1099511627776
  nextIn : ∀ b, (st.next b).isSome = true → ∃ c ∈ st.l, c.buf = b
  bufsIn : ∀ b, (st.bufs b).isSome = true → ∃ c ∈ st.l, c.buf = b
  set : ∀ b s, st.bufs b = some s → ∀ x, s x = true → 0 ≤ x ∧ x < st.l.length

/-! maps as functions: keys, sizes -/
theorem OwnV.keys {kt : TypeId} {w : World} {b s : Nat} {f : Int → Option Value} (h : OwnV Try.prog kt w b f s) (hk : Try.prog.underlying kt = some (.int .i64)) :
    ∃ D : DataW Value, w.ownsMap Try.prog kt heldR b s D ∧ Maps.size D = s ∧ (intKeys D).Nodup ∧ (intKeys D).length = s ∧ (∀ x, x ∈ intKeys D ↔ (f x).isSome = true) ∧ ∀ x ∈ intKeys D, (Lit.int .i64 x).wf = true := by
  obtain ⟨D, h1, h2, h3, h4⟩ := h
  have hwf := intKeys_wf h1 hk
  obtain ⟨es, hD, hpw, _⟩ := h1.entries (int_keyed hk)
  obtain ⟨es', hD', hko⟩ := h1.keysOf
  obtain rfl : es = es' := by rw [hD] at hD'; simpa using hD'
  subst hD
  have hk' : ∀ p ∈ es, ∃ x, p.1 = .int .i64 x := fun p hp => by obtain ⟨v, hv⟩ := hko p hp; obtain ⟨x, _, hx, _⟩ := Maps.keyOf_i64 hk hv; exact ⟨x, hx⟩
  have hnd : (es.map fun p => Go.intOf p.1).Nodup := by
    refine List.pairwise_map.2 (hpw.imp_of_mem fun {p q} hp' hq' hne e => hne ?_)
    obtain ⟨a, ha⟩ := hk' p hp'
    obtain ⟨c, hc⟩ := hk' q hq'
    rw [ha, hc] at e ⊢
    exact congrArg _ e
  refine ⟨.map es, h1, h3, hnd, ?_, fun x => ?_, hwf⟩
  · show (es.map fun p => Go.intOf p.1).length = s
    rw [List.length_map]; exact h3
  · rw [← (h4 x).1, has_eq, List.any_eq_true]
    show x ∈ es.map (fun p => Go.intOf p.1) ↔ _
    rw [List.mem_map]
    constructor
    · rintro ⟨p, hp', rfl⟩
      obtain ⟨a, ha⟩ := hk' p hp'
      exact ⟨p, hp', by rw [ha]; simp [Lit.sameKey, Go.intOf]⟩
    · rintro ⟨p, hp', hs⟩
      obtain ⟨a, ha⟩ := hk' p hp'
      rw [ha] at hs
      exact ⟨p, hp', by rw [ha]; simpa [Lit.sameKey, Go.intOf] using hs⟩
theorem nodup_le {l m : List Int} (h : l.Nodup) (hs : ∀ x ∈ l, x ∈ m) : l.length ≤ m.length := by
  induction l generalizing m with
  | nil => simp
  | cons a l ih =>
    obtain ⟨h1, h2⟩ := List.nodup_cons.1 h
    have ha : a ∈ m := hs a List.mem_cons_self
    have := ih (m := m.erase a) h2 (fun x hx => (List.mem_erase_of_ne (fun e : x = a => h1 (e ▸ hx))).2 (hs x (List.mem_cons_of_mem _ hx)))
    rw [List.length_erase_of_mem ha] at this
    have := List.length_pos_of_mem ha
    simp only [List.length_cons]; omega
theorem OwnV.size_le {w : World} {b s : Nat} {f : Int → Option Value} (h : OwnV Try.prog 3 w b f s) (m : List Int) (hm : ∀ x, (f x).isSome = true → x ∈ m) : s ≤ m.length := by
  obtain ⟨D, _, _, h1, h2, h3, _⟩ := h.keys Try.underlying3
  rw [← h2]
  exact nodup_le h1 (fun x hx => hm x ((h3 x).1 hx))
theorem OwnV.empty_iff {w : World} {b s : Nat} {f : Int → Option Value} (h : OwnV Try.prog 3 w b f s) : s = 0 ↔ ∀ x, f x = none := by
  obtain ⟨D, _, _, h1, h2, h3, _⟩ := h.keys Try.underlying3
  constructor
  · intro e x
    rw [e, List.length_eq_zero_iff] at h2
    have := h3 x
    rw [h2] at this
    cases hq : f x with
    | none => rfl
    | some _ => rw [hq] at this; exact absurd (this.2 rfl) (by simp)
  · intro e
    rw [← h2, List.length_eq_zero_iff]
    refine List.eq_nil_iff_forall_not_mem.2 fun x hx => ?_
    have := (h3 x).1 hx
    rw [e x] at this; cases this
theorem mem_rangeI {n : Nat} {x : Int} (h : 0 ≤ x ∧ x < n) : x ∈ (List.range n).map (fun i : Nat => (i : Int)) :=
  List.mem_map.2 ⟨x.toNat, List.mem_range.2 (by omega), by omega⟩
section
variable {n : Nat} {w W : World} {ps : List Atom} {st : St}
theorem bsAt_mem {bs : List Bs} {x : Int} {b : Bs} (h : bsAt bs x = some b) : b ∈ bs ∧ b.key = x := by
  unfold bsAt at h
  exact ⟨List.mem_of_find?_eq_some h, by have := List.find?_some h; simpa using this⟩
theorem locF_isSome {bs : List Bs} {x : Int} : (locF bs x).isSome = (bsAt bs x).isSome := by unfold locF; cases bsAt bs x <;> rfl
/-- how many keys a set, the sets, the counts have -/
theorem Fit.setSize (h : Fit st) {b : Int} {s : Int → Bool} (hb : st.bufs b = some s) {bl z : Nat} (hm : OwnV Try.prog 3 W bl (setF s) z) : z ≤ st.l.length := by
  have := hm.size_le ((List.range st.l.length).map (fun i : Nat => (i : Int))) (fun x hx => mem_rangeI (h.set b s hb x (by unfold setF at hx; cases hs : s x with | true => rfl | false => rw [hs] at hx; simp at hx)))
  simpa using this
theorem Fit.bufsSize (h : Fit st) {bs : List Bs} (hb : ∀ x, st.bufs x = (bsAt bs x).map Bs.set) {bl z : Nat} (hm : OwnV Try.prog 3 W bl (locF bs) z) : z ≤ st.l.length := by
  have := hm.size_le (st.l.map Chg.buf) (fun x hx => by
    rw [locF_isSome] at hx
    obtain ⟨c, hc, e⟩ := h.bufsIn x (by rw [hb]; cases hq : bsAt bs x with | none => rw [hq] at hx; cases hx | some _ => rfl)
    exact List.mem_map.2 ⟨c, hc, e⟩)
  simpa using this
theorem Fit.nextSize (h : Fit st) {bl z : Nat} (hm : OwnV Try.prog 3 W bl (intF st.next) z) : z ≤ st.l.length := by
  have := hm.size_le (st.l.map Chg.buf) (fun x hx => by
    obtain ⟨c, hc, e⟩ := h.nextIn x (by unfold intF at hx; cases hq : st.next x with | none => rw [hq] at hx; cases hx | some _ => rfl)
    exact List.mem_map.2 ⟨c, hc, e⟩)
  simpa using this
end
end Go.Proofs.Ytlpdhmkcbdhelaa
