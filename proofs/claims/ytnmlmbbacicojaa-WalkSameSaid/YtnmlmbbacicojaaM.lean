/-
  Maps of the call's own from int to int and from int to bool, as functions. General words; conditions on the types alone.
-/
import Derived.Test.YtnmlmbbacicojaaG
import Derived.Maps.OwnSet
import Derived.Maps.OwnOps
import Derived.Maps.Keyed
namespace Go.Proofs.Ytnmlmbbacicojaa
set_option linter.unusedVariables false
set_option linter.unusedSimpArgs false
open Go.RowKit Go.Maps

theorem plainElem_bool_inv {P : Program} {e : TypeId} (he : P.underlying e = some .bool) {v : Value} {z : DataW Unit × List MemPlace} (h : plainElem P e v = some z) : ∃ a, v = .bool a ∧ z = (.lit (.bool a), []) := by
  unfold plainElem at h
  rw [he] at h
  cases v <;> simp at h
  subst h
  exact ⟨_, rfl, rfl⟩
abbrev kI (k : Int) : Lit := .int .i64 k
theorem kI_key (k : Int) : WideAt.IsKeyLit (kI k) := trivial
theorem kI_ne {a b : Int} (h : a ≠ b) : kI a ≠ kI b := fun e => h (by injection e)

/-- what a map from int to int holds -/
def MapII (D : DataW Unit) (f : Int → Option Int) : Prop := IsMap D ∧ ∀ k, has D (kI k) = (f k).isSome ∧ ∀ z, D.atKey (kI k) z = match f k with | some c => .lit (.int .i64 c) | none => z
theorem MapII.none_ : MapII (.map []) (fun _ => none) := ⟨⟨_, rfl⟩, fun k => ⟨rfl, fun z => rfl⟩⟩
theorem MapII.put {D : DataW Unit} {f : Int → Option Int} (h : MapII D f) (k c : Int) : MapII (D.put (kI k) (.lit (.int .i64 c))) (fun x => if x = k then some c else f x) := by
  obtain ⟨h1, h2⟩ := h
  refine ⟨h1.put _ _, fun x => ?_⟩
  by_cases e : x = k
  · subst e
    dsimp only
    rw [if_pos rfl]
    exact ⟨has_put_same h1 (kI_key _) _, fun z => atKey_put_same h1 (kI_key _) _ _⟩
  · dsimp only
    rw [if_neg e]
    refine ⟨(has_put_other (kI_ne e) _).trans (h2 x).1, fun z => (atKey_put_other (kI_ne e) _ _).trans ((h2 x).2 z)⟩
/-- what a map from int to bool holds -/
def MapIB (D : DataW Unit) (g : Int → Bool) : Prop := IsMap D ∧ ∀ k, D.atKey (kI k) (.lit (.bool false)) = .lit (.bool (g k))
theorem MapIB.none_ : MapIB (.map []) (fun _ => false) := ⟨⟨_, rfl⟩, fun k => rfl⟩
theorem MapIB.put {D : DataW Unit} {g : Int → Bool} (h : MapIB D g) (k : Int) (c : Bool) : MapIB (D.put (kI k) (.lit (.bool c))) (fun x => if x = k then c else g x) := by
  obtain ⟨h1, h2⟩ := h
  refine ⟨h1.put _ _, fun x => ?_⟩
  by_cases e : x = k
  · subst e
    dsimp only
    rw [if_pos rfl]
    exact atKey_put_same h1 (kI_key _) _ _
  · dsimp only
    rw [if_neg e]
    exact (atKey_put_other (kI_ne e) _ _).trans (h2 x)
def OwnII (P : Program) (kt et : TypeId) (w : World) (b n : Nat) (f : Int → Option Int) : Prop := ∃ D : DataW Unit, w.ownsMap P kt (plainElem P et) b n D ∧ MapII D f
def OwnIB (P : Program) (kt et : TypeId) (w : World) (b n : Nat) (g : Int → Bool) : Prop := ∃ D : DataW Unit, w.ownsMap P kt (plainElem P et) b n D ∧ MapIB D g
section
variable {P : Program} {kt et t : TypeId} {w w' : World} {b n : Nat} {f : Int → Option Int} {g : Int → Bool}
theorem OwnII.kept {row : Option Nat} (h : OwnII P kt et w b n f) (hg : w.grownBy w' row) (hne : some b ≠ row) : OwnII P kt et w' b n f := by
  obtain ⟨D, h1, h2⟩ := h
  exact ⟨D, h1.kept hg hne, h2⟩
theorem OwnIB.kept {row : Option Nat} (h : OwnIB P kt et w b n g) (hg : w.grownBy w' row) (hne : some b ≠ row) : OwnIB P kt et w' b n g := by
  obtain ⟨D, h1, h2⟩ := h
  exact ⟨D, h1.kept hg hne, h2⟩
theorem OwnII.same (h : OwnII P kt et w b n f) (hb : w'.heap[b]? = w.heap[b]?) : OwnII P kt et w' b n f := by
  obtain ⟨D, ⟨es, clock, h1, h2⟩, h3⟩ := h
  exact ⟨D, ⟨es, clock, hb.trans h1, h2⟩, h3⟩
theorem OwnIB.same (h : OwnIB P kt et w b n g) (hb : w'.heap[b]? = w.heap[b]?) : OwnIB P kt et w' b n g := by
  obtain ⟨D, ⟨es, clock, h1, h2⟩, h3⟩ := h
  exact ⟨D, ⟨es, clock, hb.trans h1, h2⟩, h3⟩
theorem OwnII.lt (h : OwnII P kt et w b n f) : b < w.heap.size := by obtain ⟨D, h1, _⟩ := h; exact h1.lt
theorem OwnIB.lt (h : OwnIB P kt et w b n g) : b < w.heap.size := by obtain ⟨D, h1, _⟩ := h; exact h1.lt
theorem OwnII.mono (h : OwnII P kt et w b n f) {n' : Nat} (hn : n ≤ n') : OwnII P kt et w b n' f := by obtain ⟨D, h1, h2⟩ := h; exact ⟨D, h1.mono hn, h2⟩
theorem OwnIB.mono (h : OwnIB P kt et w b n g) {n' : Nat} (hn : n ≤ n') : OwnIB P kt et w b n' g := by obtain ⟨D, h1, h2⟩ := h; exact ⟨D, h1.mono hn, h2⟩
/-- a map's block is no cells -/
theorem OwnII.obj (h : OwnII P kt et w b n f) : ∃ es clock, w.heap[b]? = some (.map es clock) := by obtain ⟨D, ⟨es, clock, h1, _⟩, _⟩ := h; exact ⟨es, clock, h1⟩
theorem OwnIB.obj (h : OwnIB P kt et w b n g) : ∃ es clock, w.heap[b]? = some (.map es clock) := by obtain ⟨D, ⟨es, clock, h1, _⟩, _⟩ := h; exact ⟨es, clock, h1⟩
theorem OwnII.look (h : OwnII P kt et w b n f) (hk : P.underlying kt = some (.int .i64)) (he : P.underlying et = some (.int .i64)) (ht : P.underlying t = some (.map kt et)) (hz : (zeroValue et).run P w = .ok (.int .i64 0) w) (k : Int) (hw : (Lit.int .i64 k).wf = true) :
    (Instr.lookup t (.map (some b)) (.int .i64 k) true).run P w = .ok (.tuple #[.int .i64 ((f k).getD 0), .bool (f k).isSome]) w := by
  obtain ⟨D, h1, h2, h3⟩ := h
  obtain ⟨v, ps, hrun, hv⟩ := h1.look_ok (int_keyed hk) ht hz (plainElem_int he (by decide)) (keyOf_int_mk hk hw)
  obtain ⟨e1, e2⟩ := h3 k
  rw [hrun]
  obtain ⟨c, rfl, hc, _⟩ := plainElem_int_inv he hv
  have e3 : D.atKey (kI k) (.lit (.int .i64 0)) = .lit (.int .i64 c) := by have := congrArg Prod.fst hc; exact this
  rw [e2] at e3
  have e4 : c = (f k).getD 0 := by
    cases hf : f k with
    | none => rw [hf] at e3; simp at e3; simp [e3]
    | some x => rw [hf] at e3; simp at e3; simp [e3]
  rw [e4, ← e1]
theorem OwnIB.look (h : OwnIB P kt et w b n g) (hk : P.underlying kt = some (.int .i64)) (he : P.underlying et = some .bool) (ht : P.underlying t = some (.map kt et)) (hz : (zeroValue et).run P w = .ok (.bool false) w) (k : Int) (hw : (Lit.int .i64 k).wf = true) :
    (Instr.lookup t (.map (some b)) (.int .i64 k) false).run P w = .ok (.bool (g k)) w := by
  obtain ⟨D, h1, h2, h3⟩ := h
  obtain ⟨v, ps, hrun, hv⟩ := h1.lookup (int_keyed hk) ht hz (plainElem_bool he false) (keyOf_int_mk hk hw)
  rw [hrun]
  rw [show (Lit.int .i64 k) = kI k from rfl, h3 k] at hv
  obtain ⟨c, rfl, hc⟩ := plainElem_bool_inv he hv
  have h5 : (DataW.lit (Lit.bool (g k)) : DataW Unit) = .lit (.bool c) := congrArg Prod.fst hc
  injection h5 with h5
  injection h5 with h5
  rw [h5]
end
end Go.Proofs.Ytnmlmbbacicojaa
