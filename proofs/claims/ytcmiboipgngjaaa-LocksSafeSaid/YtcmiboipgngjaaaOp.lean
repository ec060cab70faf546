/-
  Opening of an argument that reads: what 'trod' met, as a kind of the printed words. General words: whole numbers, strings, slices.
-/
import Derived.Test.YtcmiboipgngjaaaWo
import Derived.SizedLaws
import Derived.SliceStrings
import Derived.WalkKit
import Derived.ProofKit
import Derived.OpenShut
import Derived.DataElems
namespace Go.Proofs.Ytcmiboipgngjaaa
set_option linter.unusedVariables false
set_option linter.unusedSimpArgs false
open Go.RowKit

/-- how a value reads in memory -/
structure Kd (α : Type) where
  sz : Nat
  K : World → α → List Value → Prop
/-- the elements of a slice, read one by one -/
def Kd.C {α : Type} (d : Kd α) (w : World) (A : Option Addr) (xs : List α) : Prop := xs ≠ [] → ∃ a, A = some a ∧ ∀ j p, xs[j]? = some p → ∃ cs, cs.length = d.sz ∧ d.K w p cs ∧ ∀ i u, cs[i]? = some u → w.cell? (a.add (j * d.sz + i)) = some u
def Kd.int (k : IntKind) : Kd Int := ⟨1, fun _ z cs => cs = [.int k z]⟩
def Kd.slice {α : Type} (d : Kd α) : Kd (List α) := ⟨1, fun w xs cs => ∃ A c, cs = [.slice A xs.length c] ∧ xs.length ≤ c ∧ d.C w A xs⟩
/-- what reads as type t, and weighs no more than memory holds, is of kind d, and S -/
def Opens {α : Type} (P : Program) (t : TypeId) (d : Kd α) (S : α → Prop) : Prop :=
  ∀ {H : Type} {enc : TypeId × Value → H} {w : World} {base : Nat} {spare : Nat → Bool} {held : Bool} {fuel : Nat} {cs : List Value} {x : DataW H × List MemPlace},
    DataW.trod enc P w base spare held fuel t cs = some x → (x.1.weights P t).all (· ≤ reachBytes) = true → ∃ v, d.K w v cs ∧ S v
theorem opens_int {P : Program} {t : TypeId} {k : IntKind} (ht : P.underlying t = some (.int k)) : Opens P t (Kd.int k) (fun n => (Lit.int k n).wf = true) := by
  intro H enc w base spare held fuel cs x h _
  obtain ⟨n, rfl, _, hw⟩ := DataW.trod_int ht h
  exact ⟨n, rfl, hw⟩
theorem mem_weightsAll {H : Type} {P : Program} {e : TypeId} : ∀ {ds : List (DataW H)} {d : DataW H}, d ∈ ds → ∀ n ∈ d.weights P e, n ∈ DataW.weightsAll P e ds
  | d0 :: ds, d, hd, n, hn => by
    rw [DataW.weightsAll, List.mem_append]
    rcases List.mem_cons.1 hd with rfl | hd
    · exact .inl hn
    · exact .inr (mem_weightsAll hd n hn)
theorem opens_slice {α : Type} {P : Program} {t e : TypeId} {d : Kd α} {S : α → Prop} (ht : P.underlying t = some (.slice e)) (hd : Opens P e d S) (hsz : P.cellsOf e = d.sz) : Opens P t (Kd.slice d) (fun xs => (∀ x ∈ xs, S x) ∧ xs.length * P.bytesOf e ≤ reachBytes ∧ xs.length ≤ maxLen) := by
  intro H enc w base spare held fuel cs x h hw
  rcases DataW.trod_slice ht h with ⟨rfl, _⟩ | ⟨a, len, cap, elems, rest, n, _, rfl, rfl, hb, hl, hm, hlen, hel, _, _⟩
  · exact ⟨[], ⟨none, 0, rfl, Nat.le_refl _, fun h => absurd rfl h⟩, by simp⟩
  · simp only [DataW.weights, ht, List.all_cons, Bool.and_eq_true, List.all_append] at hw
    obtain ⟨hw1, hw2, _⟩ := hw
    have each : ∀ i : Fin len, ∃ v, S v ∧ ∃ c, c.length = d.sz ∧ d.K w v c ∧ ∀ j u, c[j]? = some u → w.cell? (a.add (i.val * d.sz + j)) = some u := by
      intro i
      have hi := hel i.val i.isLt
      have hlt : i.val < elems.length := by omega
      rw [List.getElem?_eq_getElem hlt, hsz, Option.bind_eq_some_iff] at hi
      obtain ⟨c, hc, hy⟩ := hi
      obtain ⟨_, hcl, hcell⟩ := World.cells?_some hc
      obtain ⟨v, hK, hS⟩ := hd hy (by
        rw [List.all_eq_true] at hw2 ⊢
        intro n hn
        exact hw2 n (mem_weightsAll (List.mem_map.2 ⟨_, List.getElem_mem hlt, rfl⟩) n hn))
      refine ⟨v, hS, c, hcl, hK, fun j u hu => ?_⟩
      have hj : j < d.sz := by have := (List.getElem?_eq_some_iff.1 hu).1; omega
      have := hcell j hj
      rw [Addr.add_add, hu] at this
      exact this
    let f : Fin len → α := fun i => Classical.choose (each i)
    have hf := fun i => Classical.choose_spec (each i)
    have hfl : (List.ofFn f).length = len := List.length_ofFn
    refine ⟨List.ofFn f, ⟨some a, cap, by rw [hfl], by rw [hfl]; exact hl, fun _ => ⟨a, rfl, fun j p hj => ?_⟩⟩, fun y hy => ?_, ?_, ?_⟩
    · rw [List.getElem?_ofFn] at hj
      split at hj
      · rename_i hlt
        injection hj with hj
        subst hj
        obtain ⟨_, c, h1, h2, h3⟩ := hf ⟨j, hlt⟩
        exact ⟨c, h1, h2, fun i u hu => h3 i u hu⟩
      · cases hj
    · obtain ⟨i, hi⟩ := List.mem_ofFn.1 hy
      rw [← hi]
      exact (hf i).1
    · rw [hfl]
      have h2 : (elems.length + rest.length) * P.bytesOf e ≤ reachBytes := by simpa using hw1
      have h3 : len * P.bytesOf e ≤ (elems.length + rest.length) * P.bytesOf e := Nat.mul_le_mul_right _ (by omega)
      omega
    · rw [hfl]; omega
theorem field_weights {H : Type} {P : Program} {t u : TypeId} {fs : Array Field} {ds : List (DataW H)} {d : DataW H} (ht : P.underlying t = some (.struct fs)) (hw : ((DataW.agg ds).weights P t).all (· ≤ reachBytes) = true) (j : Nat) (hu : (fs.toList.map (·.type))[j]? = some u) (hd : ds[j]? = some d) : (d.weights P u).all (· ≤ reachBytes) = true := by
  simp only [DataW.weights, ht] at hw
  rw [List.all_eq_true] at hw ⊢
  exact fun n hn => hw n (DataW.weights_mem_each hu hd n hn)
/-- one field of a struct that was opened -/
theorem opens_field {H : Type} {α : Type} {P : Program} {t u : TypeId} {d : Kd α} {S : α → Prop} {fs : Array Field} {enc : TypeId × Value → H} {w : World} {base : Nat} {spare : Nat → Bool} {held : Bool} {n : Nat} {cs : List Value} {xs : List (DataW H × List MemPlace)}
    (ht : P.underlying t = some (.struct fs)) (ho : Opens P u d S) (hf : ∀ (i : Nat) (f : Field), fs[i]? = some f → DataW.trod enc P w base spare held n f.type ((cs.drop f.offset).take (P.cellsOf f.type)) = xs[i]?)
    (hw : ((DataW.agg (xs.map (·.1))).weights P t).all (· ≤ reachBytes) = true) (hl : xs.length = fs.size) (j off : Nat) (hj : j < fs.size) (hu : fs[j].type = u) (hoff : fs[j].offset = off) :
    ∃ v, d.K w v ((cs.drop off).take (P.cellsOf u)) ∧ S v := by
  have h1 := hf j fs[j] (Array.getElem?_eq_getElem hj)
  have hlt : j < xs.length := by omega
  rw [List.getElem?_eq_getElem hlt, hu, hoff] at h1
  refine ho h1 (field_weights ht hw j ?_ ?_)
  · rw [List.getElem?_map, Array.getElem?_toList, Array.getElem?_eq_getElem hj]; simp [hu]
  · rw [List.getElem?_map, List.getElem?_eq_getElem hlt]; rfl
theorem opens_bool {P : Program} {t : TypeId} (ht : P.underlying t = some .bool) : Opens P t (⟨1, fun _ b cs => cs = [.bool b]⟩ : Kd Bool) (fun _ => True) := by
  intro H enc w base spare held fuel cs x h _
  obtain ⟨b, rfl, _⟩ := DataW.trod_bool ht h
  exact ⟨b, rfl, trivial⟩
theorem cells3 : Try.prog.cellsOf 3 = 1 := by kernel_rfl
theorem cells4 : Try.prog.cellsOf 4 = 1 := by kernel_rfl
theorem cells27 : Try.prog.cellsOf 27 = 3 := by kernel_rfl
theorem cells37 : Try.prog.cellsOf 37 = 4 := by kernel_rfl
theorem bytes37 : Try.prog.bytesOf 37 = 32 := by kernel_rfl
/-- a call of a row of calls -/
structure Ac where
  way : Int
  lk : Lk
def LkOk (x : Lk) : Prop := (Lit.int .i64 x.th).wf = true ∧ (Lit.int .i64 x.tg).wf = true
def kLk : Kd Lk := ⟨3, fun _ x cs => cs = x.cells⟩
def kAc : Kd Ac := ⟨4, fun _ x cs => cs = .int .i64 x.way :: x.lk.cells⟩
def AcOk (x : Ac) : Prop := (Lit.int .i64 x.way).wf = true ∧ LkOk x.lk
def AcsOk (xs : List Ac) : Prop := (∀ x ∈ xs, AcOk x) ∧ xs.length * 32 ≤ reachBytes
set_option maxRecDepth 100000 in
theorem opens_lk : Opens Try.prog 27 kLk LkOk := by
  intro H enc w base spare held fuel cs x h hw
  obtain ⟨xs, n, _, rfl, hl, hlen, hf⟩ := DataW.trod_struct Try.underlying27 h
  obtain ⟨v0, k0, s0⟩ := opens_field Try.underlying27 (opens_int Try.underlying3) hf hw hlen 0 0 (by decide) rfl rfl
  obtain ⟨v1, k1, s1⟩ := opens_field Try.underlying27 (opens_int Try.underlying3) hf hw hlen 1 1 (by decide) rfl rfl
  obtain ⟨v2, k2, s2⟩ := opens_field Try.underlying27 (opens_bool Try.underlying4) hf hw hlen 2 2 (by decide) rfl rfl
  rw [cells27] at hl
  rw [cells3] at k0 k1
  rw [cells4] at k2
  match cs, hl with
  | [c0, c1, c2], _ =>
    have e0 : [c0] = [Value.int .i64 v0] := k0
    have e1 : [c1] = [Value.int .i64 v1] := k1
    have e2 : [c2] = [Value.bool v2] := k2
    rw [List.singleton_inj] at e0 e1 e2
    subst e0
    subst e1
    subst e2
    exact ⟨⟨v0, v1, v2⟩, rfl, s0, s1⟩
set_option maxRecDepth 100000 in
theorem opens_ac : Opens Try.prog 37 kAc AcOk := by
  intro H enc w base spare held fuel cs x h hw
  obtain ⟨xs, n, _, rfl, hl, hlen, hf⟩ := DataW.trod_struct Try.underlying37 h
  obtain ⟨v0, k0, s0⟩ := opens_field Try.underlying37 (opens_int Try.underlying3) hf hw hlen 0 0 (by decide) rfl rfl
  obtain ⟨v1, k1, s1⟩ := opens_field Try.underlying37 opens_lk hf hw hlen 1 1 (by decide) rfl rfl
  rw [cells37] at hl
  rw [cells3] at k0
  rw [cells27] at k1
  match cs, hl with
  | [c0, c1, c2, c3], _ =>
    have e0 : [c0] = [Value.int .i64 v0] := k0
    have e1 : [c1, c2, c3] = v1.cells := k1
    rw [List.singleton_inj] at e0
    subst e0
    exact ⟨⟨v0, v1⟩, congrArg _ e1, s0, s1⟩
theorem opens_acs : Opens Try.prog 34 (Kd.slice kAc) AcsOk := by
  intro H enc w base spare held fuel cs x h hw
  obtain ⟨v, hK, hS⟩ := opens_slice Try.underlying34 opens_ac cells37 h hw
  exact ⟨v, hK, hS.1, by have := hS.2.1; rwa [bytes37] at this⟩
theorem add_none {ba off m : Nat} : (⟨ba, off, none⟩ : Addr).add m = ⟨ba, off + m, none⟩ := by
  simp only [Addr.add]
  split
  · rename_i e; rw [e]; rfl
  · rfl
theorem spot_none {w : World} {a : Addr} {v : Value} (h : w.cell? (a.add 0) = some v) : a = ⟨a.block, a.off, none⟩ := by
  obtain ⟨b, off, spot⟩ := a
  have hspot : spot = none := by simpa [Addr.add] using World.cell?_spot h
  rw [hspot]
/-- the calls of an argument, one by one -/
theorem acs_at {w : World} {A : Option Addr} {xs : List Ac} (h : kAc.C w A xs) {k : Nat} (hk : k < xs.length) : ∃ ba off, A = some ⟨ba, off, none⟩ ∧ ba < w.heap.size ∧ w.cell? ⟨ba, off + k * 4, none⟩ = some (.int .i64 xs[k].way) ∧ w.cell? ⟨ba, off + k * 4 + 1, none⟩ = some (.int .i64 xs[k].lk.th) ∧
    w.cell? ⟨ba, off + k * 4 + 2, none⟩ = some (.int .i64 xs[k].lk.tg) ∧ w.cell? ⟨ba, off + k * 4 + 3, none⟩ = some (.bool xs[k].lk.al) := by
  obtain ⟨a, rfl, hc⟩ := h (by intro e; rw [e] at hk; simp at hk)
  obtain ⟨cs, _, e, hu⟩ := hc k xs[k] (by simp [hk])
  have e : cs = [.int .i64 xs[k].way, .int .i64 xs[k].lk.th, .int .i64 xs[k].lk.tg, .bool xs[k].lk.al] := e
  subst e
  have h0 := hu 0 _ rfl
  have h1 := hu 1 _ rfl
  have h2 := hu 2 _ rfl
  have h3 := hu 3 _ rfl
  have ea : a = ⟨a.block, a.off, none⟩ := by
    have h0 : 0 < xs.length := by omega
    obtain ⟨cs, _, e, hu⟩ := hc 0 xs[0] (by simp [h0])
    have e : cs = [.int .i64 xs[0].way, .int .i64 xs[0].lk.th, .int .i64 xs[0].lk.tg, .bool xs[0].lk.al] := e
    subst e
    have := hu 0 _ rfl
    exact spot_none (by simpa using this)
  obtain ⟨ba, off, spot⟩ := a
  obtain rfl : spot = none := by injection ea
  rw [add_none] at h0 h1 h2 h3
  exact ⟨ba, off, rfl, World.block_lt_of_cell? _ _ h0, h0, by rw [Nat.add_assoc]; exact h1, by rw [Nat.add_assoc]; exact h2, by rw [Nat.add_assoc]; exact h3⟩
theorem acs_below {w w' : World} {A : Option Addr} {xs : List Ac} (h : kAc.C w A xs) (hb : Below w.heap.size w w') {k : Nat} (hk : k < xs.length) : ∃ ba off, A = some ⟨ba, off, none⟩ ∧ ba < w.heap.size ∧ w'.cell? ⟨ba, off + k * 4, none⟩ = some (.int .i64 xs[k].way) ∧ w'.cell? ⟨ba, off + k * 4 + 1, none⟩ = some (.int .i64 xs[k].lk.th) ∧
    w'.cell? ⟨ba, off + k * 4 + 2, none⟩ = some (.int .i64 xs[k].lk.tg) ∧ w'.cell? ⟨ba, off + k * 4 + 3, none⟩ = some (.bool xs[k].lk.al) := by
  obtain ⟨ba, off, e, hlt, h0, h1, h2, h3⟩ := acs_at h hk
  exact ⟨ba, off, e, hlt, (hb.cell (p := ⟨ba, off + k * 4, none⟩) hlt).trans h0, (hb.cell (p := ⟨ba, off + k * 4 + 1, none⟩) hlt).trans h1, (hb.cell (p := ⟨ba, off + k * 4 + 2, none⟩) hlt).trans h2, (hb.cell (p := ⟨ba, off + k * 4 + 3, none⟩) hlt).trans h3⟩
end Go.Proofs.Ytcmiboipgngjaaa
