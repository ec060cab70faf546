/-
  Opening of an argument that reads: what 'trod' met, as a kind of the printed words. General words: whole numbers, strings, slices.
-/
import Derived.Test.YtnmlmbbacicojaaWWords
import Derived.SizedLaws
import Derived.SliceStrings
import Derived.WalkKit
import Derived.ProofKit
import Derived.OpenShut
import Derived.DataElems
namespace Go.Proofs.Ytnmlmbbacicojaa
set_option linter.unusedVariables false
set_option linter.unusedSimpArgs false
open Go.RowKit Go.Proofs.YtnmlmbbacicojaaW.PrintWords

/-- what reads as type t, and weighs no more than memory holds, is of kind d, and S -/
def Opens {α : Type} (P : Program) (t : TypeId) (d : Kd α) (S : α → Prop) : Prop :=
  ∀ {H : Type} {enc : TypeId × Value → H} {w : World} {base : Nat} {spare : Nat → Bool} {held : Bool} {fuel : Nat} {cs : List Value} {x : DataW H × List MemPlace},
    DataW.trod enc P w base spare held fuel t cs = some x → (x.1.weights P t).all (· ≤ reachBytes) = true → ∃ v, d.K w v cs ∧ S v
theorem opens_int {P : Program} {t : TypeId} {k : IntKind} (ht : P.underlying t = some (.int k)) : Opens P t (Kd.int k) (fun n => (Lit.int k n).wf = true) := by
  intro H enc w base spare held fuel cs x h _
  obtain ⟨n, rfl, _, hw⟩ := DataW.trod_int ht h
  exact ⟨n, rfl, hw⟩
theorem opens_string {P : Program} {t : TypeId} (ht : P.underlying t = some .string) : Opens P t Kd.string (fun s => s.size ≤ reachBytes) := by
  intro H enc w base spare held fuel cs x h hw
  obtain ⟨s, rfl, rfl, _⟩ := DataW.trod_string ht h
  refine ⟨s, rfl, ?_⟩
  have : s.data.toList.length ≤ reachBytes := by simpa [DataW.weights] using hw
  rwa [Array.length_toList] at this
theorem mem_weightsAll {H : Type} {P : Program} {e : TypeId} : ∀ {ds : List (DataW H)} {d : DataW H}, d ∈ ds → ∀ n ∈ d.weights P e, n ∈ DataW.weightsAll P e ds
  | d0 :: ds, d, hd, n, hn => by
    rw [DataW.weightsAll, List.mem_append]
    rcases List.mem_cons.1 hd with rfl | hd
    · exact .inl hn
    · exact .inr (mem_weightsAll hd n hn)
theorem opens_slice {α : Type} {P : Program} {t e : TypeId} {d : Kd α} {S : α → Prop} (ht : P.underlying t = some (.slice e)) (hd : Opens P e d S) (hsz : P.cellsOf e = d.sz) (e' : Nat) : Opens P t (Kd.slice e' d) (fun xs => (∀ x ∈ xs, S x) ∧ xs.length * P.bytesOf e ≤ reachBytes ∧ xs.length ≤ maxLen) := by
  intro H enc w base spare held fuel cs x h hw
  rcases DataW.trod_slice ht h with ⟨rfl, _⟩ | ⟨a, len, cap, elems, rest, n, _, rfl, rfl, hb, hl, hm, hlen, hel, _, _⟩
  · exact ⟨[], ⟨none, 0, rfl, Nat.le_refl _, rfl, by simp, fun h => absurd h (by simp)⟩, by simp⟩
  · simp only [DataW.weights, ht, List.all_cons, Bool.and_eq_true, List.all_append] at hw
    obtain ⟨hw1, hw2, _⟩ := hw
    have each : ∀ i : Fin len, ∃ v, S v ∧ ∃ c, c.length = d.sz ∧ d.K w v c ∧ ∀ j u, c[j]? = some u → w.cell? (a.add (i.val * d.sz + j)) = some u := by
      intro i
      have hi := hel i.val i.isLt
      have hlt : i.val < elems.length := by omega
      rw [List.getElem?_eq_getElem hlt, hsz, Option.bind_eq_some_iff] at hi
      obtain ⟨c, hc, hy⟩ := hi
      obtain ⟨_, hcl, hcell⟩ := World.cells?_some hc
      obtain ⟨v, hK, hS⟩ := hd hy (by
        rw [List.all_eq_true] at hw2 ⊢
        intro n hn
        exact hw2 n (mem_weightsAll (List.mem_map.2 ⟨_, List.getElem_mem hlt, rfl⟩) n hn))
      refine ⟨v, hS, c, hcl, hK, fun j u hu => ?_⟩
      have hj : j < d.sz := by have := (List.getElem?_eq_some_iff.1 hu).1; omega
      have := hcell j hj
      rw [Addr.add_add, hu] at this
      exact this
    let f : Fin len → α := fun i => Classical.choose (each i)
    have hf := fun i => Classical.choose_spec (each i)
    have hfl : (List.ofFn f).length = len := List.length_ofFn
    refine ⟨List.ofFn f, ⟨some a, cap, by rw [hfl], by rw [hfl]; exact hl, rfl, ?_, fun _ => ⟨a, rfl, fun j p hj => ?_⟩⟩, fun y hy => ?_, ?_, ?_⟩
    · rw [hfl]; have h2 : cap ≤ 9223372036854775807 := hm; omega
    · rw [List.getElem?_ofFn] at hj
      split at hj
      · rename_i hlt
        injection hj with hj
        subst hj
        obtain ⟨_, c, h1, h2, h3⟩ := hf ⟨j, hlt⟩
        exact ⟨c, h1, h2, fun i u hu => h3 i u hu⟩
      · cases hj
    · obtain ⟨i, hi⟩ := List.mem_ofFn.1 hy
      rw [← hi]
      exact (hf i).1
    · rw [hfl]
      have h2 : (elems.length + rest.length) * P.bytesOf e ≤ reachBytes := by simpa using hw1
      have h3 : len * P.bytesOf e ≤ (elems.length + rest.length) * P.bytesOf e := Nat.mul_le_mul_right _ (by omega)
      omega
    · rw [hfl]; omega
theorem field_weights {H : Type} {P : Program} {t u : TypeId} {fs : Array Field} {ds : List (DataW H)} {d : DataW H} (ht : P.underlying t = some (.struct fs)) (hw : ((DataW.agg ds).weights P t).all (· ≤ reachBytes) = true) (j : Nat) (hu : (fs.toList.map (·.type))[j]? = some u) (hd : ds[j]? = some d) : (d.weights P u).all (· ≤ reachBytes) = true := by
  simp only [DataW.weights, ht] at hw
  rw [List.all_eq_true] at hw ⊢
  exact fun n hn => hw n (DataW.weights_mem_each hu hd n hn)
/-- one field of a struct that was opened -/
theorem opens_field {H : Type} {α : Type} {P : Program} {t u : TypeId} {d : Kd α} {S : α → Prop} {fs : Array Field} {enc : TypeId × Value → H} {w : World} {base : Nat} {spare : Nat → Bool} {held : Bool} {n : Nat} {cs : List Value} {xs : List (DataW H × List MemPlace)}
    (ht : P.underlying t = some (.struct fs)) (ho : Opens P u d S) (hf : ∀ (i : Nat) (f : Field), fs[i]? = some f → DataW.trod enc P w base spare held n f.type ((cs.drop f.offset).take (P.cellsOf f.type)) = xs[i]?)
    (hw : ((DataW.agg (xs.map (·.1))).weights P t).all (· ≤ reachBytes) = true) (hl : xs.length = fs.size) (j off : Nat) (hj : j < fs.size) (hu : fs[j].type = u) (hoff : fs[j].offset = off) :
    ∃ v, d.K w v ((cs.drop off).take (P.cellsOf u)) ∧ S v := by
  have h1 := hf j fs[j] (Array.getElem?_eq_getElem hj)
  have hlt : j < xs.length := by omega
  rw [List.getElem?_eq_getElem hlt, hu, hoff] at h1
  refine ho h1 (field_weights ht hw j ?_ ?_)
  · rw [List.getElem?_map, Array.getElem?_toList, Array.getElem?_eq_getElem hj]; simp [hu]
  · rw [List.getElem?_map, List.getElem?_eq_getElem hlt]; rfl
end Go.Proofs.Ytnmlmbbacicojaa
