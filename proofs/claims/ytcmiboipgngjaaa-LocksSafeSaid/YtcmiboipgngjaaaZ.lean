/-
  Maps of the call's own as functions: their keys, their sizes. General words; conditions on the types alone.
-/
import Derived.Test.YtcmiboipgngjaaaI
import Derived.Test.YtcmiboipgngjaaaProg
import Derived.Lib.SlKeysI
import Derived.KernelRfl
import Derived.WalkSpells
import Derived.BigQuiet
import Derived.Deep.LoopGhost
import Derived.Deep.CutBlock
import Derived.Deep.RegionHeld3
import Derived.Deep.AppendLies
namespace Go.Proofs.Ytcmiboipgngjaaa
set_option linter.unusedVariables false
set_option linter.unusedSimpArgs false
open Go.RowKit Go.Maps

/-- one arrangement of parts for another: `by simpa using permB [[a], X, ..] [0, 1, ..] [1, 0, ..] (by decide)` -/
theorem permB {α : Type} (L : List (List α)) (i j : List Nat) (h : i.Perm j) : (i.flatMap (fun k => L.getD k [])).Perm (j.flatMap (fun k => L.getD k [])) := h.flatMap_right _
theorem OwnV.keys {kt : TypeId} {w : World} {b s : Nat} {f : Int → Option Value} (h : OwnV Try.prog kt w b f s) (hk : Try.prog.underlying kt = some (.int .i64)) :
    ∃ D : DataW Value, w.ownsMap Try.prog kt heldR b s D ∧ Maps.size D = s ∧ (intKeys D).Nodup ∧ (intKeys D).length = s ∧ (∀ x, x ∈ intKeys D ↔ (f x).isSome = true) ∧ ∀ x ∈ intKeys D, (Lit.int .i64 x).wf = true := by
  obtain ⟨D, h1, h2, h3, h4⟩ := h
  have hwf := intKeys_wf h1 hk
  obtain ⟨es, hD, hpw, _⟩ := h1.entries (int_keyed hk)
  obtain ⟨es', hD', hko⟩ := h1.keysOf
  obtain rfl : es = es' := by rw [hD] at hD'; simpa using hD'
  subst hD
  have hk' : ∀ p ∈ es, ∃ x, p.1 = .int .i64 x := fun p hp => by obtain ⟨v, hv⟩ := hko p hp; obtain ⟨x, _, hx, _⟩ := Maps.keyOf_i64 hk hv; exact ⟨x, hx⟩
  have hnd : (es.map fun p => Go.intOf p.1).Nodup := by
    refine List.pairwise_map.2 (hpw.imp_of_mem fun {p q} hp' hq' hne e => hne ?_)
    obtain ⟨a, ha⟩ := hk' p hp'
    obtain ⟨c, hc⟩ := hk' q hq'
    rw [ha, hc] at e ⊢
    exact congrArg _ e
  refine ⟨.map es, h1, h3, hnd, ?_, fun x => ?_, hwf⟩
  · show (es.map fun p => Go.intOf p.1).length = s
    rw [List.length_map]; exact h3
  · rw [← (h4 x).1, has_eq, List.any_eq_true]
    show x ∈ es.map (fun p => Go.intOf p.1) ↔ _
    rw [List.mem_map]
    constructor
    · rintro ⟨p, hp', rfl⟩
      obtain ⟨a, ha⟩ := hk' p hp'
      exact ⟨p, hp', by rw [ha]; simp [Lit.sameKey, Go.intOf]⟩
    · rintro ⟨p, hp', hs⟩
      obtain ⟨a, ha⟩ := hk' p hp'
      rw [ha] at hs
      exact ⟨p, hp', by rw [ha]; simpa [Lit.sameKey, Go.intOf] using hs⟩
theorem nodup_le {l m : List Int} (h : l.Nodup) (hs : ∀ x ∈ l, x ∈ m) : l.length ≤ m.length := by
  induction l generalizing m with
  | nil => simp
  | cons a l ih =>
    obtain ⟨h1, h2⟩ := List.nodup_cons.1 h
    have ha : a ∈ m := hs a List.mem_cons_self
    have := ih (m := m.erase a) h2 (fun x hx => (List.mem_erase_of_ne (fun e : x = a => h1 (e ▸ hx))).2 (hs x (List.mem_cons_of_mem _ hx)))
    rw [List.length_erase_of_mem ha] at this
    have := List.length_pos_of_mem ha
    simp only [List.length_cons]; omega
theorem OwnV.size_le {w : World} {b s : Nat} {f : Int → Option Value} (h : OwnV Try.prog 3 w b f s) (m : List Int) (hm : ∀ x, (f x).isSome = true → x ∈ m) : s ≤ m.length := by
  obtain ⟨D, _, _, h1, h2, h3, _⟩ := h.keys Try.underlying3
  rw [← h2]
  exact nodup_le h1 (fun x hx => hm x ((h3 x).1 hx))
theorem OwnV.empty_iff {w : World} {b s : Nat} {f : Int → Option Value} (h : OwnV Try.prog 3 w b f s) : s = 0 ↔ ∀ x, f x = none := by
  obtain ⟨D, _, _, h1, h2, h3, _⟩ := h.keys Try.underlying3
  constructor
  · intro e x
    rw [e, List.length_eq_zero_iff] at h2
    have := h3 x
    rw [h2] at this
    cases hq : f x with
    | none => rfl
    | some _ => rw [hq] at this; exact absurd (this.2 rfl) (by simp)
  · intro e
    rw [← h2, List.length_eq_zero_iff]
    refine List.eq_nil_iff_forall_not_mem.2 fun x hx => ?_
    have := (h3 x).1 hx
    rw [e x] at this; cases this
end Go.Proofs.Ytcmiboipgngjaaa
