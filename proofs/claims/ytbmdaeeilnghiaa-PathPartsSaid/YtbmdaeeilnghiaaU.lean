/-
  Plain laws of paths as lists of bytes: the parts between slashes, what is a name, what is a path. No program in sight.
-/
import Derived.Lib.Bytealg
import Derived.Lib.IndexBytes
import Derived.Lib.Strings
import Derived.Lib.Join
namespace Go.Proofs.Ytbmdaeeilnghiaa
set_option linter.unusedVariables false
set_option linter.unusedSimpArgs false

abbrev Bytes8 := List UInt8
def bs (l : Bytes8) : ByteArray := ⟨l.toArray⟩
@[simp] theorem bs_data (l : Bytes8) : (bs l).data.toList = l := rfl
@[simp] theorem bs_of (s : ByteArray) : bs s.data.toList = s := by cases s; rfl
theorem bs_size (l : Bytes8) : (bs l).size = l.length := by simp [bs, ByteArray.size]
theorem size_toList (s : ByteArray) : s.size = s.data.toList.length := by cases s; rfl
theorem bs_inj {a b : Bytes8} (h : bs a = bs b) : a = b := by have := congrArg (fun s => s.data.toList) h; simpa using this
theorem ba_ext {a b : ByteArray} (h : a.data.toList = b.data.toList) : a = b := by rw [← bs_of a, ← bs_of b, h]

/-- the place of a byte, or none -/
theorem idx_cases (l : Bytes8) (c : UInt8) : (Lib.indexByte l c = -1 ∧ c ∉ l) ∨ ∃ a b, l = a ++ c :: b ∧ c ∉ a ∧ Lib.indexByte l c = (a.length : Int) := by
  induction l with
  | nil => exact .inl ⟨rfl, by simp⟩
  | cons x l ih =>
    by_cases e : x = c
    · subst e
      exact .inr ⟨[], l, rfl, by simp, by simp [Lib.indexByte]⟩
    · rcases ih with ⟨h1, h2⟩ | ⟨a, b, rfl, h2, h3⟩
      · exact .inl ⟨by simp [Lib.indexByte, e, h1], by simp [h2, Ne.symm e]⟩
      · refine .inr ⟨x :: a, b, rfl, by simp [h2, Ne.symm e], ?_⟩
        have : ¬ ((a.length : Int) = -1) := by omega
        simp [Lib.indexByte, e, h3, this]
theorem idx_neg (l : Bytes8) (c : UInt8) : decide (Lib.indexByte l c < 0) = !(l.contains c) := by
  rcases idx_cases l c with ⟨h1, h2⟩ | ⟨a, b, rfl, h2, h3⟩
  · rw [h1]; simp [h2]
  · rw [h3]; simp

/-- what stands between the slashes -/
def partsL : Bytes8 → List Bytes8
  | [] => [[]]
  | c :: l => if c = 47 then [] :: partsL l else match partsL l with | [] => [[c]] | p :: ps => (c :: p) :: ps
theorem partsL_ne (l : Bytes8) : partsL l ≠ [] := by
  induction l with
  | nil => simp [partsL]
  | cons c l ih => unfold partsL; split; · simp
                   · split <;> simp
theorem partsL_one {l : Bytes8} (h : (47 : UInt8) ∉ l) : partsL l = [l] := by
  induction l with
  | nil => rfl
  | cons c l ih =>
    have hc : ¬ c = 47 := fun e => h (by simp [e])
    unfold partsL
    rw [if_neg hc, ih (fun e => h (by simp [e]))]
theorem partsL_cut {a b : Bytes8} (h : (47 : UInt8) ∉ a) : partsL (a ++ 47 :: b) = a :: partsL b := by
  induction a with
  | nil => simp [partsL]
  | cons c a ih =>
    have hc : ¬ c = 47 := fun e => h (by simp [e])
    rw [List.cons_append]
    conv => lhs; unfold partsL
    rw [if_neg hc, ih (fun e => h (by simp [e]))]
theorem partsL_noslash (l : Bytes8) : ∀ p ∈ partsL l, (47 : UInt8) ∉ p := by
  induction l with
  | nil => simp [partsL]
  | cons c l ih =>
    unfold partsL
    split
    · intro p hp
      rcases List.mem_cons.1 hp with rfl | hp
      · simp
      · exact ih p hp
    · rename_i hc
      split
      · intro p hp; simp at hp; subst hp; simp [Ne.symm hc]
      · rename_i q qs hq
        intro p hp
        rw [hq] at ih
        rcases List.mem_cons.1 hp with rfl | hp
        · have := ih q (by simp)
          simp [Ne.symm hc, this]
        · exact ih p (by simp [hp])
/-- the slashes put back -/
def joinL : List Bytes8 → Bytes8
  | [] => []
  | [p] => p
  | p :: q :: ps => p ++ 47 :: joinL (q :: ps)
theorem joinL_cons (p : Bytes8) {ps : List Bytes8} (h : ps ≠ []) : joinL (p :: ps) = p ++ 47 :: joinL ps := by
  cases ps with
  | nil => exact absurd rfl h
  | cons q ps => rfl
theorem joinL_partsL (l : Bytes8) : joinL (partsL l) = l := by
  induction l with
  | nil => rfl
  | cons c l ih =>
    unfold partsL
    split
    · rename_i e
      rw [joinL_cons _ (partsL_ne l), ih, e]; rfl
    · split
      · rename_i h; exact absurd h (partsL_ne l)
      · rename_i p ps h
        rw [h] at ih
        cases ps with
        | nil => simp [joinL] at ih ⊢; exact ih
        | cons q ps => simp [joinL] at ih ⊢; exact ih
theorem partsL_joinL : ∀ {ps : List Bytes8}, ps ≠ [] → (∀ p ∈ ps, (47 : UInt8) ∉ p) → partsL (joinL ps) = ps
  | [], h, _ => absurd rfl h
  | [p], _, h => partsL_one (h p (by simp))
  | p :: q :: ps, _, h => by
    show partsL (p ++ 47 :: joinL (q :: ps)) = _
    rw [partsL_cut (h p (by simp)), partsL_joinL (ps := q :: ps) (by simp) (fun x hx => h x (by simp [hx]))]
/-- may an entry have this name? -/
def nameL (l : Bytes8) : Bool := !l.isEmpty && decide (l.length ≤ 27) && !l.contains 0 && !l.contains 47
def okP (l : Bytes8) : Bool := nameL l && !(l == [46]) && !(l == [46, 46])
/-- a path's parts -/
def splitL : Bytes8 → Option (List Bytes8)
  | [] => none
  | c :: t => if c ≠ 47 ∨ 500 < t.length + 1 then none else if t = [] then some [] else if (partsL t).all okP then some (partsL t) else none
theorem splitL_cons (c : UInt8) (t : Bytes8) : splitL (c :: t) = if c ≠ 47 ∨ 500 < t.length + 1 then none else if t = [] then some [] else if (partsL t).all okP then some (partsL t) else none := rfl
theorem okP_noslash {p : Bytes8} (h : okP p = true) : (47 : UInt8) ∉ p := by
  simp [okP, nameL] at h; exact h.1.1.2
theorem okP_ne {p : Bytes8} (h : okP p = true) : p ≠ [] := by
  simp [okP, nameL] at h; exact h.1.1.1.1.1
end Go.Proofs.Ytbmdaeeilnghiaa
