/-
  What Release grants, in plain words; a slice cut from its front. Conditions: lengths.
-/
import Derived.Test.YtcmiboipgngjaaaF
import Derived.Test.YtcmiboipgngjaaaM
namespace Go.Proofs.Ytcmiboipgngjaaa
set_option linter.unusedVariables false
set_option linter.unusedSimpArgs false
open Go.RowKit Go.Maps

/-- who is granted out of a row, beside those that hold; who is left -/
def grantL : List Lk → List Lk → List Lk × List Lk
  | _, [] => ([], [])
  | h, x :: w => if besideL h x then (x :: (grantL (h ++ [x]) w).1, (grantL (h ++ [x]) w).2) else ([], x :: w)
theorem grant_yes {h w : List Lk} {x : Lk} (hb : besideL h x = true) : grantL h (x :: w) = (x :: (grantL (h ++ [x]) w).1, (grantL (h ++ [x]) w).2) := by rw [grantL, if_pos hb]
theorem grant_no {h w : List Lk} {x : Lk} (hb : besideL h x = false) : grantL h (x :: w) = ([], x :: w) := by rw [grantL, if_neg (by simp [hb])]
theorem grant_split (h w : List Lk) : (grantL h w).1 ++ (grantL h w).2 = w := by
  induction w generalizing h with
  | nil => rfl
  | cons x w ih =>
    cases hb : besideL h x with
    | true => rw [grant_yes hb]; simp [ih]
    | false => rw [grant_no hb]; rfl
def delF (f : Int → Option Lk) (os : List Lk) : Int → Option Lk := fun y => if os.any (fun x => x.th == y) then none else f y
theorem delF_snoc (f : Int → Option Lk) (os : List Lk) (x : Lk) : waitF (delF f (os ++ [x])) = fun y => if y = x.th then none else waitF (delF f os) y := by
  funext y
  unfold waitF delF
  rw [List.any_append]
  by_cases e : y = x.th
  · subst e; simp
  · have : ¬ x.th = y := fun h => e h.symm
    simp [e, this]
theorem slice38 (g off m c : Nat) (V : World) (e : ¬ c = 1) : (Instr.slice 38 (.slice (some ⟨g, off, none⟩) (m + 1) c) (some (.int .i64 1)) none none).run Try.prog V = .ok (.slice (some ⟨g, off + 3, none⟩) m (c - 1)) V := by
  have hs : (sizeOf 27).run Try.prog V = .ok 3 V := by kernel_rfl
  have h0 : (0 : Int) ≤ 1 := by omega
  have h1 : (1 : Int) ≤ ((m + 1 : Nat) : Int) := by omega
  rw [run_slice_l (P := Try.prog) (w := V) 38 (some ⟨g, off, none⟩) (m + 1) c Try.underlying38 .i64 1 h0 h1]
  rw [show (sizeOf (Try.prog.elem 38)).run Try.prog V = .ok 3 V from by kernel_rfl]
  show Result.ok (sliced (some ⟨g, off, none⟩) 1 (m + 1) c 3) V = _
  unfold sliced
  rw [if_neg e]
  rfl
section
variable {n : Nat} {w W : World} {F : List Atom} {g bt bw : Nat} {l l1 l2 : List Tm} {f : Int → Option Lk} {M : (Int → Option Value) → Atom}
theorem cut38 (g off m c : Nat) (hm : m + 1 ≤ c) :
    ∃ A' c', (∀ V, (Instr.slice 38 (.slice (some ⟨g, off, none⟩) (m + 1) c) (some (.int .i64 1)) none none).run Try.prog V = .ok (.slice A' m c') V) ∧ (∀ V xs, offRow V 3 (.slice (some ⟨g, off, none⟩) (m + 1) c) (m + 1) xs → offRow V 3 (.slice A' m c') m (xs.drop 3)) ∧ (Value.slice A' m c').ownBlock = (Value.slice (some ⟨g, off, none⟩) (m + 1) c).ownBlock := by
  by_cases e : c = 1
  · subst e
    obtain rfl : m = 0 := by omega
    refine ⟨some ⟨g, off, none⟩, 0, fun V => by kernel_rfl, fun V xs h => ?_, rfl⟩
    rcases h.2 with ⟨h2, _⟩ | ⟨g', off', cap, h2, hlt, h3, h4, h5, h6⟩
    · cases h2
    · cases h2
      have h1 := h.1
      refine ⟨by rw [List.length_drop, h1], .inr ⟨g, off, 0, rfl, hlt, Nat.le_refl _, Nat.zero_le _, fun j u hu => ?_, fun j hj => by omega⟩⟩
      rw [List.drop_of_length_le (by omega)] at hu; cases hu
  · exact ⟨some ⟨g, off + 3, none⟩, c - 1, fun V => slice38 g off m c V e, fun V xs h => h.cut, rfl⟩
theorem off_le {W : World} {A : Option Addr} {m c : Nat} {xs : List Value} (h : offRow W 3 (.slice A m c) m xs) : m ≤ c := by
  rcases h.2 with ⟨h2, h3⟩ | ⟨g', off', cap, h2, hlt, h3, h4, h5, h6⟩
  · omega
  · cases h2; exact h3
theorem del_waits {os : List Lk} (h : Own n w W (tPartsM M g bt bw l (delF f os) ++ F)) (x : Lk) (hw : (Lit.int .i64 x.th).wf = true) (ty : TypeId) :
    ∃ W4, (Builtin.delete_ #[51, 3] ty #[.map (some bw), .int .i64 x.th]).run Try.prog W = .ok (.tuple #[]) W4 ∧ Own n w W4 (tPartsM M g bt bw l (delF f (os ++ [x])) ++ F) := by
  have h2 : Own n w W (mpA bw (waitF (delF f os)) :: blkA g #[.map (some bt), .map (some bw)] 53 :: M (locT l) :: (l.flatMap Tm.parts ++ F)) := h.f2
  obtain ⟨W4, hrun, h4, -⟩ := del_mp h2 51 27 Try.underlying51 x.th hw ty
  refine ⟨W4, hrun, ?_⟩
  rw [← delF_snoc] at h4
  exact h4.f1.f2.f1
end
end Go.Proofs.Ytcmiboipgngjaaa
