/-
  A graph and its copy, over the rows. No condition but that the rows are few.
-/
import Derived.Test.YtlpdhmkcbdhelaaPy
import Derived.Test.YtlpdhmkcbdhelaaCw
namespace Go.Proofs.Ytlpdhmkcbdhelaa
set_option linter.unusedVariables false
set_option linter.unusedSimpArgs false
open Go.RowKit Go.Maps

/-- one own graph, whatever else there is -/
def OneP (n : Nat) (w : World) (g : Nat) (r : List Rc) (X : List Atom) (W : World) : Prop := ∃ pg, Gr g r pg ∧ Own n w W (pg ++ X)
section
variable {n g b : Nat} {w W : World} {F X ps : List Atom} {r : List Rc}
theorem gcopy_c (hg : Gr g r ps) (ho : Own n w W (ps ++ F)) : Calls Try.prog 29 #[.pointer (some ⟨g, 0, none⟩)] W fun e W' => ∃ c ps', e = .returned (.pointer (some ⟨c, 0, none⟩)) ∧ Gr c r ps' ∧ Own n w W' (ps' ++ (ps ++ F)) := by
  refine (copy_c hg.is hg.fit ho).mono ?_
  rintro e W' ⟨c, ps', he, hg', ho'⟩
  exact ⟨c, ps', he, ⟨hg', hg.wf, hg.buf, hg.len, hg.tot⟩, ho'⟩
theorem OneP.below (h : OneP n w g r X W) : Below n w W := by obtain ⟨pg, hg, ho⟩ := h; exact ho.below
theorem OneP.drew (h : OneP n w g r X W) : OneP n w g r X W.drew := by obtain ⟨pg, hg, ho⟩ := h; exact ⟨pg, hg, ho.drew⟩
theorem OneP.left (h : OneP n w g r X W) : Calls Try.prog 18 #[.pointer (some ⟨g, 0, none⟩)] W fun e W' => e = .returned (.int .i64 (leftR r : Int)) ∧ W = W' := by
  obtain ⟨pg, hg, ho⟩ := h
  exact gleft_c hg ho
theorem OneP.add (h : OneP n w g r X W) (buf : Int) (hb : I64 buf) (A : Option Addr) (c : Nat) (on : List Int) (hl : r.length + 1 < 274877906944) (ht : tot r + on.length < 274877906944) (hr : Reads n w X A on) :
    Calls Try.prog 11 #[.pointer (some ⟨g, 0, none⟩), .int .i64 buf, .slice A on.length c] W fun e W' => e = .returned (.tuple #[.int .i64 (addV r on).1, .int .i64 (addV r on).2]) ∧ OneP n w g (addR r buf on) X W' := by
  obtain ⟨pg, hg, ho⟩ := h
  unfold addR addV
  by_cases hon : ∀ x ∈ on, 0 ≤ x ∧ x < (r.length : Int)
  · rw [if_pos hon, if_pos hon]
    refine (gadd_c hg ho buf hb A c on hl ht hr hon).mono ?_
    rintro e W' ⟨ps', he, hg', ho'⟩
    exact ⟨he, ps', hg', ho'⟩
  · rw [if_neg hon, if_neg hon]
    refine (gadd_no hg ho buf A c on (by omega) hr hon).mono ?_
    rintro e W' ⟨he, rfl⟩
    exact ⟨he, pg, hg, ho⟩
theorem OneP.wr (h : OneP n w g r X W) (buf : Int) (hb : I64 buf) :
    Calls Try.prog 12 #[.pointer (some ⟨g, 0, none⟩), .int .i64 buf] W fun e W' => ∃ A c, e = .returned (.slice A (nextR r buf).length c) ∧ OneP n w g (writtenR r buf) X W' := by
  obtain ⟨pg, hg, ho⟩ := h
  refine (gwritten_c hg buf hb ho).mono ?_
  rintro e W' ⟨v, ps', rfl, hg', ho'⟩
  obtain ⟨A, c, rfl⟩ := own_slice ho'.row
  exact ⟨A, c, rfl, ps', hg', ho'.tail⟩
/-- what a row of calls makes of some rows -/
def runR (r : List Rc) (l : List Ac) : List Rc := l.foldl stepR r
theorem runR_snoc {r : List Rc} {l : List Ac} {k : Nat} (h : k < l.length) : runR r (l.take (k + 1)) = stepR (runR r (l.take k)) l[k] := by
  unfold runR
  rw [List.take_succ_eq_append_getElem h, List.foldl_append]; rfl
theorem runR_le (r : List Rc) (l : List Ac) : ∀ k, k ≤ l.length → (runR r (l.take k)).length ≤ r.length + k ∧ tot (runR r (l.take k)) ≤ tot r + onsum (l.take k) := by
  intro k
  induction k with
  | zero => intro _; exact ⟨Nat.le_refl _, Nat.le_add_right _ _⟩
  | succ k ih =>
    intro hk
    obtain ⟨h1, h2⟩ := ih (by omega)
    rw [runR_snoc (by omega), onsum_snoc (by omega)]
    unfold stepR
    split
    · split
      · rw [List.length_append, List.length_singleton, tot_snoc]
        dsimp only
        omega
      · omega
    · unfold writtenR
      rw [setD_len, tot_setD]; omega
/-- both graphs and a copy of the own one -/
theorem BP.copy (h : BP n w g b r F W) : Calls Try.prog 29 #[.pointer (some ⟨g, 0, none⟩)] W fun e W' => ∃ c pr pc, e = .returned (.pointer (some ⟨c, 0, none⟩)) ∧ IsR b r pr ∧ Gr c r pc ∧ OneP n w g r (pr ++ (pc ++ F)) W' := by
  obtain ⟨pg, pr, hg, hr, ho⟩ := h
  refine (gcopy_c hg ho).mono ?_
  rintro e W' ⟨c, pc, he, hg', ho'⟩
  refine ⟨c, pr, pc, he, hr, hg', pg, hg, ho'.perm ?_⟩
  refine List.Perm.trans (List.perm_append_comm_assoc pc pg (pr ++ F)) (List.Perm.append_left pg ?_)
  exact List.perm_append_comm_assoc pc pr F
theorem OneP.toBP {c : Nat} {pr pc : List Atom} {r' : List Rc} (hr : IsR b r pr) (hc : Gr c r pc) (h : OneP n w g r' (pr ++ (pc ++ [])) W) : ∃ pg, Gr g r' pg ∧ BP n w c b r pg W := by
  obtain ⟨pg, hg, ho⟩ := h
  refine ⟨pg, hg, pc, pr, hc, hr, ho.perm ?_⟩
  rw [List.append_nil]
  refine List.Perm.trans List.perm_append_comm ?_
  rw [List.append_assoc]
  exact List.perm_append_comm_assoc pr pc pg
theorem Own.leftOf {A B pg : List Atom} {r' : List Rc} (hg : Gr g r' pg) (ho : Own n w W (A ++ (B ++ pg))) : Calls Try.prog 18 #[.pointer (some ⟨g, 0, none⟩)] W fun e W' => e = .returned (.int .i64 (leftR r' : Int)) ∧ W = W' := by
  refine gleft_c (F := A ++ B) hg (ho.perm ?_)
  rw [← List.append_assoc]
  exact List.perm_append_comm
theorem HP.gaddNil {c : Nat} {rc : List Rc} (h : HP n w c b rc r F W) (buf : Int) (hb : I64 buf) (hl : rc.length + 1 < 274877906944) (ht : tot rc < 274877906944) :
    Calls Try.prog 11 #[.pointer (some ⟨c, 0, none⟩), .int .i64 buf, .slice none 0 0] W fun e W' => ∃ x y, e = .returned (.tuple #[.int .i64 x, .int .i64 y]) ∧ HP n w c b (rc ++ [⟨buf, [], false⟩]) r F W' := by
  obtain ⟨pg, pr, hg, hr, ho⟩ := h
  refine (gadd_c hg ho buf hb none 0 [] hl (by simpa using ht) (fun V hV hne => absurd rfl hne) (fun x hx => by cases hx)).mono ?_
  rintro e W' ⟨ps', he, hg', ho'⟩
  exact ⟨_, _, he, ps', pr, hg', hr, ho'⟩
theorem HP.below {c : Nat} {rc : List Rc} (h : HP n w c b rc r F W) : Below n w W := by obtain ⟨pg, pr, hg, hr, ho⟩ := h; exact ho.below
theorem HP.leftOf {c : Nat} {rc r' : List Rc} {pg : List Atom} (hg : Gr g r' pg) (h : HP n w c b rc r pg W) : Calls Try.prog 18 #[.pointer (some ⟨g, 0, none⟩)] W fun e W' => e = .returned (.int .i64 (leftR r' : Int)) ∧ W = W' := by
  obtain ⟨pc, pr, hc, hr, ho⟩ := h
  exact Own.leftOf hg ho
end
end Go.Proofs.Ytlpdhmkcbdhelaa
