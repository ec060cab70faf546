/-
  Locks in plain words: who holds, who waits; asking, releasing; who is stuck. No program.
-/
import Derived.Test.YtcmiboipgngjaaaN
namespace Go.Proofs.Ytcmiboipgngjaaa
set_option linter.unusedVariables false
set_option linter.unusedSimpArgs false
open Go.RowKit

def fW (R : List Lk) : Int → Option Lk := fun th => R.find? (fun x => x.th == th)
def onT (n : Int) (l : List Lk) : List Lk := l.filter (fun x => x.tg == n)
def waitsP (R : List Lk) (th : Int) : Bool := R.any (fun x => x.th == th)
def holdsP (H : List Lk) (th k : Int) : Bool := H.any (fun x => x.th == th && x.tg == k)
def freeP (H R : List Lk) (x : Lk) : Bool := (onT x.tg R).isEmpty && besideL (onT x.tg H) x
def offT (th k : Int) (H : List Lk) : List Lk := H.filter (fun x => !(x.th == th && x.tg == k))
/-- who is granted when (th, k) is released -/
def gotP (H R : List Lk) (th k : Int) : List Lk := (grantL (onT k (offT th k H)) (onT k R)).1
def relH (H R : List Lk) (th k : Int) : List Lk := offT th k H ++ gotP H R th k
def relR (H R : List Lk) (th k : Int) : List Lk := R.filter (fun x => !(gotP H R th k).any (fun y => y.th == x.th))
structure Ok (H R : List Lk) : Prop where
  wfs : ∀ x, x ∈ H ∨ x ∈ R → (Lit.int .i64 x.th).wf = true ∧ (Lit.int .i64 x.tg).wf = true
  nd : (R.map Lk.th).Nodup
  uniq : H.Pairwise (fun a b => ¬ (a.th = b.th ∧ a.tg = b.tg))
  free : ∀ x ∈ R, ∀ y ∈ H, ¬ (y.th = x.th ∧ y.tg = x.tg)
  blocked : ∀ n x r, onT n R = x :: r → besideL (onT n H) x = false
theorem onT_append (n : Int) (a b : List Lk) : onT n (a ++ b) = onT n a ++ onT n b := List.filter_append _ _
theorem mem_onT {n : Int} {l : List Lk} {x : Lk} : x ∈ onT n l ↔ x ∈ l ∧ x.tg = n := by unfold onT; rw [List.mem_filter]; simp
theorem onT_one_eq (x : Lk) : onT x.tg [x] = [x] := by simp [onT]
theorem onT_one_ne {n : Int} {x : Lk} (h : ¬ x.tg = n) : onT n [x] = [] := by simp [onT, h]
theorem waitsP_mem {R : List Lk} {th : Int} : waitsP R th = true ↔ ∃ x ∈ R, x.th = th := by unfold waitsP; rw [List.any_eq_true]; simp
theorem holdsP_mem {H : List Lk} {th k : Int} : holdsP H th k = true ↔ ∃ x ∈ H, x.th = th ∧ x.tg = k := by unfold holdsP; rw [List.any_eq_true]; simp
theorem beside_false {l : List Lk} {x : Lk} : besideL l x = false ↔ ∃ h ∈ l, h.al = true ∨ x.al = true := by
  unfold besideL
  cases l with
  | nil => simp
  | cons a l =>
    cases hx : x.al with
    | true => simp
    | false => cases ha : a.al <;> simp [ha, List.any_eq_true]
theorem beside_true {l : List Lk} {x : Lk} : besideL l x = true ↔ ∀ h ∈ l, h.al = false ∧ x.al = false := by
  cases h : besideL l x with
  | false =>
    obtain ⟨y, hy, h1⟩ := beside_false.1 h
    constructor
    · intro e; cases e
    · intro e; have := e y hy; rw [this.1, this.2] at h1; simp at h1
  | true =>
    refine ⟨fun _ y hy => ?_, fun _ => rfl⟩
    have : ¬ besideL l x = false := by simp [h]
    rw [beside_false] at this
    cases h1 : y.al with
    | true => exact absurd ⟨y, hy, .inl h1⟩ this
    | false =>
      refine ⟨rfl, ?_⟩
      cases h2 : x.al with
      | true => exact absurd ⟨y, hy, .inr h2⟩ this
      | false => rfl
theorem Ok.nil : Ok [] [] := ⟨by simp, by simp, by simp, by simp, by simp [onT]⟩
theorem fW_none {R : List Lk} {th : Int} (h : waitsP R th = false) : fW R th = none := by
  unfold fW
  refine List.find?_eq_none.2 fun x hx => ?_
  have := List.any_eq_false.1 h x hx
  simpa using this
theorem fW_isSome {R : List Lk} {th : Int} : (fW R th).isSome = waitsP R th := by
  unfold fW waitsP
  rw [Bool.eq_iff_iff, List.find?_isSome, List.any_eq_true]
theorem fW_snoc {R : List Lk} {x : Lk} (h : waitsP R x.th = false) : fW (R ++ [x]) = fun y => if y = x.th then some x else fW R y := by
  funext y
  have h1 := fW_none h
  unfold fW at h1 ⊢
  rw [List.find?_append]
  by_cases e : y = x.th
  · subst e; rw [h1, if_pos rfl]; simp
  · have : ¬ x.th = y := fun q => e q.symm
    rw [if_neg e]; simp [this]
theorem Ok.askYes {H R : List Lk} (h : Ok H R) {x : Lk} (hw : (Lit.int .i64 x.th).wf = true ∧ (Lit.int .i64 x.tg).wf = true) (h1 : waitsP R x.th = false) (h2 : holdsP H x.th x.tg = false) (h3 : freeP H R x = true) : Ok (H ++ [x]) R := by
  unfold freeP at h3
  rw [Bool.and_eq_true, List.isEmpty_iff] at h3
  have hno : ∀ y ∈ H, ¬ (y.th = x.th ∧ y.tg = x.tg) := fun y hy e => by
    have : holdsP H x.th x.tg = true := holdsP_mem.2 ⟨y, hy, e⟩
    rw [h2] at this; cases this
  refine ⟨fun y hy => ?_, h.nd, ?_, fun y hy z hz => ?_, fun n y r hr => ?_⟩
  · rcases hy with hy | hy
    · rcases List.mem_append.1 hy with hy | hy
      · exact h.wfs y (.inl hy)
      · rw [List.mem_singleton.1 hy]; exact hw
    · exact h.wfs y (.inr hy)
  · rw [List.pairwise_append]
    exact ⟨h.uniq, by simp, fun a ha b hb => by rw [List.mem_singleton.1 hb]; exact hno a ha⟩
  · rcases List.mem_append.1 hz with hz | hz
    · exact h.free y hy z hz
    · rw [List.mem_singleton.1 hz]
      rintro ⟨e, -⟩
      have : waitsP R x.th = true := waitsP_mem.2 ⟨y, hy, e.symm⟩
      rw [h1] at this; cases this
  · by_cases e : x.tg = n
    · subst e; rw [h3.1] at hr; cases hr
    · rw [onT_append, onT_one_ne e, List.append_nil]; exact h.blocked n y r hr
theorem Ok.askRow {H R : List Lk} (h : Ok H R) {x : Lk} (hw : (Lit.int .i64 x.th).wf = true ∧ (Lit.int .i64 x.tg).wf = true) (h1 : waitsP R x.th = false) (h2 : holdsP H x.th x.tg = false) (h3 : freeP H R x = false) : Ok H (R ++ [x]) := by
  refine ⟨fun y hy => ?_, ?_, h.uniq, fun y hy z hz => ?_, fun n y r hr => ?_⟩
  · rcases hy with hy | hy
    · exact h.wfs y (.inl hy)
    · rcases List.mem_append.1 hy with hy | hy
      · exact h.wfs y (.inr hy)
      · rw [List.mem_singleton.1 hy]; exact hw
  · rw [List.map_append, List.nodup_append]
    refine ⟨h.nd, by simp, fun a ha b hb e => ?_⟩
    obtain ⟨z, hz, rfl⟩ := List.mem_map.1 ha
    rw [List.map_singleton, List.mem_singleton] at hb
    have : waitsP R x.th = true := waitsP_mem.2 ⟨z, hz, by rw [e, hb]⟩
    rw [h1] at this; cases this
  · rcases List.mem_append.1 hy with hy | hy
    · exact h.free y hy z hz
    · rw [List.mem_singleton.1 hy]
      intro e
      have : holdsP H x.th x.tg = true := holdsP_mem.2 ⟨z, hz, e⟩
      rw [h2] at this; cases this
  · rw [onT_append] at hr
    by_cases e : x.tg = n
    · subst e
      rw [onT_one_eq] at hr
      unfold freeP at h3
      cases hq : onT x.tg R with
      | nil =>
        rw [hq] at hr h3
        rw [List.nil_append] at hr
        cases hr
        simpa using h3
      | cons a b =>
        rw [hq] at hr
        rw [List.cons_append] at hr
        injection hr with e1 _
        subst e1
        exact h.blocked _ _ b hq
    · rw [onT_one_ne e, List.append_nil] at hr
      exact h.blocked n y r hr
end Go.Proofs.Ytcmiboipgngjaaa
