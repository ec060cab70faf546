/-
  Big: are calls too many? No condition.
-/
import Derived.Test.YtlpdhmkcbdhelaaOp
namespace Go.Proofs.Ytlpdhmkcbdhelaa
set_option linter.unusedVariables false
set_option linter.unusedSimpArgs false
open Go.RowKit Go.Maps

def onsum (l : List Ac) : Nat := (l.map (fun a => a.on.length)).sum
def Few (l : List Ac) : Prop := l.length ≤ 150 ∧ onsum l ≤ 3000
theorem onsum_snoc {l : List Ac} {k : Nat} (h : k < l.length) : onsum (l.take (k + 1)) = onsum (l.take k) + l[k].on.length := by
  unfold onsum
  rw [List.take_succ_eq_append_getElem h, List.map_append, List.sum_append]; simp
def BigE (l : List Ac) (e : Ending) : Prop := ∃ bb : Bool, e = .returned (.bool bb) ∧ (bb = false → Few l)
theorem big_c {w : World} (W : World) (A : Option Addr) (c : Nat) (l : List Ac) (hC : kAc.C w A l) (hb : Below w.heap.size w W) :
    Calls Try.prog 19 #[.slice A l.length c] W fun e W' => BigE l e ∧ W = W' := by
  have HC := hide (fun k (hk : k < l.length) => acs_at hC hk)
  have HB := hide hb
  clear hC hb
  go_enter Try.func19, Try.ntmps19
  go_wp2
  go_loop [4, 3] (fun i v => ∃ k m : Nat, k ≤ l.length ∧ k ≤ 151 ∧ m ≤ k * 1000 ∧ i = .int .i64 k ∧ v = .int .i64 m ∧ Hid (m = onsum (l.take k))) (fun i _ => l.length - (intOf i).toNat)
  case atStart => exact ⟨0, 0, by omega, by omega, by omega, rfl, rfl, hide rfl⟩
  case round =>
    obtain ⟨k, m, hk, hk1, hm, rfl, rfl, HM⟩ := hrel
    by_cases hlt : k < l.length
    · have o1 : (k : Int) < (l.length : Int) := by omega
      by_cases hk2 : k ≤ 150
      · have o2 : (k : Int) ≤ 150 := by omega
        have o0 : (0 : Int) ≤ (k : Int) := by omega
        obtain ⟨ba, off, Ao, co, rfl, hba, _, _, y2, _⟩ := HC.out k hlt
        replace y2 := (HB.out.cell (p := ⟨ba, off + k * 3 + 2, none⟩) hba).trans y2
        have HS := hide (onsum_snoc hlt)
        generalize l[k].on.length = t at y2 HS
        by_cases ht : t ≤ 1000
        · have o3 : ¬ (1000 : Int) < (t : Int) := by omega
          go_wp2
          go_round
          case rel => exact ⟨k + 1, m + t, by omega, by omega, by omega, by go_num, by go_num, hide (by rw [HS.out, HM.out])⟩
          case measure => simp [intOf]; omega
        · have o3 : (1000 : Int) < (t : Int) := by omega
          go_wp2
          go_ret
          exact ⟨⟨true, rfl, fun h => by cases h⟩, rfl⟩
      · have o2 : ¬ (k : Int) ≤ 150 := by omega
        have o3 : (150 : Int) < (l.length : Int) := by omega
        go_wp2
        go_ret
        exact ⟨⟨true, rfl, fun h => by cases h⟩, rfl⟩
    · obtain rfl : k = l.length := by omega
      have o1 : ¬ (l.length : Int) < (l.length : Int) := by omega
      have HF := hide (HM.out.trans (by rw [List.take_length]))
      by_cases h1 : l.length ≤ 150
      · have o2 : ¬ (150 : Int) < (l.length : Int) := by omega
        by_cases h2 : m ≤ 3000
        · have o3 : ¬ (3000 : Int) < (m : Int) := by omega
          go_wp2
          go_ret
          exact ⟨⟨false, rfl, fun _ => ⟨h1, by rw [← HF.out]; exact h2⟩⟩, rfl⟩
        · have o3 : (3000 : Int) < (m : Int) := by omega
          go_wp2
          go_ret
          exact ⟨⟨true, rfl, fun h => by cases h⟩, rfl⟩
      · have o2 : (150 : Int) < (l.length : Int) := by omega
        go_wp2
        go_ret
        exact ⟨⟨true, rfl, fun h => by cases h⟩, rfl⟩
/-- what a row of calls makes of rows -/
def stepR (r : List Rc) (a : Ac) : List Rc :=
  if a.way = 0 then (if ∀ x ∈ a.on, 0 ≤ x ∧ x < (r.length : Int) then r ++ [⟨a.buf, a.on, false⟩] else r) else writtenR r a.buf
def rowsOf (l : List Ac) : List Rc := l.foldl stepR []
theorem rowsOf_snoc {l : List Ac} {k : Nat} (h : k < l.length) : rowsOf (l.take (k + 1)) = stepR (rowsOf (l.take k)) l[k] := by
  unfold rowsOf
  rw [List.take_succ_eq_append_getElem h, List.foldl_append]; rfl
theorem stepR_len (r : List Rc) (a : Ac) : (stepR r a).length ≤ r.length + 1 := by
  unfold stepR
  split
  · split <;> simp
  · rw [writtenR, setD_len]; omega
theorem stepR_tot (r : List Rc) (a : Ac) : tot (stepR r a) ≤ tot r + a.on.length := by
  unfold stepR
  split
  · split
    · rw [tot_snoc]; exact Nat.le_refl _
    · omega
  · rw [writtenR, tot_setD]; omega
theorem rowsOf_le (l : List Ac) (k : Nat) (hk : k ≤ l.length) : (rowsOf (l.take k)).length ≤ k ∧ tot (rowsOf (l.take k)) ≤ onsum (l.take k) := by
  induction k with
  | zero => simp [rowsOf, tot]
  | succ k ih =>
    have h1 := ih (by omega)
    rw [rowsOf_snoc (by omega), onsum_snoc (by omega)]
    have h2 := stepR_len (rowsOf (l.take k)) (l[k]'(by omega))
    have h3 := stepR_tot (rowsOf (l.take k)) (l[k]'(by omega))
    omega
theorem onsum_take (l : List Ac) (k : Nat) : onsum (l.take k) ≤ onsum l := by
  have h : onsum (l.take k ++ l.drop k) = onsum (l.take k) + onsum (l.drop k) := by unfold onsum; rw [List.map_append, List.sum_append]
  rw [List.take_append_drop] at h
  omega
end Go.Proofs.Ytlpdhmkcbdhelaa
