/-
  SameInts, num, and the contracts of a graph by its rows. Conditions: the rows are few.
-/
import Derived.Test.YtlpdhmkcbdhelaaQ5
import Derived.Test.YtlpdhmkcbdhelaaWr
import Derived.Test.YtlpdhmkcbdhelaaAd
namespace Go.Proofs.Ytlpdhmkcbdhelaa
set_option linter.unusedVariables false
set_option linter.unusedSimpArgs false
open Go.RowKit Go.Maps

def sameI (a b : List Int) : Bool := decide (a = b)
theorem sameI_good {a b : List Int} (h : a.length = b.length) (he : ∀ j, j < a.length → a.getD j 0 = b.getD j 0) : sameI a b = true := by
  unfold sameI
  refine decide_eq_true (List.ext_getElem h fun i h1 h2 => ?_)
  have := he i h1
  simpa [h1, h2] using this
theorem sameI_bad {a b : List Int} (j : Nat) (he : a.getD j 0 ≠ b.getD j 0) : sameI a b = false := by
  unfold sameI
  exact decide_eq_false fun e => he (by rw [e])
theorem sameI_len {a b : List Int} (h : a.length ≠ b.length) : sameI a b = false := by
  unfold sameI
  exact decide_eq_false fun e => h (by rw [e])
theorem int_eqb {a b : Int} (h : a = b) : (a == b) = true ∧ (a != b) = false := by subst h; simp
theorem int_neb {a b : Int} (h : a ≠ b) : (a == b) = false ∧ (a != b) = true := by simp [h]
section
variable {n g : Nat} {w W : World} {F ps : List Atom} {r : List Rc}
theorem same_w (W : World) (A : Option Addr) (c : Nat) (l1 : List Int) (B : Option Addr) (d : Nat) (l2 : List Int) (hl1 : l1.length < 1099511627776) (hl2 : l2.length < 1099511627776) (B1 B2 : Nat) (h1 : Ints B1 W A l1) (h2 : Ints B2 W B l2) :
    Calls Try.prog 15 #[.slice A l1.length c, .slice B l2.length d] W fun e W' => e = .returned (.bool (sameI l1 l2)) ∧ ∃ q, W' = W.drewN q := by
  have H1 := hide h1
  have H2 := hide h2
  clear h1 h2
  go_enter Try.func15, Try.ntmps15
  by_cases hn : (l1.length : Int) = (l2.length : Int)
  · obtain ⟨k0, k1⟩ := int_eqb hn
    have HN := hide hn
    clear hn
    go_wp2
    go_loopw [5] (fun i wr => ∃ k : Nat, k ≤ l1.length ∧ i = .int .i64 k ∧ (∃ q, wr = W.drewN q) ∧ Hid (∀ j, j < k → l1.getD j 0 = l2.getD j 0)) (fun i _ => l1.length - (intOf i).toNat)
    case atStart => exact ⟨0, by omega, rfl, ⟨0, rfl⟩, hide (by intro j hj; omega)⟩
    case round =>
      obtain ⟨k, hk, rfl, ⟨q, rfl⟩, HK⟩ := hrel
      by_cases hlt : k < l1.length
      · have hlt2 : k < l2.length := by have := HN.out; omega
        obtain ⟨a, oa, rfl, _, hc1⟩ := H1.out (by intro e; rw [e] at hlt; simp at hlt)
        obtain ⟨b, ob, rfl, _, hc2⟩ := H2.out (by intro e; rw [e] at hlt2; simp at hlt2)
        have y1 := hc1 k hlt
        have y2 := hc2 k hlt2
        clear hc1 hc2
        have HS := hide (fun h : l1.getD k 0 = l2.getD k 0 => show ∀ j, j < k + 1 → l1.getD j 0 = l2.getD j 0 from fun j hj => by
          by_cases e : j = k
          · subst e; exact h
          · exact HK.out j (by omega))
        have HB := hide (fun h : l1.getD k 0 ≠ l2.getD k 0 => sameI_bad k h)
        generalize l1.getD k 0 = u at y1 HS HB
        generalize l2.getD k 0 = v at y2 HS HB
        have o1 : (0 : Int) ≤ (k : Int) := by omega
        have o2 : (k : Int) < (l1.length : Int) := by omega
        have o3 : (k : Int) < (l2.length : Int) := by omega
        clear hlt2
        by_cases he : u = v
        · obtain ⟨m0, m1⟩ := int_eqb he
          have HT := hide (HS.out he)
          clear he
          go_wp2
          go_quiet (fail)
          go_wp2
          go_roundw
          case rel => exact ⟨k + 1, by omega, by go_num, ⟨_, by first | rfl | (rw [World.drewN_drewN]; done)⟩, HT⟩
          case measure => simp [intOf]; omega
        · obtain ⟨m0, m1⟩ := int_neb he
          have HT := hide (HB.out he)
          clear he
          go_wp2
          go_quiet (fail)
          go_wp2
          go_ret
          exact ⟨by rw [HT.out]; rfl, ⟨_, by first | rfl | (rw [World.drewN_drewN]; done)⟩⟩
      · have HT := hide (sameI_good (a := l1) (b := l2) (by have := HN.out; omega) (fun j hj => HK.out j (by omega)))
        have o3 : ¬ (k : Int) < (l1.length : Int) := by omega
        go_wp2
        go_ret
        exact ⟨by rw [HT.out]; rfl, ⟨q, rfl⟩⟩
  · obtain ⟨k0, k1⟩ := int_neb hn
    have HN := hide (sameI_len (a := l1) (b := l2) (by omega))
    clear hn
    go_wp2
    go_ret
    exact ⟨by rw [HN.out]; rfl, ⟨0, rfl⟩⟩
theorem num_c (W : World) (z : Int) : Calls Try.prog 14 #[.int .i64 z] W fun e W' => e = .returned (.int .i64 z) ∧ W = W' := by
  go_enter Try.func14, Try.ntmps14
  go_wp2
  go_ret
  exact ⟨rfl, rfl⟩
end
end Go.Proofs.Ytlpdhmkcbdhelaa
