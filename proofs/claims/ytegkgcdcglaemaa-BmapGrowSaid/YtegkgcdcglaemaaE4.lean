/-
  The walk of the law BmapGrow: it answers true at every input.
-/
import Derived.Test.YtegkgcdcglaemaaD

import Derived.Deep.RegionWith
namespace Go.Proofs.Ytegkgcdcglaemaa
set_option linter.unusedSimpArgs false
set_option linter.unusedVariables false
open Go.RowKit Go.Maps

def upto (k : Nat) : List Int := (List.range k).map (fun (j : Nat) => (j : Int))
theorem upto_len (k : Nat) : (upto k).length = k := by simp [upto]
theorem upto_succ (k : Nat) : upto (k + 1) = upto k ++ [(k : Int)] := by simp [upto, List.range_succ]
theorem upto_i64 (k : Nat) (hk : k ≤ 3000) : ∀ n ∈ upto k, I64 n := by
  intro n hn
  simp only [upto, List.mem_map, List.mem_range] at hn
  obtain ⟨j, hj, rfl⟩ := hn
  constructor <;> omega
def want (k : Int) : Int := if k > 264 then 2 + (k - 264 + 255) / 256 else if k > 8 then 1 else 0
theorem ins_len (p : Int × Int) (S : List (Int × Int)) : ((ins p S).length : Int) = S.length + (if p ∈ S then 0 else 1) := by unfold ins; split <;> simp
theorem mem_ins (p q : Int × Int) (S : List (Int × Int)) : p ∈ ins q S ↔ p = q ∨ p ∈ S := by
  unfold ins; split
  · constructor
    · exact .inr
    · rintro (rfl | h) <;> assumption
  · simp
theorem meta_upto (k : Nat) (hk : k ≤ 3000) : ((metaS (upto k)).length : Int) = want k ∧
    ∀ a b : Int, ((a, b) ∈ metaS (upto k) ↔ (a = 1 ∧ b = 0 ∧ 8 < (k : Int)) ∨ (a = 2 ∧ b = -1 ∧ 264 < (k : Int)) ∨ (a = 2 ∧ 0 ≤ b ∧ 264 + 256 * b < (k : Int))) := by
  induction k with
  | zero => refine ⟨by simp [upto, metaS, want], fun a b => ?_⟩; simp [upto, metaS]; omega
  | succ k ih =>
    obtain ⟨h1, h2⟩ := ih (by omega)
    rw [upto_succ, metaS_snoc]
    unfold metaStep
    rcases (show (k : Int) < 8 ∨ (8 ≤ (k : Int) ∧ (k : Int) < 264) ∨ 264 ≤ (k : Int) by omega) with h | ⟨h, h'⟩ | h
    · rw [if_pos (by omega)]
      refine ⟨by rw [h1]; unfold want; split <;> split <;> omega, fun a b => ?_⟩
      rw [h2]; omega
    · rw [if_neg (by omega), if_pos h']
      constructor
      · rw [ins_len, h1]
        have := h2 1 0
        by_cases e : 8 < (k : Int)
        · rw [if_pos (this.2 (by omega))]; unfold want; split <;> split <;> omega
        · rw [if_neg (fun x => by have := this.1 x; omega)]; unfold want; split <;> split <;> omega
      · intro a b
        rw [mem_ins, h2, Prod.mk.injEq]; omega
    · rw [if_neg (by omega), if_neg (by omega)]
      have m1 : ((2, -1) : Int × Int) ∈ metaS (upto k) ↔ 264 < (k : Int) := by rw [h2]; omega
      have m2 : ((2, ((k : Int) - 264) / 256) : Int × Int) ∈ ins (2, -1) (metaS (upto k)) ↔ 264 + 256 * (((k : Int) - 264) / 256) < (k : Int) := by
        rw [mem_ins, h2, Prod.mk.injEq]; omega
      constructor
      · rw [ins_len, ins_len, h1]
        by_cases e1 : 264 < (k : Int)
        · rw [if_pos (m1.2 e1)]
          by_cases e2 : 264 + 256 * (((k : Int) - 264) / 256) < (k : Int)
          · rw [if_pos (m2.2 e2)]; unfold want; rw [if_pos (by omega), if_pos (by omega)]; omega
          · rw [if_neg (fun x => e2 (m2.1 x))]; unfold want; rw [if_pos (by omega), if_pos (by omega)]; omega
        · rw [if_neg (fun x => e1 (m1.1 x)), if_neg (fun x => by have := m2.1 x; omega)]; unfold want; rw [if_neg (by omega), if_pos (by omega), if_pos (by omega)]; omega
      · intro a b
        rw [mem_ins, mem_ins, h2, Prod.mk.injEq, Prod.mk.injEq]; omega

theorem co_n (n : Nat) (h : n ≤ 3000) : coN ((n : Int) * 1024) = n := by unfold coN; rw [if_neg (by omega)]; omega
theorem co_n1 (n : Nat) (h : n ≤ 3000) : coN ((n : Int) * 1024 + 1) = n + 1 := by unfold coN; rw [if_neg (by omega)]; omega
theorem info3 : (Try.prog.info? 3).map (fun i => (i.zero, i.size, i.bytes)) = some (some (.int .i64 0), 1, 8) := by kernel_rfl

set_option maxHeartbeats 1000000 in
theorem BmapGrow_walk (w : World) (n : Int) (w0 : (Lit.int .i64 n).wf = true) :
    Calls Try.prog 5 #[.int .i64 n] w fun e w' => e = .returned (.bool true) ∧ Below w.heap.size w w' := by
  clear w0
  by_cases a : n < 0
  · go_enter Try.func5, Try.ntmps5
    go_wp2_with (go_at_call 8; refine (alive_c _).mono ?_; rintro e w1 ⟨rfl, hb⟩)
    go_ret
    exact ⟨rfl, hb⟩
  have a' : 0 ≤ n := by omega
  by_cases b : 3000 < n
  · go_enter Try.func5, Try.ntmps5
    go_wp2_with (go_at_call 8; refine (alive_c _).mono ?_; rintro e w1 ⟨rfl, hb⟩)
    go_ret
    exact ⟨rfl, hb⟩
  obtain ⟨n, rfl⟩ := Int.eq_ofNat_of_zero_le a'
  have hn : (n : Int) ≤ 3000 := by omega
  clear a a' b
  have HM := hide (meta_upto n (by omega)).1
  have HI := hide (upto_i64 n (by omega))
  have HC1 := hide (co_n n (by omega))
  have HC2 := hide (co_n1 n (by omega))
  obtain ⟨i0, hi0, hz0, hz1, hz2⟩ := info_parts info3
  go_enter Try.func5, Try.ntmps5
  go_wp2_with (go_at_call 8; refine (alive_c _).mono ?_; rintro e w1 ⟨rfl, hb⟩)
  have hsz := hb.size
  go_loopw [4, 5] (fun v i wr => ∃ k : Nat, k ≤ n ∧ i = .int .i64 k ∧ wr.ownsRow w.heap.size 3 1 v k ((upto k).map (Value.int .i64)) ∧ Below w.heap.size w wr) (fun _ i _ => n - (intOf i).toNat)
  case atStart => exact ⟨0, by omega, rfl, World.ownsRow_nil _ _ _ _, hb⟩
  case round =>
    obtain ⟨k, hk, rfl, hown, hbr⟩ := hrel
    have hszr := hbr.size
    by_cases hlt : k < n
    · go_wp2_with (at_builtin; refine wpList_append_own_at _ rfl _ _ 22 rfl w.heap.size 3 i0 (.int .i64 0) 1 8 Try.underlying22 hi0 hz0 hz1 hz2 rfl (by decide) _ _ _ rfl (hown.alloc _) ⟨wr.heap.size, 0, none⟩ 1 1 [.int .i64 k] rfl rfl (cell_one_new _ _ _) (ints_oneCell .i64 [(k : Int)]) (by unfold maxLen; omega) (by omega) (by simp; omega) ?_; intro v' w2 hown' hgrow _ _)
      have R1 : w2.ownsRow w.heap.size 3 1 v' (k + 1) ((upto (k + 1)).map (Value.int .i64)) := by rw [upto_succ]; simpa using hown'
      have R2 : Below w.heap.size w w2 := below_append (hbr.alloc hszr _) (hown.alloc _) hgrow (by simp; omega)
      clear hown' hgrow hown
      go_wp2
      go_roundw
      case rel => exact ⟨k + 1, by omega, by go_num, R1, R2⟩
      case measure => simp [intOf]; omega
    · have hkn : k = n := by omega
      subst hkn
      clear hlt
      obtain ⟨A2, c2, rfl⟩ := own_slice hown
      have HO := hide (Ints.of_own hown (Nat.le_refl _))
      clear hown
      rcases (show (k : Int) ≤ 8 ∨ (8 < (k : Int) ∧ (k : Int) ≤ 264) ∨ 264 < (k : Int) by omega) with h | ⟨h, h'⟩ | h
      · have HM2 := hide (show want k = 0 by unfold want; rw [if_neg (by omega), if_neg (by omega)])
        go_wp2_with (first | (go_at_call 9; go_must (refine (meta_n A2 k c2 (upto k) _ (upto_len k) HO.out HI.out (by omega)).mono ?_); rintro e w4 ⟨rfl, hb4⟩; rw [HM.out, HM2.out]) | (go_at_call 12; refine (count_c _ _ (by omega) (by omega)).mono ?_; rintro e w5 ⟨rfl, rfl⟩; first | rw [HC1.out] | rw [HC2.out]))
        go_ret
        exact ⟨by simp, hbr.trans (hb4.mono hszr)⟩

      · have HM2 := hide (show want k = 1 by unfold want; rw [if_neg (by omega), if_pos (by omega)])
        go_wp2_with (first | (go_at_call 9; go_must (refine (meta_n A2 k c2 (upto k) _ (upto_len k) HO.out HI.out (by omega)).mono ?_); rintro e w4 ⟨rfl, hb4⟩; rw [HM.out, HM2.out]) | (go_at_call 12; refine (count_c _ _ (by omega) (by omega)).mono ?_; rintro e w5 ⟨rfl, rfl⟩; first | rw [HC1.out] | rw [HC2.out]))
        go_ret
        exact ⟨by simp, hbr.trans (hb4.mono hszr)⟩

      · have HM2 := hide (show want k = 2 + (k - 264 + 255) / 256 by unfold want; rw [if_pos (by omega)])
        go_wp2_with (first | (go_at_call 9; go_must (refine (meta_n A2 k c2 (upto k) _ (upto_len k) HO.out HI.out (by omega)).mono ?_); rintro e w4 ⟨rfl, hb4⟩; rw [HM.out, HM2.out]) | (go_at_call 12; refine (count_c _ _ (by omega) (by omega)).mono ?_; rintro e w5 ⟨rfl, rfl⟩; first | rw [HC1.out] | rw [HC2.out]))
        go_ret
        exact ⟨by simp, hbr.trans (hb4.mono hszr)⟩

end Go.Proofs.Ytegkgcdcglaemaa
