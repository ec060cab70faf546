/-
  The walk of the law PathJoins: it answers true at every input.
-/
import Derived.Test.YtbmdaeeilnghiaaI
namespace Go.Proofs.Ytbmdaeeilnghiaa
set_option linter.unusedVariables false
set_option linter.unusedSimpArgs false
open Go.RowKit Go.Shelf Go.Proofs.YtbmdaeeilnghiaaW.PrintWords Go.Proofs.Ytbmdaeeilnghiaa.PPathJoins

theorem join_len_le (B : Nat) : ∀ ss : List ByteArray, (∀ s ∈ ss, s.size ≤ B) → (slashed ss).length ≤ ss.length * (B + 1)
  | [], _ => by simp [slashed]
  | s :: ss, h => by
    have := join_len_le B ss fun t ht => h t (List.mem_cons_of_mem _ ht)
    have h1 := h s List.mem_cons_self
    show (47 :: s.data.toList ++ slashed ss).length ≤ (ss.length + 1) * (B + 1)
    rw [List.length_append, List.length_cons, ← size_toList, Nat.add_mul]; omega
theorem joinL_slashed (ss : List ByteArray) : (joinL (ss.map (·.data.toList))).length ≤ (slashed ss).length := by
  have h := slashed_joinL ss
  by_cases e : slashed ss = []
  · rw [if_pos e] at h
    have h1 := congrArg List.length (bs_inj h)
    rw [List.length_cons] at h1
    simp only [List.length_cons, List.length_nil] at h1
    omega
  · rw [if_neg e] at h
    have h1 := congrArg List.length (bs_inj h)
    rw [List.length_cons] at h1
    omega
theorem spot_none {w : World} {x : Addr} {v : Value} (h : w.cell? x = some v) : x.spot = none := by
  unfold World.cell? at h
  split at h
  · cases hs : x.spot with
    | none => rfl
    | some s => rw [hs] at h; simp at h
  · cases h
/-- an argument of strings, as the row hands it over -/
theorem strs_arg {w : World} {A : Option Addr} {ss : List ByteArray} (h : ss ≠ [] → ∃ x, A = some x ∧ x.block < w.heap.size ∧ ∀ j, j < ss.length → w.cell? (x.add j) = some (.string (ss.getD j ByteArray.empty))) : Strs w.heap.size w A ss := fun hne => by
  obtain ⟨x, hx, hb, hc⟩ := h hne
  have h0 := spot_none (hc 0 (List.length_pos_iff.2 hne))
  obtain ⟨b, off, p⟩ := x
  have hp : p = none := h0
  subst hp
  refine ⟨b, off, hx, hb, fun i hi => ?_⟩
  rw [← hc i hi]
  unfold Addr.add
  split
  · rename_i e; subst e; rfl
  · rfl
/-- the path of ss -/
def pathOf (ss : List ByteArray) : ByteArray := bs (47 :: joinL (ss.map (·.data.toList)))
theorem pathOf_size (ss : List ByteArray) (n : Nat) (hn : ss.length = n) (h : n ≤ 100) (hs : ∀ j, j < n → (ss.getD j ByteArray.empty).size ≤ 500) : (slashed ss).length ≤ 100000 ∧ (joinL (ss.map (·.data.toList))).length ≤ 100000 ∧ (pathOf ss).size ≤ 100001 := by
  subst hn
  have h1 := join_len_le 500 ss fun s hm => by
    obtain ⟨j, hj, rfl⟩ := List.getElem_of_mem hm
    have := hs j hj
    rw [List.getD_eq_getElem?_getD, List.getElem?_eq_getElem hj] at this
    exact this
  have h2 := joinL_slashed ss
  have h3 : ss.length * 501 ≤ 100 * 501 := Nat.mul_le_mul_right _ h
  refine ⟨by omega, by omega, ?_⟩
  unfold pathOf
  rw [bs_size, List.length_cons]; omega

theorem PathJoins_long (w : World) (A : Option Addr) (n c : Nat) (hn : n ≤ maxLen) (a1 : (100 : Int) < (n : Int)) :
    Calls Try.prog 5 #[.slice A n c] w fun e w' => e = .returned (.bool true) ∧ Below w.heap.size w w' := by
  have hs63 : (n : Int) ≤ 9223372036854775807 := by simp [maxLen] at hn; omega
  clear hn
  go_enter Try.func5, Try.ntmps5
  go_wp2_with (go_at_call 7; refine (alive_c _).mono ?_; rintro e w1 ⟨rfl, hb⟩)
  go_ret
  exact ⟨rfl, hb⟩
set_option maxHeartbeats 1000000 in
set_option maxRecDepth 100000 in
theorem PathJoins_some (w : World) (A : Option Addr) (n c : Nat) (a1 : (n : Int) ≤ 100) (ss : List ByteArray) (hn : ss.length = n) (hnc : n ≤ c) (hS : Strs w.heap.size w A ss) (ps : List Bytes8) (hq : splitL (pathOf ss).data.toList = some ps) :
    Calls Try.prog 5 #[.slice A n c] w fun e w' => e = .returned (.bool true) ∧ Below w.heap.size w w' := by
  have HS := hide hS
  have HN := hide hn
  have HP := hide (fun h hs => pathOf_size ss n hn h hs)
  have HQ := hide hq
  have hps : ps.length ≤ 501 := by
    obtain ⟨h1, h2⟩ := splitL_join hq
    have := joinL_len ps
    rw [← h1] at h2; simp at h2; omega
  clear hS hn hq
  go_enter Try.func5, Try.ntmps5
  go_wp2_with (go_at_call 7; refine (alive_c _).mono ?_; rintro e w1 ⟨rfl, hb⟩)
  have hsz1 := hb.size
  have HS1 := hide (HS.out.below hb (Nat.le_refl _))
  go_loop [4, 5] (fun z i => ∃ k : Nat, k ≤ n ∧ i = .int .i64 k ∧ (∃ m : Nat, z = .int .i64 m ∧ m ≤ k * 500) ∧ ∀ j, j < k → (ss.getD j ByteArray.empty).size ≤ 500) (fun _ i => n - (intOf i).toNat)
  case atStart => exact ⟨0, by omega, rfl, ⟨0, rfl, by omega⟩, fun j hj => absurd hj (by omega)⟩
  case round =>
    obtain ⟨k, hk, rfl, ⟨m, rfl, hm⟩, hall⟩ := hrel
    by_cases hlt : k < n
    · have hne : ss ≠ [] := fun e => by have := HN.out; rw [e] at this; simp at this; omega
      obtain ⟨b, off, rfl, hlt', hcell⟩ := HS1.out hne
      have hc1 := hcell k (by rw [HN.out]; exact hlt)
      generalize hg : ss.getD k ByteArray.empty = t at hc1
      have HG := hide hg
      have HA := hide hall
      clear hcell hg hall
      by_cases hbig : (500 : Int) < (t.size : Int)
      · go_wp2
        go_ret
        exact ⟨by first | rfl | simp, hb⟩
      · have hbig' : (t.size : Int) ≤ 500 := by omega
        clear hbig
        go_wp2
        go_round
        case rel => exact ⟨k + 1, by omega, by go_num, ⟨m + t.size, by go_num, by omega⟩, fun j hj => by
          by_cases e : j = k
          · subst e; rw [HG.out]; omega
          · exact HA.out j (by omega)⟩
        case measure => simp [intOf]; omega
    · have hkn : k = n := by omega
      subst hkn
      clear hlt hk
      have HZ := hide (HP.out (by omega) hall)
      clear hall
      have hz1 : ((pathOf ss).size : Int) ≤ 100001 := by have := HZ.out.2.2; omega
      have HJ := hide (fun (W : World) (hs : Strs W.heap.size W A ss) => join_c A k c ss W HN.out hs hnc (by have := HZ.out.2.1; omega) (by omega))
      have HJR := hide (fun (W : World) (hs : Kd.string.C W A k ss) => joinRef_c A k c ss W HN.out hs hnc (by have := HZ.out.1; omega) (by omega))
      have HCC := hide (fun (W : World) (hs : Strs W.heap.size W A ss) => (HN.out ▸ C_of_strs hs (by have := HN.out; omega) : Kd.string.C W A k ss))
      have HX := hide (show ∀ W, _ from fun W => split_y (pathOf ss) W (by omega) ps HQ.out)
      have HR := hide (show ∀ W, _ from fun W => splitRef_y (pathOf ss) W (by omega) ps HQ.out)
      go_wp2_with (first | (go_at_call 12; refine (HJ.out _ (HS1.out.more hsz1)).mono ?_; rintro e w2 ⟨rfl, hb2⟩; have HS2 := hide (HS1.out.below (hb2.mono hsz1) (Nat.le_refl _)); have hsz2 := hb2.size; rw [show bs (47 :: joinL (ss.map (·.data.toList))) = pathOf ss from rfl]) | (go_at_call 13; refine (HJR.out _ (HCC.out _ (HS2.out.more (by omega)))).mono ?_; rintro e w3 ⟨rfl, q3, rfl⟩; rw [show bs (47 :: joinL (ss.map (·.data.toList))) = pathOf ss from rfl]) | (go_at_call 10; refine (HR.out _).mono ?_; rintro e w4 ⟨A4, c4, rfl, hc4, hC, hb4⟩; have HC := hide hC; clear hC) | (go_at_call 8; refine (HX.out _).mono ?_; rintro e w5 ⟨A5, c5, rfl, hc5, hX5, hb5⟩; have HX5 := hide hX5; clear hX5) | (go_at_call 9; refine (num_c _ _).mono ?_; rintro e w' ⟨rfl, rfl⟩) | (go_at_call 11; refine (same_s ps hps _ _ _ _ _ _ rfl HX5.out (C_below' HC.out hb5) hc5 hc4).mono ?_; rintro e w6 ⟨rfl, q, rfl⟩))
      go_ret
      exact ⟨by first | rfl | simp, below_drewN' (((below_drewN' (hb.trans (hb2.mono hsz1)) q3).trans (hb4.mono (by show _ ≤ w2.heap.size; omega))).trans (hb5.mono (by have := hb4.size; have : w2.heap.size ≤ w4.heap.size := this; omega))) q⟩
set_option maxHeartbeats 1000000 in
set_option maxRecDepth 100000 in
theorem PathJoins_none (w : World) (A : Option Addr) (n c : Nat) (a1 : (n : Int) ≤ 100) (ss : List ByteArray) (hn : ss.length = n) (hnc : n ≤ c) (hS : Strs w.heap.size w A ss) (hq : splitL (pathOf ss).data.toList = none) :
    Calls Try.prog 5 #[.slice A n c] w fun e w' => e = .returned (.bool true) ∧ Below w.heap.size w w' := by
  have HS := hide hS
  have HN := hide hn
  have HP := hide (fun h hs => pathOf_size ss n hn h hs)
  have HQ := hide hq
  clear hS hn hq
  go_enter Try.func5, Try.ntmps5
  go_wp2_with (go_at_call 7; refine (alive_c _).mono ?_; rintro e w1 ⟨rfl, hb⟩)
  have hsz1 := hb.size
  have HS1 := hide (HS.out.below hb (Nat.le_refl _))
  go_loop [4, 5] (fun z i => ∃ k : Nat, k ≤ n ∧ i = .int .i64 k ∧ (∃ m : Nat, z = .int .i64 m ∧ m ≤ k * 500) ∧ ∀ j, j < k → (ss.getD j ByteArray.empty).size ≤ 500) (fun _ i => n - (intOf i).toNat)
  case atStart => exact ⟨0, by omega, rfl, ⟨0, rfl, by omega⟩, fun j hj => absurd hj (by omega)⟩
  case round =>
    obtain ⟨k, hk, rfl, ⟨m, rfl, hm⟩, hall⟩ := hrel
    by_cases hlt : k < n
    · have hne : ss ≠ [] := fun e => by have := HN.out; rw [e] at this; simp at this; omega
      obtain ⟨b, off, rfl, hlt', hcell⟩ := HS1.out hne
      have hc1 := hcell k (by rw [HN.out]; exact hlt)
      generalize hg : ss.getD k ByteArray.empty = t at hc1
      have HG := hide hg
      have HA := hide hall
      clear hcell hg hall
      by_cases hbig : (500 : Int) < (t.size : Int)
      · go_wp2
        go_ret
        exact ⟨by first | rfl | simp, hb⟩
      · have hbig' : (t.size : Int) ≤ 500 := by omega
        clear hbig
        go_wp2
        go_round
        case rel => exact ⟨k + 1, by omega, by go_num, ⟨m + t.size, by go_num, by omega⟩, fun j hj => by
          by_cases e : j = k
          · subst e; rw [HG.out]; omega
          · exact HA.out j (by omega)⟩
        case measure => simp [intOf]; omega
    · have hkn : k = n := by omega
      subst hkn
      clear hlt hk
      have HZ := hide (HP.out (by omega) hall)
      clear hall
      have hz1 : ((pathOf ss).size : Int) ≤ 100001 := by have := HZ.out.2.2; omega
      have HJ := hide (fun (W : World) (hs : Strs W.heap.size W A ss) => join_c A k c ss W HN.out hs hnc (by have := HZ.out.2.1; omega) (by omega))
      have HJR := hide (fun (W : World) (hs : Kd.string.C W A k ss) => joinRef_c A k c ss W HN.out hs hnc (by have := HZ.out.1; omega) (by omega))
      have HCC := hide (fun (W : World) (hs : Strs W.heap.size W A ss) => (HN.out ▸ C_of_strs hs (by have := HN.out; omega) : Kd.string.C W A k ss))
      have HX := hide (show ∀ W, _ from fun W => split_x (pathOf ss) W (by omega) HQ.out)
      have HR := hide (show ∀ W, _ from fun W => splitRef_x (pathOf ss) W (by omega) HQ.out)
      go_wp2_with (first | (go_at_call 12; refine (HJ.out _ (HS1.out.more hsz1)).mono ?_; rintro e w2 ⟨rfl, hb2⟩; have HS2 := hide (HS1.out.below (hb2.mono hsz1) (Nat.le_refl _)); have hsz2 := hb2.size; rw [show bs (47 :: joinL (ss.map (·.data.toList))) = pathOf ss from rfl]) | (go_at_call 13; refine (HJR.out _ (HCC.out _ (HS2.out.more (by omega)))).mono ?_; rintro e w3 ⟨rfl, q3, rfl⟩; rw [show bs (47 :: joinL (ss.map (·.data.toList))) = pathOf ss from rfl]) | (go_at_call 10; refine (HR.out _).mono ?_; rintro e w4 ⟨A4, c4, rfl, hC, hb4⟩; have HC := hide hC; clear hC) | (go_at_call 8; refine (HX.out _).mono ?_; rintro e w5 ⟨A5, c5, rfl, hb5⟩) | (go_at_call 9; refine (num_c _ _).mono ?_; rintro e w' ⟨rfl, rfl⟩) | (go_at_call 11; refine (same_e _ _ _ _ _).mono ?_; rintro e w6 ⟨rfl, q, rfl⟩))
      go_ret
      exact ⟨by first | rfl | simp, below_drewN' (((below_drewN' (hb.trans (hb2.mono hsz1)) q3).trans (hb4.mono (by show _ ≤ w2.heap.size; omega))).trans (hb5.mono (by have := hb4.size; have : w2.heap.size ≤ w4.heap.size := this; omega))) q⟩
theorem PathJoins_walk (w : World) (A : Option Addr) (n c : Nat) (ss : List ByteArray) (h1 : ss.length = n) (h2 : n ≤ c) (h3 : n ≤ maxLen) (h4 : ss ≠ [] → ∃ x, A = some x ∧ x.block < w.heap.size ∧ ∀ j, j < ss.length → w.cell? (x.add j) = some (.string (ss.getD j ByteArray.empty))) :
    Calls Try.prog 5 #[.slice A n c] w fun e w' => e = .returned (.bool true) ∧ Below w.heap.size w w' := by
  by_cases a : (n : Int) ≤ 100
  · cases hq : splitL (pathOf ss).data.toList with
    | none => exact PathJoins_none w A n c a ss h1 h2 (strs_arg h4) hq
    | some ps => exact PathJoins_some w A n c a ss h1 h2 (strs_arg h4) ps hq
  · exact PathJoins_long w A n c h3 (by omega)
end Go.Proofs.Ytbmdaeeilnghiaa
