/-
  The walk of the law PathSplits: it answers true at every input.
-/
import Derived.Test.YtbmdaeeilnghiaaH
import Derived.Test.YtbmdaeeilnghiaaD
namespace Go.Proofs.Ytbmdaeeilnghiaa
set_option linter.unusedVariables false
set_option linter.unusedSimpArgs false
open Go.RowKit Go.Shelf Go.Proofs.YtbmdaeeilnghiaaW.PrintWords Go.Proofs.Ytbmdaeeilnghiaa.PPathJoins

set_option maxRecDepth 100000 in
theorem PathSplits_long (w : World) (s o : ByteArray) (hs : s.size ≤ maxLen) (ho : o.size ≤ maxLen) (a : ¬ ((s.size : Int) ≤ 5000 ∧ (o.size : Int) ≤ 5000)) :
    Calls Try.prog 4 #[.string s, .string o] w fun e w' => e = .returned (.bool true) ∧ Below w.heap.size w w' := by
  have hs63 : (s.size : Int) ≤ 9223372036854775807 := by simp [maxLen] at hs; omega
  have ho63 : (o.size : Int) ≤ 9223372036854775807 := by simp [maxLen] at ho; omega
  clear hs ho
  by_cases a1 : (5000 : Int) < (s.size : Int)
  · clear a
    go_enter Try.func4, Try.ntmps4
    go_wp2_with (go_at_call 7; refine (alive_c _).mono ?_; rintro e w1 ⟨rfl, hb⟩)
    go_ret
    exact ⟨rfl, hb⟩
  · have a1' : (s.size : Int) ≤ 5000 := by omega
    have a2 : (5000 : Int) < (o.size : Int) := by omega
    clear a1 a
    go_enter Try.func4, Try.ntmps4
    go_wp2_with (go_at_call 7; refine (alive_c _).mono ?_; rintro e w1 ⟨rfl, hb⟩)
    go_ret
    exact ⟨rfl, hb⟩

theorem splitL_join {l : Bytes8} {ps : List Bytes8} (h : splitL l = some ps) : 47 :: joinL ps = l ∧ l.length ≤ 500 := by
  cases l with
  | nil => simp [splitL] at h
  | cons c l =>
    rw [splitL_cons] at h
    by_cases h1 : c ≠ 47 ∨ 500 < l.length + 1
    · rw [if_pos h1] at h; cases h
    · rw [if_neg h1] at h
      have h2 : c = 47 := by by_cases e : c = 47 <;> simp_all
      have h3 : l.length + 1 ≤ 500 := by omega
      subst h2
      by_cases e : l = []
      · subst e; simp at h; subst h; exact ⟨rfl, by simp⟩
      · rw [if_neg e] at h
        by_cases e2 : (partsL l).all okP = true
        · rw [if_pos e2] at h; injection h with h; subst h
          rw [joinL_partsL]; exact ⟨rfl, by simpa using h3⟩
        · rw [if_neg e2] at h; cases h
theorem joinL_len (ps : List Bytes8) : ps.length ≤ (joinL ps).length + 1 := by
  match ps with
  | [] => simp
  | [p] => simp
  | p :: q :: ps =>
    have := joinL_len (q :: ps)
    show (q :: ps).length + 1 ≤ (p ++ 47 :: joinL (q :: ps)).length + 1
    rw [List.length_append, List.length_cons (a := (47 : UInt8))]; omega
theorem own_cap {base : Nat} {w : World} {e : TypeId} {n c : Nat} {A : Option Addr} {xs : List Value} (h : w.ownsRow base e 1 (.slice A n c) n xs) : n ≤ c ∧ c ≤ 9223372036854775807 := by
  rcases h.2 with ⟨h', h0⟩ | ⟨g, cap, cur, h', _, _, h1, h2, _⟩
  · injection h' with _ _ h3; subst h3; subst h0; exact ⟨by omega, by omega⟩
  · injection h' with _ _ h3; subst h3; exact ⟨h1, h2⟩
theorem split_m (s : ByteArray) (w : World) (hs : s.size ≤ 140737488355328) :
    Calls Try.prog 8 #[.string s] w fun e w' => ∃ A n c z xs, e = .returned (.tuple #[.slice A n c, .int .i64 z]) ∧ w'.ownsRow w.heap.size 9 1 (.slice A n c) n xs ∧ Below w.heap.size w w' :=
  (split_c s w hs).mono fun e w' ⟨v, h1, h2, h3⟩ => by
    obtain ⟨A, c, rfl⟩ := own_slice h2
    exact ⟨A, _, c, _, _, h1, h2, h3⟩
theorem split_y (s : ByteArray) (w : World) (hs : s.size ≤ 140737488355328) (ps : List Bytes8) (hp : splitL s.data.toList = some ps) :
    Calls Try.prog 8 #[.string s] w fun e w' => ∃ A c, e = .returned (.tuple #[.slice A ps.length c, .int .i64 0]) ∧ ps.length ≤ c ∧ Strs w'.heap.size w' A (ps.map bs) ∧ Below w.heap.size w w' :=
  (split_c s w hs).mono fun e w' ⟨v, h1, h2, h3⟩ => by
    rw [hp] at h1 h2
    obtain ⟨A, c, rfl⟩ := own_slice h2
    have := own_cap h2
    exact ⟨A, c, h1, this.1, Strs.of_own h2 (Nat.le_refl _), h3⟩
theorem split_x (s : ByteArray) (w : World) (hs : s.size ≤ 140737488355328) (hp : splitL s.data.toList = none) :
    Calls Try.prog 8 #[.string s] w fun e w' => ∃ A c, e = .returned (.tuple #[.slice A 0 c, .int .i64 15]) ∧ Below w.heap.size w w' :=
  (split_c s w hs).mono fun e w' ⟨v, h1, h2, h3⟩ => by
    rw [hp] at h1 h2
    obtain ⟨A, c, rfl⟩ := own_slice h2
    exact ⟨A, c, h1, h3⟩
theorem map_bs (ps : List Bytes8) : (ps.map bs).map (fun x : ByteArray => x.data.toList) = ps := by
  rw [List.map_map]
  conv => rhs; rw [← List.map_id ps]
  exact List.map_congr_left fun p _ => bs_data p
theorem join_s (s : ByteArray) (ps : List Bytes8) (hp : splitL s.data.toList = some ps) (A : Option Addr) (n c : Nat) (w : World) (hn : n = ps.length) (hs : Strs w.heap.size w A (ps.map bs)) (hc : n ≤ c) :
    Calls Try.prog 12 #[.slice A n c] w fun e w' => e = .returned (.string s) ∧ Below w.heap.size w w' := by
  obtain ⟨h1, h2⟩ := splitL_join hp
  have hl := joinL_len ps
  have h3 : (joinL ps).length + 1 ≤ 500 := by rw [← h1] at h2; simpa using h2
  have := join_c A n c (ps.map bs) w (by simp [hn]) hs hc (by rw [map_bs]; omega) (by omega)
  rw [map_bs, h1, bs_of] at this
  exact this
theorem same_s (ps : List Bytes8) (hl : ps.length ≤ 501) (A A' : Option Addr) (n c c' : Nat) (w : World) (hn : n = ps.length) (h1 : Strs w.heap.size w A (ps.map bs)) (h2 : Kd.string.C w A' n (ps.map bs)) (hc : n ≤ c) (hc' : n ≤ c') :
    Calls Try.prog 11 #[.slice A n c, .slice A' n c'] w fun e w' => e = .returned (.bool true) ∧ ∃ q, w' = w.drewN q := by
  have e : (ps.map bs).length = n := by simp [hn]
  refine same_c (ps.map bs) A A' n c c' w e ?_ h2 hc hc' (by omega)
  rw [← e]
  exact C_of_strs h1 (by omega)
theorem splitRef_y (s : ByteArray) (w : World) (hs : s.size ≤ 140737488355328) (ps : List Bytes8) (hp : splitL s.data.toList = some ps) :
    Calls Try.prog 10 #[.string s] w fun e w' => ∃ A c, e = .returned (.tuple #[.slice A ps.length c, .bool true]) ∧ ps.length ≤ c ∧ Kd.string.C w' A ps.length (ps.map bs) ∧ Below w.heap.size w w' :=
  splitRef_c s w hs ps true (by rw [hp]; rfl) (by rw [hp]; rfl)
theorem splitRef_x (s : ByteArray) (w : World) (hs : s.size ≤ 140737488355328) (hp : splitL s.data.toList = none) :
    Calls Try.prog 10 #[.string s] w fun e w' => ∃ A c, e = .returned (.tuple #[.slice A 0 c, .bool false]) ∧ Kd.string.C w' A 0 [] ∧ Below w.heap.size w w' :=
  (splitRef_c s w hs [] false (by rw [hp]; rfl) (by rw [hp]; rfl)).mono fun e w' ⟨A, c, h1, _, h2, h3⟩ => ⟨A, c, h1, h2, h3⟩
theorem same_e (A A' : Option Addr) (c c' : Nat) (w : World) :
    Calls Try.prog 11 #[.slice A 0 c, .slice A' 0 c'] w fun e w' => e = .returned (.bool true) ∧ ∃ q, w' = w.drewN q :=
  same_s [] (by simp) A A' 0 c c' w rfl (fun h => absurd rfl h) (C_of_strs (B := 0) (ss := []) (fun h => absurd rfl h) (by simp)) (by omega) (by omega)
theorem own_set {base : Nat} {w : World} {e : TypeId} {g n c : Nat} {xs : List Value} (h : w.ownsRow base e 1 (.slice (some ⟨g, 0, none⟩) n c) n xs) (j : Nat) (u : Value) : ∃ ys, (w.setCell ⟨g, j, none⟩ u).ownsRow base e 1 (.slice (some ⟨g, 0, none⟩) n c) n ys := ⟨_, (h.stored j u).1⟩

set_option maxHeartbeats 1000000 in
set_option maxRecDepth 100000 in
theorem PathSplits_none (w : World) (s o : ByteArray) (a1' : (s.size : Int) ≤ 5000) (a2' : (o.size : Int) ≤ 5000) (hq : splitL s.data.toList = none) :
    Calls Try.prog 4 #[.string s, .string o] w fun e w' => e = .returned (.bool true) ∧ Below w.heap.size w w' := by
  have HS := hide (fun W => split_x s W (by omega) hq)
  have HR := hide (fun W => splitRef_x s W (by omega) hq)
  have HO := hide (fun W => split_m o W (by omega))
  clear hq
  go_enter Try.func4, Try.ntmps4
  go_wp2_with (first | (go_at_call 7; refine (alive_c _).mono ?_; rintro e w1 ⟨rfl, hb⟩) | (go_at_call 8; first | (refine (HS.out _).mono ?_; rintro e w2 ⟨A, c, rfl, hb2⟩; clear HS) | (refine (HO.out _).mono ?_; rintro e w3 ⟨A3, n, c3, z, xs, rfl, hm, hb3⟩; have HM := hide hm; clear hm)))
  have hsz1 := hb.size
  have hsz2 := hb2.size
  have hcap := own_cap HM.out
  go_loopw [10] (fun i wr => ∃ k : Nat, k ≤ n ∧ i = .int .i64 k ∧ (∃ ys, wr.ownsRow w2.heap.size 9 1 (.slice A3 n c3) n ys) ∧ Below w2.heap.size w2 wr) (fun i _ => n - (intOf i).toNat)
  case atStart => exact ⟨0, by omega, rfl, ⟨_, HM.out⟩, hb3⟩
  case round =>
    obtain ⟨k, hk, rfl, ⟨ys, hown⟩, hbr⟩ := hrel
    have hszr := hbr.size
    by_cases hlt : k < n
    · obtain ⟨g, cap, hv, hg1, hg2⟩ := hown.form (by omega)
      injection hv with hA _ hc
      subst hA
      obtain ⟨ys', hown'⟩ := own_set hown k (.string ⟨#[103, 111, 110, 101]⟩)
      have hlen : ys.length = n := by simpa using hown.1
      have hc1 : wr.cell? ⟨g, k, none⟩ = some (ys[k]'(by omega)) := by rw [hown.cellAt k (by omega)]; exact List.getElem?_eq_getElem _
      have hc2 : wr.frozen? ⟨g, k, none⟩ = false := hown.frozenAt k
      have HOW := hide hown'
      clear hown' hown
      go_wp2
      go_roundw
      case rel => exact ⟨k + 1, by omega, by go_num, ⟨_, HOW.out⟩, hbr.setCell hg1 _⟩
      case measure => simp [intOf]; omega
    · have hkn : k = n := by omega
      subst hkn
      clear hlt hk
      go_wp2_with (first | (go_at_call 9; refine (num_c _ _).mono ?_; rintro e w' ⟨rfl, rfl⟩) | (go_at_call 10; refine (HR.out _).mono ?_; rintro e w4 ⟨A4, c4, rfl, hC, hb4⟩; have HC := hide hC; clear hC) | (go_at_call 11; refine (same_e _ _ _ _ _).mono ?_; rintro e w5 ⟨rfl, q, rfl⟩))
      go_ret
      exact ⟨by first | rfl | simp, below_drewN' (((hb.trans (hb2.mono hsz1)).trans (hbr.mono (by omega))).trans (hb4.mono (by omega))) q⟩
set_option maxHeartbeats 1000000 in
set_option maxRecDepth 100000 in
theorem PathSplits_some (w : World) (s o : ByteArray) (a1' : (s.size : Int) ≤ 5000) (a2' : (o.size : Int) ≤ 5000) (ps : List Bytes8) (hq : splitL s.data.toList = some ps) :
    Calls Try.prog 4 #[.string s, .string o] w fun e w' => e = .returned (.bool true) ∧ Below w.heap.size w w' := by
  have HS := hide (fun W => split_y s W (by omega) ps hq)
  have HR := hide (fun W => splitRef_y s W (by omega) ps hq)
  have HO := hide (fun W => split_m o W (by omega))
  have HQ := hide hq
  have hps : ps.length ≤ 501 := by
    obtain ⟨h1, h2⟩ := splitL_join hq
    have := joinL_len ps
    rw [← h1] at h2; simp at h2; omega
  clear hq
  go_enter Try.func4, Try.ntmps4
  go_wp2_with (first | (go_at_call 7; refine (alive_c _).mono ?_; rintro e w1 ⟨rfl, hb⟩) | (go_at_call 8; first | (refine (HS.out _).mono ?_; rintro e w2 ⟨A, c, rfl, hc0, hA, hb2⟩; have HA := hide hA; clear HS hA) | (refine (HO.out _).mono ?_; rintro e w3 ⟨A3, n, c3, z, xs, rfl, hm, hb3⟩; have HM := hide hm; clear hm)))
  have hsz1 := hb.size
  have hsz2 := hb2.size
  have hcap := own_cap HM.out
  go_loopw [10] (fun i wr => ∃ k : Nat, k ≤ n ∧ i = .int .i64 k ∧ (∃ ys, wr.ownsRow w2.heap.size 9 1 (.slice A3 n c3) n ys) ∧ Below w2.heap.size w2 wr) (fun i _ => n - (intOf i).toNat)
  case atStart => exact ⟨0, by omega, rfl, ⟨_, HM.out⟩, hb3⟩
  case round =>
    obtain ⟨k, hk, rfl, ⟨ys, hown⟩, hbr⟩ := hrel
    have hszr := hbr.size
    by_cases hlt : k < n
    · obtain ⟨g, cap, hv, hg1, hg2⟩ := hown.form (by omega)
      injection hv with hA _ hc
      subst hA
      obtain ⟨ys', hown'⟩ := own_set hown k (.string ⟨#[103, 111, 110, 101]⟩)
      have hlen : ys.length = n := by simpa using hown.1
      have hc1 : wr.cell? ⟨g, k, none⟩ = some (ys[k]'(by omega)) := by rw [hown.cellAt k (by omega)]; exact List.getElem?_eq_getElem _
      have hc2 : wr.frozen? ⟨g, k, none⟩ = false := hown.frozenAt k
      have HOW := hide hown'
      clear hown' hown
      go_wp2
      go_roundw
      case rel => exact ⟨k + 1, by omega, by go_num, ⟨_, HOW.out⟩, hbr.setCell hg1 _⟩
      case measure => simp [intOf]; omega
    · have hkn : k = n := by omega
      subst hkn
      clear hlt hk
      go_wp2_with (first | (go_at_call 9; refine (num_c _ _).mono ?_; rintro e w' ⟨rfl, rfl⟩) | (go_at_call 10; refine (HR.out _).mono ?_; rintro e w4 ⟨A4, c4, rfl, hc4, hC, hb4⟩; have HC := hide hC; clear hC) | (go_at_call 11; refine (same_s ps hps _ _ _ _ _ _ rfl ((HA.out.below (hbr.mono (Nat.le_refl _)) (Nat.le_refl _)).below (hb4.mono hszr) (Nat.le_refl _) |>.more (by have := hb4.size; show _ ≤ w4.heap.size; omega)) HC.out hc0 hc4).mono ?_; rintro e w5 ⟨rfl, q, rfl⟩) | (go_at_call 12; refine (join_s s ps HQ.out _ _ _ _ rfl (((HA.out.below (hbr.mono (Nat.le_refl _)) (Nat.le_refl _)).below (hb4.mono hszr) (Nat.le_refl _) |>.more (by have := hb4.size; show _ ≤ w4.heap.size; omega)).below (below_drewN' (Below.refl _ w4) q) (Nat.le_refl _)) hc0).mono ?_; rintro e w6 ⟨rfl, hb6⟩))
      go_ret
      exact ⟨by first | rfl | simp, (below_drewN' (((hb.trans (hb2.mono hsz1)).trans (hbr.mono (by omega))).trans (hb4.mono (by omega))) q).trans (hb6.mono (by have := hb4.size; show _ ≤ w4.heap.size; omega))⟩

theorem PathSplits_walk (w : World) (s : ByteArray) (hs : s.size ≤ maxLen) (o : ByteArray) (ho : o.size ≤ maxLen) :
    Calls Try.prog 4 #[.string s, .string o] w fun e w' => e = .returned (.bool true) ∧ Below w.heap.size w w' := by
  by_cases a : (s.size : Int) ≤ 5000 ∧ (o.size : Int) ≤ 5000
  · cases hq : splitL s.data.toList with
    | none => exact PathSplits_none w s o a.1 a.2 hq
    | some ps => exact PathSplits_some w s o a.1 a.2 ps hq
  · exact PathSplits_long w s o hs ho a
end Go.Proofs.Ytbmdaeeilnghiaa
