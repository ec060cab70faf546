/-
  The walk of the law PathParts: it answers true at every input. Printed by k_gen.py: one theorem for each way through the law.
-/
import Derived.Test.YtbmdaeeilnghiaaJ
import Derived.Deep.QuietTactic
import Derived.BigQuiet
import Derived.WalkSmall
namespace Go.Proofs.Ytbmdaeeilnghiaa
set_option linter.unusedVariables false
set_option linter.unusedSimpArgs false
open Go.RowKit Go.Shelf Go.Proofs.YtbmdaeeilnghiaaW.PrintWords Go.Proofs.Ytbmdaeeilnghiaa.PPathJoins

theorem Strs.at_ {B : Nat} {w : World} {A : Option Addr} {ss : List ByteArray} (h : Strs B w A ss) (k : Nat) (hk : k < ss.length) : ∃ b off, A = some ⟨b, off, none⟩ ∧ b < B ∧ w.cell? ⟨b, off + k, none⟩ = some (.string (ss.getD k ByteArray.empty)) := by
  obtain ⟨b, off, hA, hb, hc⟩ := h (by intro e; subst e; simp at hk)
  exact ⟨b, off, hA, hb, hc k hk⟩
theorem partsL_app (a b : Bytes8) : partsL (a ++ 47 :: b) = partsL a ++ partsL b := by
  induction a with
  | nil => simp [partsL]
  | cons c a ih =>
    rw [List.cons_append]
    conv => lhs; unfold partsL
    conv => rhs; arg 1; unfold partsL
    by_cases hc : c = 47
    · rw [if_pos hc, if_pos hc, ih]; rfl
    · rw [if_neg hc, if_neg hc, ih]
      cases h : partsL a with
      | nil => exact absurd h (partsL_ne a)
      | cons p ps => rfl
theorem partsL_one_of_len {l : Bytes8} (h : (partsL l).length = 1) : partsL l = [l] := by
  have hj := joinL_partsL l
  match hp : partsL l with
  | [] => exact absurd hp (partsL_ne l)
  | [p] => rw [hp] at hj; rw [← hj]; rfl
  | p :: q :: ps => rw [hp] at h; simp at h
theorem partsL_pos (l : Bytes8) : 1 ≤ (partsL l).length := by
  have := partsL_ne l
  cases h : partsL l with
  | nil => exact absurd h this
  | cons p ps => simp
theorem partsL_joinL_ge : ∀ {ls : List Bytes8}, ls.length ≤ (partsL (joinL ls)).length
  | [] => by simp
  | [p] => partsL_pos p
  | p :: q :: ps => by
    show (q :: ps).length + 1 ≤ (partsL (p ++ 47 :: joinL (q :: ps))).length
    have h1 := partsL_pos p
    have h2 := partsL_joinL_ge (ls := q :: ps)
    rw [partsL_app, List.length_append]; omega
theorem partsL_joinL_len : ∀ {ls : List Bytes8}, ls ≠ [] → (partsL (joinL ls)).length = ls.length → partsL (joinL ls) = ls
  | [], h, _ => absurd rfl h
  | [p], _, h => partsL_one_of_len h
  | p :: q :: ps, _, h => by
    have e : partsL (joinL (p :: q :: ps)) = partsL p ++ partsL (joinL (q :: ps)) := partsL_app p (joinL (q :: ps))
    rw [e] at h ⊢
    rw [List.length_append] at h
    have h1 := partsL_pos p
    have h2 := partsL_joinL_ge (ls := q :: ps)
    have h3 : (p :: q :: ps).length = (q :: ps).length + 1 := rfl
    rw [partsL_one_of_len (by omega), partsL_joinL_len (ls := q :: ps) (by simp) (by omega)]
    rfl
/-- a path of parts and one part more: its parts -/
theorem parts_more {ss : List ByteArray} {ps : List Bytes8} {more : ByteArray} {n : Nat} (hn : ss.length = n) (hpos : 1 ≤ n) (hq : splitL (pathOf ss).data.toList = some ps) (hl : ps.length = n) :
    ss = ps.map bs ∧ ∀ qs, splitL (pathOf ss ++ (⟨#[47]⟩ : ByteArray) ++ more).data.toList = some qs → ∃ r, qs = ps ++ r ∧ 1 ≤ r.length := by
  have hne : ss.map (·.data.toList) ≠ [] := by
    intro e; have := congrArg List.length e; simp at this; subst this; simp at hn; omega
  have e0 : (pathOf ss).data.toList = 47 :: joinL (ss.map (·.data.toList)) := rfl
  have hu : (pathOf ss ++ (⟨#[47]⟩ : ByteArray) ++ more).data.toList = 47 :: (joinL (ss.map (·.data.toList)) ++ 47 :: more.data.toList) := by
    rw [ByteArray.data_append, ByteArray.data_append, Array.toList_append, Array.toList_append, e0]; simp
  rw [e0, splitL_cons] at hq
  split at hq
  · cases hq
  · split at hq
    · injection hq with hq; subst hq; simp at hl; omega
    · split at hq
      · injection hq with hq
        have h1 := partsL_joinL_len hne (by rw [hq, List.length_map, hn, hl])
        rw [hq] at h1
        refine ⟨?_, fun qs hqs => ?_⟩
        · rw [h1, List.map_map]
          conv => lhs; rw [← List.map_id ss]
          exact List.map_congr_left fun s _ => (bs_of s).symm
        · rw [hu, splitL_cons] at hqs
          split at hqs
          · cases hqs
          · split at hqs
            · rename_i e; simp at e
            · split at hqs
              · injection hqs with hqs
                rw [partsL_app, hq] at hqs
                exact ⟨_, hqs.symm, partsL_pos _⟩
              · cases hqs
      · cases hq
theorem parts_root {more : ByteArray} (hm : more.data.toList ≠ []) {qs : List Bytes8} (h : splitL ((⟨#[47]⟩ : ByteArray) ++ more).data.toList = some qs) : 1 ≤ qs.length := by
  have hu : ((⟨#[47]⟩ : ByteArray) ++ more).data.toList = 47 :: more.data.toList := by rw [ByteArray.data_append, Array.toList_append]; rfl
  rw [hu, splitL_cons] at h
  split at h
  · cases h
  · split at h
    · injection h with h; rw [← h]; exact partsL_pos _
    · cases h

theorem PathParts_long (w : World) (A : Option Addr) (n c : Nat) (hn : n ≤ maxLen) (more : ByteArray) (hs : more.size ≤ maxLen) (a : ¬ ((n : Int) ≤ 20 ∧ (more.size : Int) ≤ 100)) :
    Calls Try.prog 6 #[.slice A n c, .string more] w fun e w' => e = .returned (.bool true) ∧ Below w.heap.size w w' := by
  have hs63 : (n : Int) ≤ 9223372036854775807 := by simp [maxLen] at hn; omega
  have ho63 : (more.size : Int) ≤ 9223372036854775807 := by simp [maxLen] at hs; omega
  clear hn hs
  by_cases a1 : (20 : Int) < (n : Int)
  · clear a
    go_enter Try.func6, Try.ntmps6
    go_wp2_with (go_at_call 7; refine (alive_c _).mono ?_; rintro e w1 ⟨rfl, hb⟩)
    go_ret
    exact ⟨rfl, hb⟩
  · have a1' : (n : Int) ≤ 20 := by omega
    have a2 : (100 : Int) < (more.size : Int) := by omega
    clear a1 a
    go_enter Try.func6, Try.ntmps6
    go_wp2_with (go_at_call 7; refine (alive_c _).mono ?_; rintro e w1 ⟨rfl, hb⟩)
    go_ret
    exact ⟨rfl, hb⟩

set_option maxHeartbeats 1000000 in
set_option maxRecDepth 100000 in
theorem PathParts_b1 (w : World) (A : Option Addr) (n c : Nat) (more : ByteArray) (a1 : (n : Int) ≤ 20) (a2 : (more.size : Int) ≤ 100) (ss : List ByteArray) (hn : ss.length = n) (hnc : n ≤ c) (hS : Strs w.heap.size w A ss) (hq : splitL (pathOf ss).data.toList = none) :
    Calls Try.prog 6 #[.slice A n c, .string more] w fun e w' => e = .returned (.bool true) ∧ Below w.heap.size w w' := by
  have HS := hide hS
  have HN := hide hn
  have HP := hide (fun h hs => pathOf_size ss n hn h hs)
  have HQ := hide hq
  clear hq
  clear hS hn
  go_enter Try.func6, Try.ntmps6
  go_wp2_with (go_at_call 7; refine (alive_c _).mono ?_; rintro e w1 ⟨rfl, hb⟩)
  have hsz1 := hb.size
  have HS1 := hide (HS.out.below hb (Nat.le_refl _))
  go_loop [6, 7] (fun z i => ∃ k : Nat, k ≤ n ∧ i = .int .i64 k ∧ (∃ m : Nat, z = .int .i64 m ∧ m ≤ k * 100) ∧ ∀ j, j < k → (ss.getD j ByteArray.empty).size ≤ 500) (fun _ i => n - (intOf i).toNat)
  case atStart => exact ⟨0, by omega, rfl, ⟨0, rfl, by omega⟩, fun j hj => absurd hj (by omega)⟩
  case round =>
    obtain ⟨k, hk, rfl, ⟨m, rfl, hm⟩, hall⟩ := hrel
    by_cases hlt : k < n
    · have hne : ss ≠ [] := fun e => by have := HN.out; rw [e] at this; simp at this; omega
      obtain ⟨b, off, rfl, hlt', hcell⟩ := HS1.out hne
      have hc1 := hcell k (by rw [HN.out]; exact hlt)
      generalize hg : ss.getD k ByteArray.empty = t at hc1
      have HG := hide hg
      have HA := hide hall
      clear hcell hg hall
      by_cases hbig : (100 : Int) < (t.size : Int)
      · go_wp2
        go_ret
        exact ⟨by first | rfl | simp, hb⟩
      · have hbig' : (t.size : Int) ≤ 100 := by omega
        clear hbig
        go_wp2
        go_round
        case rel => exact ⟨k + 1, by omega, by go_num, ⟨m + t.size, by go_num, by omega⟩, fun j hj => by
          by_cases e : j = k
          · subst e; rw [HG.out]; omega
          · exact HA.out j (by omega)⟩
        case measure => simp [intOf]; omega
    · have hkn : n = k := by omega
      subst hkn
      clear hlt hk
      have HZ := hide (HP.out (by omega) hall)
      clear hall
      have hz1 : ((pathOf ss).size : Int) ≤ 100001 := by have := HZ.out.2.2; omega
      have hz2 : ((⟨#[47]⟩ : ByteArray).size : Int) = 1 := rfl
      have hz3 : ((pathOf ss ++ (⟨#[47]⟩ : ByteArray)).size : Int) ≤ 100002 := by rw [ByteArray.size_append]; omega
      have hz4 : ((pathOf ss ++ (⟨#[47]⟩ : ByteArray) ++ more).size : Int) ≤ 100102 := by rw [ByteArray.size_append]; omega
      have hz5 : (((⟨#[47]⟩ : ByteArray) ++ more).size : Int) ≤ 101 := by rw [ByteArray.size_append]; omega
      have HJ := hide (fun (W : World) (hs : Strs W.heap.size W A ss) => join_c A n c ss W HN.out hs hnc (by have := HZ.out.2.1; omega) (by omega))
      have HX := hide (show ∀ W, _ from fun W => split_x (pathOf ss) W (by omega) HQ.out)

      have HZS := hide (And.intro hz1 (And.intro hz3 (And.intro hz4 hz5)))
      have HM := hide hm
      clear hz1 hz2 hz3 hz4 hz5 hm
      go_wp2_with (first | (go_at_call 12; refine (HJ.out _ (HS1.out.more hsz1)).mono ?_; rintro e w2 ⟨rfl, hb2⟩; clear HJ; have HS2 := hide (HS1.out.below (hb2.mono hsz1) (Nat.le_refl _)); have hsz2 := hb2.size; rw [show bs (47 :: joinL (ss.map (·.data.toList))) = pathOf ss from rfl]) | (go_at_call 8; refine (HX.out _).mono ?_; rintro e w3 ⟨A3, c3, rfl, hb3⟩; clear HX) | (go_at_call 9; refine (num_c _ _).mono ?_; rintro e w' ⟨rfl, rfl⟩))
      go_ret
      exact ⟨by first | rfl | simp, ((hb.trans (hb2.mono hsz1)).trans (hb3.mono (by omega)))⟩

set_option maxHeartbeats 1000000 in
set_option maxRecDepth 100000 in
theorem PathParts_b2 (w : World) (A : Option Addr) (n c : Nat) (more : ByteArray) (a1 : (n : Int) ≤ 20) (a2 : (more.size : Int) ≤ 100) (ss : List ByteArray) (hn : ss.length = n) (hnc : n ≤ c) (hS : Strs w.heap.size w A ss) (ps : List Bytes8) (hq : splitL (pathOf ss).data.toList = some ps) (hl : ps.length ≠ n) :
    Calls Try.prog 6 #[.slice A n c, .string more] w fun e w' => e = .returned (.bool true) ∧ Below w.heap.size w w' := by
  have HS := hide hS
  have HN := hide hn
  have HP := hide (fun h hs => pathOf_size ss n hn h hs)
  have HQ := hide hq
  have hps : ps.length ≤ 501 := by
    obtain ⟨h1, h2⟩ := splitL_join hq
    have := joinL_len ps
    rw [← h1] at h2; simp at h2; omega
  have HPS := hide hps
  clear hq hps
  have hl2 : ((((ps.length : Nat) : Int)) == (n : Int)) = false := by rw [beq_eq_false_iff_ne]; omega
  clear hl
  clear hS hn
  go_enter Try.func6, Try.ntmps6
  go_wp2_with (go_at_call 7; refine (alive_c _).mono ?_; rintro e w1 ⟨rfl, hb⟩)
  have hsz1 := hb.size
  have HS1 := hide (HS.out.below hb (Nat.le_refl _))
  go_loop [6, 7] (fun z i => ∃ k : Nat, k ≤ n ∧ i = .int .i64 k ∧ (∃ m : Nat, z = .int .i64 m ∧ m ≤ k * 100) ∧ ∀ j, j < k → (ss.getD j ByteArray.empty).size ≤ 500) (fun _ i => n - (intOf i).toNat)
  case atStart => exact ⟨0, by omega, rfl, ⟨0, rfl, by omega⟩, fun j hj => absurd hj (by omega)⟩
  case round =>
    obtain ⟨k, hk, rfl, ⟨m, rfl, hm⟩, hall⟩ := hrel
    by_cases hlt : k < n
    · have hne : ss ≠ [] := fun e => by have := HN.out; rw [e] at this; simp at this; omega
      obtain ⟨b, off, rfl, hlt', hcell⟩ := HS1.out hne
      have hc1 := hcell k (by rw [HN.out]; exact hlt)
      generalize hg : ss.getD k ByteArray.empty = t at hc1
      have HG := hide hg
      have HA := hide hall
      clear hcell hg hall
      by_cases hbig : (100 : Int) < (t.size : Int)
      · go_wp2
        go_ret
        exact ⟨by first | rfl | simp, hb⟩
      · have hbig' : (t.size : Int) ≤ 100 := by omega
        clear hbig
        go_wp2
        go_round
        case rel => exact ⟨k + 1, by omega, by go_num, ⟨m + t.size, by go_num, by omega⟩, fun j hj => by
          by_cases e : j = k
          · subst e; rw [HG.out]; omega
          · exact HA.out j (by omega)⟩
        case measure => simp [intOf]; omega
    · have hkn : n = k := by omega
      subst hkn
      clear hlt hk
      have HZ := hide (HP.out (by omega) hall)
      clear hall
      have hz1 : ((pathOf ss).size : Int) ≤ 100001 := by have := HZ.out.2.2; omega
      have hz2 : ((⟨#[47]⟩ : ByteArray).size : Int) = 1 := rfl
      have hz3 : ((pathOf ss ++ (⟨#[47]⟩ : ByteArray)).size : Int) ≤ 100002 := by rw [ByteArray.size_append]; omega
      have hz4 : ((pathOf ss ++ (⟨#[47]⟩ : ByteArray) ++ more).size : Int) ≤ 100102 := by rw [ByteArray.size_append]; omega
      have hz5 : (((⟨#[47]⟩ : ByteArray) ++ more).size : Int) ≤ 101 := by rw [ByteArray.size_append]; omega
      have HJ := hide (fun (W : World) (hs : Strs W.heap.size W A ss) => join_c A n c ss W HN.out hs hnc (by have := HZ.out.2.1; omega) (by omega))
      have HX := hide (show ∀ W, _ from fun W => split_y (pathOf ss) W (by omega) ps HQ.out)

      have HZS := hide (And.intro hz1 (And.intro hz3 (And.intro hz4 hz5)))
      have HM := hide hm
      clear hz1 hz2 hz3 hz4 hz5 hm
      go_wp2_with (first | (go_at_call 12; refine (HJ.out _ (HS1.out.more hsz1)).mono ?_; rintro e w2 ⟨rfl, hb2⟩; clear HJ; have HS2 := hide (HS1.out.below (hb2.mono hsz1) (Nat.le_refl _)); have hsz2 := hb2.size; rw [show bs (47 :: joinL (ss.map (·.data.toList))) = pathOf ss from rfl]) | (go_at_call 8; refine (HX.out _).mono ?_; rintro e w3 ⟨A3, c3, rfl, hc3, h3, hb3⟩; have HS3 := hide h3; clear HX h3) | (go_at_call 9; refine (num_c _ _).mono ?_; rintro e w' ⟨rfl, rfl⟩))
      go_ret
      exact ⟨by first | rfl | simp, ((hb.trans (hb2.mono hsz1)).trans (hb3.mono (by omega)))⟩

set_option maxHeartbeats 1000000 in
set_option maxRecDepth 100000 in
theorem PathParts_c0 (w : World) (A : Option Addr) (c : Nat) (a1 : (0 : Int) ≤ 20) (a2 : ((⟨#[]⟩ : ByteArray).size : Int) ≤ 100) (ss : List ByteArray) (hn : ss.length = 0) (hnc : 0 ≤ c) (hS : Strs w.heap.size w A ss) (ps : List Bytes8) (hq : splitL (pathOf ss).data.toList = some ps) (hl : ps.length = 0) :
    Calls Try.prog 6 #[.slice A 0 c, .string (⟨#[]⟩ : ByteArray)] w fun e w' => e = .returned (.bool true) ∧ Below w.heap.size w w' := by
  have HS := hide hS
  have HN := hide hn
  have HP := hide (fun h hs => pathOf_size ss 0 hn h hs)
  have HQ := hide hq
  have hps : ps.length ≤ 501 := by
    obtain ⟨h1, h2⟩ := splitL_join hq
    have := joinL_len ps
    rw [← h1] at h2; simp at h2; omega
  have HPS := hide hps
  clear hq hps
  have HL := hide hl
  clear hl

  clear hS hn
  go_enter Try.func6, Try.ntmps6
  go_wp2_with (go_at_call 7; refine (alive_c _).mono ?_; rintro e w1 ⟨rfl, hb⟩)
  have hsz1 := hb.size
  have HS1 := hide (HS.out.below hb (Nat.le_refl _))
  go_loop [6, 7] (fun z i => ∃ k : Nat, k ≤ 0 ∧ i = .int .i64 k ∧ (∃ m : Nat, z = .int .i64 m ∧ m ≤ k * 100) ∧ ∀ j, j < k → (ss.getD j ByteArray.empty).size ≤ 500) (fun _ i => 0 - (intOf i).toNat)
  case atStart => exact ⟨0, by omega, rfl, ⟨0, rfl, by omega⟩, fun j hj => absurd hj (by omega)⟩
  case round =>
    obtain ⟨k, hk, rfl, ⟨m, rfl, hm⟩, hall⟩ := hrel
    by_cases hlt : k < 0
    · exact absurd hlt (by omega)
    · have hkn : 0 = k := by omega
      subst hkn
      clear hlt hk
      have HZ := hide (HP.out (by omega) hall)
      clear hall
      have hz1 : ((pathOf ss).size : Int) ≤ 100001 := by have := HZ.out.2.2; omega
      have hz2 : ((⟨#[47]⟩ : ByteArray).size : Int) = 1 := rfl
      have hz3 : ((pathOf ss ++ (⟨#[47]⟩ : ByteArray)).size : Int) ≤ 100002 := by rw [ByteArray.size_append]; omega
      have hz4 : ((pathOf ss ++ (⟨#[47]⟩ : ByteArray) ++ (⟨#[]⟩ : ByteArray)).size : Int) ≤ 100102 := by rw [ByteArray.size_append]; omega
      have hz5 : (((⟨#[47]⟩ : ByteArray) ++ (⟨#[]⟩ : ByteArray)).size : Int) ≤ 101 := by rw [ByteArray.size_append]; omega
      have HJ := hide (fun (W : World) (hs : Strs W.heap.size W A ss) => join_c A 0 c ss W HN.out hs hnc (by have := HZ.out.2.1; omega) (by omega))
      have HX := hide (show ∀ W, _ from fun W => split_y (pathOf ss) W (by omega) ps HQ.out)
      have HY := hide (fun W => split_y ((⟨#[47]⟩ : ByteArray) ++ ⟨#[]⟩) W (by omega) [] rfl)
      have HZS := hide (And.intro hz1 (And.intro hz3 (And.intro hz4 hz5)))
      have HM := hide hm
      clear hz1 hz2 hz3 hz4 hz5 hm
      go_upto_region 15 with (first | (go_at_call 12; refine (HJ.out _ (HS1.out.more hsz1)).mono ?_; rintro e w2 ⟨rfl, hb2⟩; clear HJ; have HS2 := hide (HS1.out.below (hb2.mono hsz1) (Nat.le_refl _)); have hsz2 := hb2.size; rw [show bs (47 :: joinL (ss.map (·.data.toList))) = pathOf ss from rfl]) | (go_at_call 8; refine (HX.out _).mono ?_; rintro e w3 ⟨A3, c3, rfl, hc3, h3, hb3⟩; have HS3 := hide h3; clear HX h3; rw [HL.out]) | (go_at_call 9; refine (num_c _ _).mono ?_; rintro e w' ⟨rfl, rfl⟩))
      obtain ⟨hz1, hz3, hz4, hz5⟩ := HZS.out
      have hz2 : ((⟨#[47]⟩ : ByteArray).size : Int) = 1 := rfl
      go_upto_region 16 with (fail)
      clear hz1 hz2 hz3 hz4 hz5
      go_wp2_with (first | (go_at_call 8; refine (HY.out _).mono ?_; rintro e w4 ⟨A4, c4, rfl, hc4, h4, hb4⟩; have HS4 := hide h4; clear HY h4) | (go_at_call 9; refine (num_c _ _).mono ?_; rintro e w' ⟨rfl, rfl⟩))
      go_ret
      exact ⟨by first | rfl | simp, (((hb.trans (hb2.mono hsz1)).trans (hb3.mono (by omega))).trans (hb4.mono (by have := hb3.size; omega)))⟩

set_option maxHeartbeats 1000000 in
set_option maxRecDepth 100000 in
theorem PathParts_d0 (w : World) (A : Option Addr) (c : Nat) (more : ByteArray) (a1 : (0 : Int) ≤ 20) (a2 : (more.size : Int) ≤ 100) (ss : List ByteArray) (hn : ss.length = 0) (hnc : 0 ≤ c) (hS : Strs w.heap.size w A ss) (ps : List Bytes8) (hq : splitL (pathOf ss).data.toList = some ps) (hl : ps.length = 0) (hm : (more.toList == ([] : List UInt8)) = false) (hr : splitL ((⟨#[47]⟩ : ByteArray) ++ more).data.toList = none) :
    Calls Try.prog 6 #[.slice A 0 c, .string more] w fun e w' => e = .returned (.bool true) ∧ Below w.heap.size w w' := by
  have HS := hide hS
  have HN := hide hn
  have HP := hide (fun h hs => pathOf_size ss 0 hn h hs)
  have HQ := hide hq
  have hps : ps.length ≤ 501 := by
    obtain ⟨h1, h2⟩ := splitL_join hq
    have := joinL_len ps
    rw [← h1] at h2; simp at h2; omega
  have HPS := hide hps
  clear hq hps
  have HL := hide hl
  clear hl
  have HR := hide hr
  clear hr
  clear hS hn
  go_enter Try.func6, Try.ntmps6
  go_wp2_with (go_at_call 7; refine (alive_c _).mono ?_; rintro e w1 ⟨rfl, hb⟩)
  have hsz1 := hb.size
  have HS1 := hide (HS.out.below hb (Nat.le_refl _))
  go_loop [6, 7] (fun z i => ∃ k : Nat, k ≤ 0 ∧ i = .int .i64 k ∧ (∃ m : Nat, z = .int .i64 m ∧ m ≤ k * 100) ∧ ∀ j, j < k → (ss.getD j ByteArray.empty).size ≤ 500) (fun _ i => 0 - (intOf i).toNat)
  case atStart => exact ⟨0, by omega, rfl, ⟨0, rfl, by omega⟩, fun j hj => absurd hj (by omega)⟩
  case round =>
    obtain ⟨k, hk, rfl, ⟨m, rfl, hm⟩, hall⟩ := hrel
    by_cases hlt : k < 0
    · exact absurd hlt (by omega)
    · have hkn : 0 = k := by omega
      subst hkn
      clear hlt hk
      have HZ := hide (HP.out (by omega) hall)
      clear hall
      have hz1 : ((pathOf ss).size : Int) ≤ 100001 := by have := HZ.out.2.2; omega
      have hz2 : ((⟨#[47]⟩ : ByteArray).size : Int) = 1 := rfl
      have hz3 : ((pathOf ss ++ (⟨#[47]⟩ : ByteArray)).size : Int) ≤ 100002 := by rw [ByteArray.size_append]; omega
      have hz4 : ((pathOf ss ++ (⟨#[47]⟩ : ByteArray) ++ more).size : Int) ≤ 100102 := by rw [ByteArray.size_append]; omega
      have hz5 : (((⟨#[47]⟩ : ByteArray) ++ more).size : Int) ≤ 101 := by rw [ByteArray.size_append]; omega
      have HJ := hide (fun (W : World) (hs : Strs W.heap.size W A ss) => join_c A 0 c ss W HN.out hs hnc (by have := HZ.out.2.1; omega) (by omega))
      have HX := hide (show ∀ W, _ from fun W => split_y (pathOf ss) W (by omega) ps HQ.out)
      have HY := hide (fun W => split_x ((⟨#[47]⟩ : ByteArray) ++ more) W (by omega) HR.out)
      have HZS := hide (And.intro hz1 (And.intro hz3 (And.intro hz4 hz5)))
      have HM := hide hm
      clear hz1 hz2 hz3 hz4 hz5 hm
      go_upto_region 15 with (first | (go_at_call 12; refine (HJ.out _ (HS1.out.more hsz1)).mono ?_; rintro e w2 ⟨rfl, hb2⟩; clear HJ; have HS2 := hide (HS1.out.below (hb2.mono hsz1) (Nat.le_refl _)); have hsz2 := hb2.size; rw [show bs (47 :: joinL (ss.map (·.data.toList))) = pathOf ss from rfl]) | (go_at_call 8; refine (HX.out _).mono ?_; rintro e w3 ⟨A3, c3, rfl, hc3, h3, hb3⟩; have HS3 := hide h3; clear HX h3; rw [HL.out]) | (go_at_call 9; refine (num_c _ _).mono ?_; rintro e w' ⟨rfl, rfl⟩))
      obtain ⟨hz1, hz3, hz4, hz5⟩ := HZS.out
      have hz2 : ((⟨#[47]⟩ : ByteArray).size : Int) = 1 := rfl
      go_upto_region 16 with (fail)
      clear hz1 hz2 hz3 hz4 hz5
      go_wp2_with (first | (go_at_call 8; refine (HY.out _).mono ?_; rintro e w4 ⟨A4, c4, rfl, hb4⟩; clear HY) | (go_at_call 9; refine (num_c _ _).mono ?_; rintro e w' ⟨rfl, rfl⟩))
      go_ret
      exact ⟨by first | rfl | simp, (((hb.trans (hb2.mono hsz1)).trans (hb3.mono (by omega))).trans (hb4.mono (by have := hb3.size; omega)))⟩

set_option maxHeartbeats 1000000 in
set_option maxRecDepth 100000 in
theorem PathParts_d1 (w : World) (A : Option Addr) (n c : Nat) (more : ByteArray) (a1 : (n : Int) ≤ 20) (a2 : (more.size : Int) ≤ 100) (ss : List ByteArray) (hn : ss.length = n) (hnc : n ≤ c) (hS : Strs w.heap.size w A ss) (ps : List Bytes8) (hq : splitL (pathOf ss).data.toList = some ps) (hl : ps.length = n) (h0 : 1 ≤ n) (hr : splitL (pathOf ss ++ (⟨#[47]⟩ : ByteArray) ++ more).data.toList = none) :
    Calls Try.prog 6 #[.slice A n c, .string more] w fun e w' => e = .returned (.bool true) ∧ Below w.heap.size w w' := by
  have HS := hide hS
  have HN := hide hn
  have HP := hide (fun h hs => pathOf_size ss n hn h hs)
  have HQ := hide hq
  have hps : ps.length ≤ 501 := by
    obtain ⟨h1, h2⟩ := splitL_join hq
    have := joinL_len ps
    rw [← h1] at h2; simp at h2; omega
  have HPS := hide hps
  clear hq hps
  have HL := hide hl
  clear hl
  have HR := hide hr
  clear hr
  clear hS hn
  go_enter Try.func6, Try.ntmps6
  go_wp2_with (go_at_call 7; refine (alive_c _).mono ?_; rintro e w1 ⟨rfl, hb⟩)
  have hsz1 := hb.size
  have HS1 := hide (HS.out.below hb (Nat.le_refl _))
  go_loop [6, 7] (fun z i => ∃ k : Nat, k ≤ n ∧ i = .int .i64 k ∧ (∃ m : Nat, z = .int .i64 m ∧ m ≤ k * 100) ∧ ∀ j, j < k → (ss.getD j ByteArray.empty).size ≤ 500) (fun _ i => n - (intOf i).toNat)
  case atStart => exact ⟨0, by omega, rfl, ⟨0, rfl, by omega⟩, fun j hj => absurd hj (by omega)⟩
  case round =>
    obtain ⟨k, hk, rfl, ⟨m, rfl, hm⟩, hall⟩ := hrel
    by_cases hlt : k < n
    · have hne : ss ≠ [] := fun e => by have := HN.out; rw [e] at this; simp at this; omega
      obtain ⟨b, off, rfl, hlt', hcell⟩ := HS1.out hne
      have hc1 := hcell k (by rw [HN.out]; exact hlt)
      generalize hg : ss.getD k ByteArray.empty = t at hc1
      have HG := hide hg
      have HA := hide hall
      clear hcell hg hall
      by_cases hbig : (100 : Int) < (t.size : Int)
      · go_wp2
        go_ret
        exact ⟨by first | rfl | simp, hb⟩
      · have hbig' : (t.size : Int) ≤ 100 := by omega
        clear hbig
        go_wp2
        go_round
        case rel => exact ⟨k + 1, by omega, by go_num, ⟨m + t.size, by go_num, by omega⟩, fun j hj => by
          by_cases e : j = k
          · subst e; rw [HG.out]; omega
          · exact HA.out j (by omega)⟩
        case measure => simp [intOf]; omega
    · have hkn : n = k := by omega
      subst hkn
      clear hlt hk
      have HZ := hide (HP.out (by omega) hall)
      clear hall
      have hz1 : ((pathOf ss).size : Int) ≤ 100001 := by have := HZ.out.2.2; omega
      have hz2 : ((⟨#[47]⟩ : ByteArray).size : Int) = 1 := rfl
      have hz3 : ((pathOf ss ++ (⟨#[47]⟩ : ByteArray)).size : Int) ≤ 100002 := by rw [ByteArray.size_append]; omega
      have hz4 : ((pathOf ss ++ (⟨#[47]⟩ : ByteArray) ++ more).size : Int) ≤ 100102 := by rw [ByteArray.size_append]; omega
      have hz5 : (((⟨#[47]⟩ : ByteArray) ++ more).size : Int) ≤ 101 := by rw [ByteArray.size_append]; omega
      have HJ := hide (fun (W : World) (hs : Strs W.heap.size W A ss) => join_c A n c ss W HN.out hs hnc (by have := HZ.out.2.1; omega) (by omega))
      have HX := hide (show ∀ W, _ from fun W => split_y (pathOf ss) W (by omega) ps HQ.out)
      have HY := hide (fun W => split_x (pathOf ss ++ (⟨#[47]⟩ : ByteArray) ++ more) W (by omega) HR.out)
      have HZS := hide (And.intro hz1 (And.intro hz3 (And.intro hz4 hz5)))
      have HM := hide hm
      clear hz1 hz2 hz3 hz4 hz5 hm
      go_upto_region 15 with (first | (go_at_call 12; refine (HJ.out _ (HS1.out.more hsz1)).mono ?_; rintro e w2 ⟨rfl, hb2⟩; clear HJ; have HS2 := hide (HS1.out.below (hb2.mono hsz1) (Nat.le_refl _)); have hsz2 := hb2.size; rw [show bs (47 :: joinL (ss.map (·.data.toList))) = pathOf ss from rfl]) | (go_at_call 8; refine (HX.out _).mono ?_; rintro e w3 ⟨A3, c3, rfl, hc3, h3, hb3⟩; have HS3 := hide h3; clear HX h3; rw [HL.out]) | (go_at_call 9; refine (num_c _ _).mono ?_; rintro e w' ⟨rfl, rfl⟩))
      obtain ⟨hz1, hz3, hz4, hz5⟩ := HZS.out
      have hz2 : ((⟨#[47]⟩ : ByteArray).size : Int) = 1 := rfl
      go_upto_region 16 with (fail)
      clear hz1 hz2 hz3 hz4 hz5
      go_wp2_with (first | (go_at_call 8; refine (HY.out _).mono ?_; rintro e w4 ⟨A4, c4, rfl, hb4⟩; clear HY) | (go_at_call 9; refine (num_c _ _).mono ?_; rintro e w' ⟨rfl, rfl⟩))
      go_ret
      exact ⟨by first | rfl | simp, (((hb.trans (hb2.mono hsz1)).trans (hb3.mono (by omega))).trans (hb4.mono (by have := hb3.size; omega)))⟩

set_option maxHeartbeats 1000000 in
set_option maxRecDepth 100000 in
theorem PathParts_e0 (w : World) (A : Option Addr) (c : Nat) (more : ByteArray) (a1 : (0 : Int) ≤ 20) (a2 : (more.size : Int) ≤ 100) (ss : List ByteArray) (hn : ss.length = 0) (hnc : 0 ≤ c) (hS : Strs w.heap.size w A ss) (ps : List Bytes8) (hq : splitL (pathOf ss).data.toList = some ps) (hl : ps.length = 0) (hm : (more.toList == ([] : List UInt8)) = false) (qs : List Bytes8) (hr : splitL ((⟨#[47]⟩ : ByteArray) ++ more).data.toList = some qs) :
    Calls Try.prog 6 #[.slice A 0 c, .string more] w fun e w' => e = .returned (.bool true) ∧ Below w.heap.size w w' := by
  have HS := hide hS
  have HN := hide hn
  have HP := hide (fun h hs => pathOf_size ss 0 hn h hs)
  have HQ := hide hq
  have hps : ps.length ≤ 501 := by
    obtain ⟨h1, h2⟩ := splitL_join hq
    have := joinL_len ps
    rw [← h1] at h2; simp at h2; omega
  have HPS := hide hps
  clear hq hps
  have HL := hide hl
  clear hl
  have hq1 : (1 : Int) ≤ (qs.length : Int) := by
    have := parts_root (by simpa [ByteArray.toList_eq] using hm) hr
    omega
  have HR := hide hr
  clear hr
  clear hS hn
  go_enter Try.func6, Try.ntmps6
  go_wp2_with (go_at_call 7; refine (alive_c _).mono ?_; rintro e w1 ⟨rfl, hb⟩)
  have hsz1 := hb.size
  have HS1 := hide (HS.out.below hb (Nat.le_refl _))
  go_loop [6, 7] (fun z i => ∃ k : Nat, k ≤ 0 ∧ i = .int .i64 k ∧ (∃ m : Nat, z = .int .i64 m ∧ m ≤ k * 100) ∧ ∀ j, j < k → (ss.getD j ByteArray.empty).size ≤ 500) (fun _ i => 0 - (intOf i).toNat)
  case atStart => exact ⟨0, by omega, rfl, ⟨0, rfl, by omega⟩, fun j hj => absurd hj (by omega)⟩
  case round =>
    obtain ⟨k, hk, rfl, ⟨m, rfl, hm⟩, hall⟩ := hrel
    by_cases hlt : k < 0
    · exact absurd hlt (by omega)
    · have hkn : 0 = k := by omega
      subst hkn
      clear hlt hk
      have HZ := hide (HP.out (by omega) hall)
      clear hall
      have hz1 : ((pathOf ss).size : Int) ≤ 100001 := by have := HZ.out.2.2; omega
      have hz2 : ((⟨#[47]⟩ : ByteArray).size : Int) = 1 := rfl
      have hz3 : ((pathOf ss ++ (⟨#[47]⟩ : ByteArray)).size : Int) ≤ 100002 := by rw [ByteArray.size_append]; omega
      have hz4 : ((pathOf ss ++ (⟨#[47]⟩ : ByteArray) ++ more).size : Int) ≤ 100102 := by rw [ByteArray.size_append]; omega
      have hz5 : (((⟨#[47]⟩ : ByteArray) ++ more).size : Int) ≤ 101 := by rw [ByteArray.size_append]; omega
      have HJ := hide (fun (W : World) (hs : Strs W.heap.size W A ss) => join_c A 0 c ss W HN.out hs hnc (by have := HZ.out.2.1; omega) (by omega))
      have HX := hide (show ∀ W, _ from fun W => split_y (pathOf ss) W (by omega) ps HQ.out)
      have HY := hide (fun W => split_y ((⟨#[47]⟩ : ByteArray) ++ more) W (by omega) qs HR.out)
      have HZS := hide (And.intro hz1 (And.intro hz3 (And.intro hz4 hz5)))
      have HM := hide hm
      clear hz1 hz2 hz3 hz4 hz5 hm
      go_upto_region 15 with (first | (go_at_call 12; refine (HJ.out _ (HS1.out.more hsz1)).mono ?_; rintro e w2 ⟨rfl, hb2⟩; clear HJ; have HS2 := hide (HS1.out.below (hb2.mono hsz1) (Nat.le_refl _)); have hsz2 := hb2.size; rw [show bs (47 :: joinL (ss.map (·.data.toList))) = pathOf ss from rfl]) | (go_at_call 8; refine (HX.out _).mono ?_; rintro e w3 ⟨A3, c3, rfl, hc3, h3, hb3⟩; have HS3 := hide h3; clear HX h3; rw [HL.out]) | (go_at_call 9; refine (num_c _ _).mono ?_; rintro e w' ⟨rfl, rfl⟩))
      obtain ⟨hz1, hz3, hz4, hz5⟩ := HZS.out
      have hz2 : ((⟨#[47]⟩ : ByteArray).size : Int) = 1 := rfl
      go_upto_region 16 with (fail)
      clear hz1 hz2 hz3 hz4 hz5
      go_upto_region 25 with (first | (go_at_call 8; refine (HY.out _).mono ?_; rintro e w4 ⟨A4, c4, rfl, hc4, h4, hb4⟩; have HS4 := hide h4; clear HY h4) | (go_at_call 9; refine (num_c _ _).mono ?_; rintro e w' ⟨rfl, rfl⟩))
      have b4 := (((hb.trans (hb2.mono hsz1)).trans (hb3.mono (by omega))).trans (hb4.mono (by have := hb3.size; omega)))
      have HBB := hide b4
      have q3 := hb3.size
      have q4 := hb4.size
      clear b4
      go_wp2
      go_loopw [14] (fun i wr => ∃ k : Nat, k ≤ 0 ∧ i = .int .i64 k ∧ Below w4.heap.size w4 wr) (fun i _ => 0 - (intOf i).toNat)
      case atStart => exact ⟨0, by omega, rfl, Below.refl _ _⟩
      case round =>
        obtain ⟨k, hk, rfl, hbr⟩ := hrel
        have hszr := hbr.size
        by_cases hlt : k < 0
        · exact absurd hlt (by omega)
        · have hkn : 0 = k := by omega
          subst hkn
          clear hlt hk
          have HJ2 := hide (join_s ((⟨#[47]⟩ : ByteArray) ++ more) qs HR.out A4 qs.length c4 _ rfl (HS4.out.below hbr (Nat.le_refl _) |>.more hszr) hc4)
          go_wp2_with (go_at_call 12; refine HJ2.out.mono ?_; rintro e w6 ⟨rfl, hb6⟩)
          go_ret
          exact ⟨by first | rfl | simp, (HBB.out.trans (hbr.mono (by omega))).trans (hb6.mono (by omega))⟩

set_option maxHeartbeats 1000000 in
set_option maxRecDepth 100000 in
theorem PathParts_e1 (w : World) (A : Option Addr) (n c : Nat) (more : ByteArray) (a1 : (n : Int) ≤ 20) (a2 : (more.size : Int) ≤ 100) (ss : List ByteArray) (hn : ss.length = n) (hnc : n ≤ c) (hS : Strs w.heap.size w A ss) (ps : List Bytes8) (hq : splitL (pathOf ss).data.toList = some ps) (hl : ps.length = n) (h0 : 1 ≤ n) (qs : List Bytes8) (hr : splitL (pathOf ss ++ (⟨#[47]⟩ : ByteArray) ++ more).data.toList = some qs) :
    Calls Try.prog 6 #[.slice A n c, .string more] w fun e w' => e = .returned (.bool true) ∧ Below w.heap.size w w' := by
  have HS := hide hS
  have HN := hide hn
  have HP := hide (fun h hs => pathOf_size ss n hn h hs)
  have HQ := hide hq
  have hps : ps.length ≤ 501 := by
    obtain ⟨h1, h2⟩ := splitL_join hq
    have := joinL_len ps
    rw [← h1] at h2; simp at h2; omega
  have HPS := hide hps
  clear hq hps
  have HM2 := hide (parts_more (more := more) hn h0 HQ.out hl)
  have hq1 : (n : Int) + 1 ≤ (qs.length : Int) := by
    obtain ⟨r, e, h1⟩ := HM2.out.2 qs hr
    rw [e, List.length_append]; omega
  have HL := hide hl
  clear hl
  have HR := hide hr
  clear hr
  clear hS hn
  go_enter Try.func6, Try.ntmps6
  go_wp2_with (go_at_call 7; refine (alive_c _).mono ?_; rintro e w1 ⟨rfl, hb⟩)
  have hsz1 := hb.size
  have HS1 := hide (HS.out.below hb (Nat.le_refl _))
  go_loop [6, 7] (fun z i => ∃ k : Nat, k ≤ n ∧ i = .int .i64 k ∧ (∃ m : Nat, z = .int .i64 m ∧ m ≤ k * 100) ∧ ∀ j, j < k → (ss.getD j ByteArray.empty).size ≤ 500) (fun _ i => n - (intOf i).toNat)
  case atStart => exact ⟨0, by omega, rfl, ⟨0, rfl, by omega⟩, fun j hj => absurd hj (by omega)⟩
  case round =>
    obtain ⟨k, hk, rfl, ⟨m, rfl, hm⟩, hall⟩ := hrel
    by_cases hlt : k < n
    · have hne : ss ≠ [] := fun e => by have := HN.out; rw [e] at this; simp at this; omega
      obtain ⟨b, off, rfl, hlt', hcell⟩ := HS1.out hne
      have hc1 := hcell k (by rw [HN.out]; exact hlt)
      generalize hg : ss.getD k ByteArray.empty = t at hc1
      have HG := hide hg
      have HA := hide hall
      clear hcell hg hall
      by_cases hbig : (100 : Int) < (t.size : Int)
      · go_wp2
        go_ret
        exact ⟨by first | rfl | simp, hb⟩
      · have hbig' : (t.size : Int) ≤ 100 := by omega
        clear hbig
        go_wp2
        go_round
        case rel => exact ⟨k + 1, by omega, by go_num, ⟨m + t.size, by go_num, by omega⟩, fun j hj => by
          by_cases e : j = k
          · subst e; rw [HG.out]; omega
          · exact HA.out j (by omega)⟩
        case measure => simp [intOf]; omega
    · have hkn : n = k := by omega
      subst hkn
      clear hlt hk
      have HZ := hide (HP.out (by omega) hall)
      clear hall
      have hz1 : ((pathOf ss).size : Int) ≤ 100001 := by have := HZ.out.2.2; omega
      have hz2 : ((⟨#[47]⟩ : ByteArray).size : Int) = 1 := rfl
      have hz3 : ((pathOf ss ++ (⟨#[47]⟩ : ByteArray)).size : Int) ≤ 100002 := by rw [ByteArray.size_append]; omega
      have hz4 : ((pathOf ss ++ (⟨#[47]⟩ : ByteArray) ++ more).size : Int) ≤ 100102 := by rw [ByteArray.size_append]; omega
      have hz5 : (((⟨#[47]⟩ : ByteArray) ++ more).size : Int) ≤ 101 := by rw [ByteArray.size_append]; omega
      have HJ := hide (fun (W : World) (hs : Strs W.heap.size W A ss) => join_c A n c ss W HN.out hs hnc (by have := HZ.out.2.1; omega) (by omega))
      have HX := hide (show ∀ W, _ from fun W => split_y (pathOf ss) W (by omega) ps HQ.out)
      have HY := hide (fun W => split_y (pathOf ss ++ (⟨#[47]⟩ : ByteArray) ++ more) W (by omega) qs HR.out)
      have HZS := hide (And.intro hz1 (And.intro hz3 (And.intro hz4 hz5)))
      have HM := hide hm
      clear hz1 hz2 hz3 hz4 hz5 hm
      go_upto_region 15 with (first | (go_at_call 12; refine (HJ.out _ (HS1.out.more hsz1)).mono ?_; rintro e w2 ⟨rfl, hb2⟩; clear HJ; have HS2 := hide (HS1.out.below (hb2.mono hsz1) (Nat.le_refl _)); have hsz2 := hb2.size; rw [show bs (47 :: joinL (ss.map (·.data.toList))) = pathOf ss from rfl]) | (go_at_call 8; refine (HX.out _).mono ?_; rintro e w3 ⟨A3, c3, rfl, hc3, h3, hb3⟩; have HS3 := hide h3; clear HX h3; rw [HL.out]) | (go_at_call 9; refine (num_c _ _).mono ?_; rintro e w' ⟨rfl, rfl⟩))
      obtain ⟨hz1, hz3, hz4, hz5⟩ := HZS.out
      have hz2 : ((⟨#[47]⟩ : ByteArray).size : Int) = 1 := rfl
      go_upto_region 16 with (fail)
      clear hz1 hz2 hz3 hz4 hz5
      go_upto_region 25 with (first | (go_at_call 8; refine (HY.out _).mono ?_; rintro e w4 ⟨A4, c4, rfl, hc4, h4, hb4⟩; have HS4 := hide h4; clear HY h4) | (go_at_call 9; refine (num_c _ _).mono ?_; rintro e w' ⟨rfl, rfl⟩))
      have b4 := (((hb.trans (hb2.mono hsz1)).trans (hb3.mono (by omega))).trans (hb4.mono (by have := hb3.size; omega)))
      have HBB := hide b4
      have q3 := hb3.size
      have q4 := hb4.size
      clear b4
      go_wp2
      go_loopw [14] (fun i wr => ∃ k : Nat, k ≤ n ∧ i = .int .i64 k ∧ Below w4.heap.size w4 wr) (fun i _ => n - (intOf i).toNat)
      case atStart => exact ⟨0, by omega, rfl, Below.refl _ _⟩
      case round =>
        obtain ⟨k, hk, rfl, hbr⟩ := hrel
        have hszr := hbr.size
        by_cases hlt : k < n
        · obtain ⟨hss, hqs⟩ := HM2.out
          obtain ⟨r, hr1, hr2⟩ := hqs qs HR.out
          have hpl : ps.length = n := HL.out
          have hx : (ps.map bs).getD k ByteArray.empty = ss.getD k ByteArray.empty := by rw [hss]
          have hy : (qs.map bs).getD k ByteArray.empty = ss.getD k ByteArray.empty := by
            rw [hss, hr1, List.map_append, List.getD_eq_getElem?_getD, List.getD_eq_getElem?_getD, List.getElem?_append_left (by simp; omega)]
          have hql : ps.length < qs.length := by rw [hr1, List.length_append]; omega
          obtain ⟨b2, o2, hA2, l2, e2⟩ := (HS2.out.below (((hb3.mono hsz2).trans (hb4.mono (by omega))).trans (hbr.mono (by omega))) hsz1).at_ k (by rw [hss, List.length_map]; omega)
          obtain ⟨b3, o3, hA3, l3, e3⟩ := (HS3.out.below (hb4.trans (hbr.mono q4)) (Nat.le_refl _)).at_ k (by rw [List.length_map]; omega)
          obtain ⟨b4, o4, hA4, l4, e4⟩ := (HS4.out.below hbr (Nat.le_refl _)).at_ k (by rw [List.length_map]; omega)
          subst hA2
          subst hA3
          subst hA4
          rw [hx] at e3
          rw [hy] at e4
          have y1 : (k : Int) < (qs.length : Int) := by omega
          have y2 : (0 : Int) ≤ (k : Int) := by omega
          have y3 : (k : Int) < (n : Int) := by omega
          generalize ss.getD k ByteArray.empty = x at e2 e3 e4
          clear hx hy hss hqs hr1 hpl hql
          go_wp2
          go_quiet (fail)
          go_wp2
          go_roundw
          case rel => exact ⟨k + 1, by omega, by go_num, by first | exact hbr | exact below_drewN' hbr _⟩
          case measure => simp [intOf]; omega
        · have hkn : n = k := by omega
          subst hkn
          clear hlt hk
          have HJ2 := hide (join_s (pathOf ss ++ (⟨#[47]⟩ : ByteArray) ++ more) qs HR.out A4 qs.length c4 _ rfl (HS4.out.below hbr (Nat.le_refl _) |>.more hszr) hc4)
          go_wp2_with (go_at_call 12; refine HJ2.out.mono ?_; rintro e w6 ⟨rfl, hb6⟩)
          go_ret
          exact ⟨by first | rfl | simp, (HBB.out.trans (hbr.mono (by omega))).trans (hb6.mono (by omega))⟩

theorem PathParts_walk (w : World) (A : Option Addr) (n c : Nat) (ss : List ByteArray) (h1 : ss.length = n) (h2 : n ≤ c) (h3 : n ≤ maxLen) (h4 : ss ≠ [] → ∃ x, A = some x ∧ x.block < w.heap.size ∧ ∀ j, j < ss.length → w.cell? (x.add j) = some (.string (ss.getD j ByteArray.empty))) (more : ByteArray) (hs : more.size ≤ maxLen) :
    Calls Try.prog 6 #[.slice A n c, .string more] w fun e w' => e = .returned (.bool true) ∧ Below w.heap.size w w' := by
  by_cases a : (n : Int) ≤ 20 ∧ (more.size : Int) ≤ 100
  · cases hq : splitL (pathOf ss).data.toList with
    | none => exact PathParts_b1 w A n c more a.1 a.2 ss h1 h2 (strs_arg h4) hq
    | some ps =>
      by_cases hl : ps.length = n
      · rcases Nat.eq_zero_or_pos n with h0 | h0
        · subst h0
          by_cases hm : more.toList = []
          · have : more = ⟨#[]⟩ := by apply ba_ext; rw [← ByteArray.toList_eq]; exact hm
            subst this
            exact PathParts_c0 w A c (by omega) a.2 ss h1 h2 (strs_arg h4) ps hq hl
          · have hm' : (more.toList == ([] : List UInt8)) = false := by simpa using hm
            cases hr : splitL ((⟨#[47]⟩ : ByteArray) ++ more).data.toList with
            | none => exact PathParts_d0 w A c more (by omega) a.2 ss h1 h2 (strs_arg h4) ps hq hl hm' hr
            | some qs => exact PathParts_e0 w A c more (by omega) a.2 ss h1 h2 (strs_arg h4) ps hq hl hm' qs hr
        · cases hr : splitL (pathOf ss ++ (⟨#[47]⟩ : ByteArray) ++ more).data.toList with
          | none => exact PathParts_d1 w A n c more a.1 a.2 ss h1 h2 (strs_arg h4) ps hq hl h0 hr
          | some qs => exact PathParts_e1 w A n c more a.1 a.2 ss h1 h2 (strs_arg h4) ps hq hl h0 qs hr
      · exact PathParts_b2 w A n c more a.1 a.2 ss h1 h2 (strs_arg h4) ps hq hl
  · exact PathParts_long w A n c h3 more hs a
end Go.Proofs.Ytbmdaeeilnghiaa
