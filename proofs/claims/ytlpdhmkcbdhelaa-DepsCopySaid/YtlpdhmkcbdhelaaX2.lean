/-
  The document's own Left, Next and Blocked. Conditions: the rows are few.
-/
import Derived.Test.YtlpdhmkcbdhelaaX1
import Derived.Test.YtlpdhmkcbdhelaaCl
namespace Go.Proofs.Ytlpdhmkcbdhelaa
set_option linter.unusedVariables false
set_option linter.unusedSimpArgs false
open Go.RowKit Go.Maps

def prefR (p : Nat → Bool) (k : Nat) : List Int := castL ((List.range k).filter p)
theorem prefR_yes {p : Nat → Bool} {k : Nat} (h : p k = true) : prefR p (k + 1) = prefR p k ++ [(k : Int)] := by
  unfold prefR castL; rw [List.range_succ, List.filter_append, List.map_append]; simp [h]
theorem prefR_no {p : Nat → Bool} {k : Nat} (h : p k = false) : prefR p (k + 1) = prefR p k := by
  unfold prefR castL; rw [List.range_succ, List.filter_append, List.map_append]; simp [h]
theorem prefR_len (p : Nat → Bool) (k : Nat) : (prefR p k).length ≤ k := by
  unfold prefR castL; rw [List.length_map]; exact Nat.le_trans (List.length_filter_le _ _) (by simp)
theorem openAt_eq {r : List Rc} {b : Int} {i : Nat} : openAt r b i = (!(r.getD i zr).done && decide ((r.getD i zr).buf = b)) := rfl
section
variable {n b : Nat} {w W : World} {F ps : List Atom} {r : List Rc}
def leftN (r : List Rc) (k : Nat) : Nat := ((List.range k).filter (fun i => !(r.getD i zr).done)).length
theorem leftN_succ (r : List Rc) (k : Nat) : leftN r (k + 1) = leftN r k + if (r.getD k zr).done = true then 0 else 1 := by
  unfold leftN
  rw [List.range_succ, List.filter_append, List.length_append]
  cases h : (r.getD k zr).done <;> simp [h, ← List.getD_eq_getElem?_getD]
theorem leftN_le (r : List Rc) (k : Nat) : leftN r k ≤ k := Nat.le_trans (List.length_filter_le _ _) (by simp)
theorem rleft_c (hg : IsR b r ps) (hs : Sm r) (hq : ∀ a ∈ ps, a.Q W) : Calls Try.prog 21 #[.pointer (some ⟨b, 0, none⟩)] W fun e W' => e = .returned (.int .i64 (Of r).opn) ∧ W = W' := by
  show Calls Try.prog 21 #[.pointer (some ⟨b, 0, none⟩)] W fun e W' => e = .returned (.int .i64 (leftN r r.length : Int)) ∧ W = W'
  obtain ⟨A, c, x0⟩ := hg.slice hq
  have HC := hide (fun (k : Nat) (hk : k < r.length) => hg.cellAt (W := W) hq hk)
  have hlen := hs.len
  have HL := hide hlen
  clear hg hs hq hlen
  go_enter Try.func21, Try.ntmps21
  go_wp2
  go_loop [4, 3] (fun i v => ∃ k m : Nat, k ≤ r.length ∧ m ≤ k ∧ i = .int .i64 k ∧ v = .int .i64 m ∧ Hid (m = leftN r k)) (fun i _ => r.length - (intOf i).toNat)
  case atStart => exact ⟨0, 0, by omega, by omega, rfl, rfl, hide rfl⟩
  case round =>
    obtain ⟨k, m, hk, hmk, rfl, rfl, HM⟩ := hrel
    have hlen := HL.out
    by_cases hlt : k < r.length
    · obtain ⟨gl, c', von, x0', -, -, x3, -⟩ := HC.out k hlt
      obtain ⟨rfl, rfl⟩ : A = some ⟨gl, 0, none⟩ ∧ c = c' := by rw [x0] at x0'; injection x0' with h; injection h with h1 h2 h3; exact ⟨h1, h3⟩
      clear x0'
      have o1 : (0 : Int) ≤ (k : Int) := by omega
      have o2 : (k : Int) < (r.length : Int) := by omega
      have HS := hide (leftN_succ r k)
      cases hd : (r.getD k zr).done with
      | true =>
        rw [hd] at x3 HS
        clear hd
        go_wp2
        go_round
        case rel => exact ⟨k + 1, m, by omega, by omega, by go_num, rfl, hide (by rw [HS.out, HM.out]; rfl)⟩
        case measure => simp [intOf]; omega
      | false =>
        rw [hd] at x3 HS
        clear hd
        go_wp2
        go_round
        case rel => exact ⟨k + 1, m + 1, by omega, by omega, by go_num, by go_num, hide (by rw [HS.out, HM.out]; rfl)⟩
        case measure => simp [intOf]; omega
    · obtain rfl : k = r.length := by omega
      have o3 : ¬ (r.length : Int) < (r.length : Int) := by omega
      go_wp2
      go_ret
      exact ⟨by first | rfl | (rw [HM.out]; rfl), rfl⟩
set_option maxHeartbeats 4000000 in
theorem rnext_c (hg : IsR b r ps) (hw : WfR r) (hs : Sm r) (ho : Own n w W (ps ++ F)) (buf : Int) :
    Calls Try.prog 25 #[.pointer (some ⟨b, 0, none⟩), .int .i64 buf] W fun e W' => ∃ v, e = .returned v ∧ Own n w W' (rowA 3 1 v (nextR r buf).length (ints (nextR r buf)) :: (ps ++ F)) := by
  obtain ⟨p, hp⟩ : ∃ p : Nat → Bool, ∀ k, p k = (decide ((r.getD k zr).buf = buf) && mayR r k) := ⟨_, fun _ => rfl⟩
  have hpe : nextR r buf = prefR p r.length := by
    unfold nextR prefR
    congr 1
    refine List.filter_congr fun j _ => ?_
    rw [openAt_eq, hp]
    unfold mayR
    cases (r.getD j zr).done <;> cases mayAt r j <;> cases decide ((r.getD j zr).buf = buf) <;> rfl
  rw [hpe]
  have HG := hide hg
  have HW := hide hw
  have HS := hide hs
  have H0 := hide (ho.nilRow 3 1)
  have HP := hide (fun k : Nat => And.intro (prefR_yes (p := p) (k := k)) (And.intro (prefR_no (p := p) (k := k)) (prefR_len p k)))
  have HP0 := hide (show prefR p 0 = [] from rfl)
  have HPK := hide hp
  clear hp
  clear hpe hg hw hs ho
  go_enter Try.func25, Try.ntmps25
  go_wp2
  go_loopw [6, 5] (fun i v wr => ∃ (k m : Nat) (A : Option Addr) (c : Nat), k ≤ r.length ∧ i = .int .i64 k ∧ v = .slice A m c ∧ Hid (m = (prefR p k).length) ∧ Hid (Own n w wr (rowA 3 1 (.slice A m c) m (ints (prefR p k)) :: (ps ++ F)))) (fun i _ _ => r.length - (intOf i).toNat)
  case atStart => exact ⟨0, 0, none, 0, by omega, rfl, rfl, hide (by rw [HP0.out]; rfl), hide (by rw [HP0.out]; exact H0.out)⟩
  case round =>
    obtain ⟨k, m, A, c, hk, rfl, rfl, HM, HO⟩ := hrel
    have hq : ∀ a ∈ ps, a.Q wr := fun a ha => HO.out.tail.hold a (List.mem_append_left _ ha)
    clear H0
    by_cases hlt : k < r.length
    · obtain ⟨gl, c', von, x0, x1, -, -, -⟩ := HG.out.cellAt hq hlt
      have HQ := hide hq
      have o1 : (0 : Int) ≤ (k : Int) := by omega
      have o2 : (k : Int) < (r.length : Int) := by omega
      have HC := hide (rmay_c HG.out HW.out HS.out HO.out.back k hlt)
      obtain ⟨h1, h2, h3⟩ := HP.out k
      have h4 := HPK.out k
      have hml : m < 274877906944 := by have := HM.out; have := HS.out.len; omega
      have HML := hide hml
      clear hq hml
      have hlen := HS.out.len
      generalize (r.getD k zr).buf = bk at x1 h4
      by_cases hb : bk = buf
      · obtain ⟨m0, m1⟩ := int_eqb hb
        rw [decide_eq_true hb, Bool.true_and] at h4
        cases hm : mayR r k with
        | true =>
          have HE := hide (h1 (h4.trans hm))
          rw [hm] at HC
          clear h1 h2 h3 h4 hb hm
          go_wp2_with (first
            | (go_at_call 40; refine HC.out.mono ?_; rintro e W3 ⟨rfl, h3⟩; have H3 := hide h3.front; clear h3)
            | (at_builtin; go_must (obtain ⟨i0, hi, hz0, hz1, hz2⟩ := info_parts info3; refine wpList_append_own_at _ rfl _ _ 25 rfl n 3 i0 (.int .i64 0) 1 8 Try.underlying25 hi hz0 hz1 hz2 rfl (by decide) _ _ _ rfl (H3.out.row.alloc _) ⟨W3.heap.size, 0, none⟩ 1 1 [.int .i64 k] rfl rfl (cell_one_new _ _ _) (by simp [Value.oneCell']) (by have := HML.out; unfold maxLen; omega) (by have := HML.out; omega) (by have := H3.out.sz; simp; omega) ?_); intro v' w4 hown' hgrow _ hat; obtain ⟨A6, c6, rfl⟩ := own_slice hown'; have H4 := hide ((H3.out.alloc _).growRow hown' hgrow hat); clear hown' hgrow hat))
          go_roundw
          case rel => exact ⟨k + 1, m + 1, A6, c6, by omega, by go_num, rfl, hide (by rw [HE.out, HM.out, List.length_append]; rfl), hide (by rw [HE.out]; have := H4.out; rw [show ints (prefR p k) ++ [Value.int .i64 (k : Int)] = ints (prefR p k ++ [(k : Int)]) from by simp [ints]] at this; exact this)⟩
          case measure => simp [intOf]; omega
        | false =>
          have HE := hide (h2 (h4.trans hm))
          rw [hm] at HC
          clear h1 h2 h3 h4 hb hm
          go_wp2_with (go_at_call 40; refine HC.out.mono ?_; rintro e W3 ⟨rfl, h3⟩; have H3 := hide h3.front; clear h3)
          go_roundw
          case rel => exact ⟨k + 1, m, A, c, by omega, by go_num, rfl, hide (by rw [HE.out, HM.out]), hide (by rw [HE.out]; exact H3.out)⟩
          case measure => simp [intOf]; omega
      · obtain ⟨m0, m1⟩ := int_neb hb
        rw [decide_eq_false hb, Bool.false_and] at h4
        have HE := hide (h2 h4)
        clear h1 h2 h3 h4 hb
        go_wp2
        go_roundw
        case rel => exact ⟨k + 1, m, A, c, by omega, by go_num, rfl, hide (by rw [HE.out, HM.out]), hide (by rw [HE.out]; exact HO.out)⟩
        case measure => simp [intOf]; omega
    · obtain rfl : k = r.length := by omega
      obtain ⟨A1, c1, x0⟩ := HG.out.slice hq
      have o3 : ¬ (r.length : Int) < (r.length : Int) := by omega
      go_wp2
      go_ret
      exact ⟨_, rfl, by rw [← HM.out]; exact HO.out⟩
set_option maxHeartbeats 4000000 in
theorem rblocked_c (hg : IsR b r ps) (hw : WfR r) (hs : Sm r) (ho : Own n w W (ps ++ F)) (buf : Int) :
    Calls Try.prog 26 #[.pointer (some ⟨b, 0, none⟩), .int .i64 buf] W fun e W' => ∃ v, e = .returned v ∧ Own n w W' (rowA 3 1 v (blockedR r buf).length (ints (blockedR r buf)) :: (ps ++ F)) := by
  obtain ⟨p, hp⟩ : ∃ p : Nat → Bool, ∀ k, p k = (decide ((r.getD k zr).buf = buf) && (!(r.getD k zr).done && !mayR r k)) := ⟨_, fun _ => rfl⟩
  have hpe : blockedR r buf = prefR p r.length := by
    unfold blockedR prefR
    congr 1
    refine List.filter_congr fun j _ => ?_
    rw [openAt_eq, hp]
    unfold mayR
    cases (r.getD j zr).done <;> cases mayAt r j <;> cases decide ((r.getD j zr).buf = buf) <;> rfl
  rw [hpe]
  have HG := hide hg
  have HW := hide hw
  have HS := hide hs
  have H0 := hide (ho.nilRow 3 1)
  have HP := hide (fun k : Nat => And.intro (prefR_yes (p := p) (k := k)) (And.intro (prefR_no (p := p) (k := k)) (prefR_len p k)))
  have HP0 := hide (show prefR p 0 = [] from rfl)
  have HPK := hide hp
  clear hp
  clear hpe hg hw hs ho
  go_enter Try.func26, Try.ntmps26
  go_wp2
  go_loopw [6, 5] (fun i v wr => ∃ (k m : Nat) (A : Option Addr) (c : Nat), k ≤ r.length ∧ i = .int .i64 k ∧ v = .slice A m c ∧ Hid (m = (prefR p k).length) ∧ Hid (Own n w wr (rowA 3 1 (.slice A m c) m (ints (prefR p k)) :: (ps ++ F)))) (fun i _ _ => r.length - (intOf i).toNat)
  case atStart => exact ⟨0, 0, none, 0, by omega, rfl, rfl, hide (by rw [HP0.out]; rfl), hide (by rw [HP0.out]; exact H0.out)⟩
  case round =>
    obtain ⟨k, m, A, c, hk, rfl, rfl, HM, HO⟩ := hrel
    have hq : ∀ a ∈ ps, a.Q wr := fun a ha => HO.out.tail.hold a (List.mem_append_left _ ha)
    clear H0
    by_cases hlt : k < r.length
    · obtain ⟨gl0, c0, von0, x0, -, -, -, -⟩ := HG.out.cellAt hq hlt
      have o1 : (0 : Int) ≤ (k : Int) := by omega
      have o2 : (k : Int) < (r.length : Int) := by omega
      have HC := hide (rmay_c HG.out HW.out HS.out HO.out.back k hlt)
      obtain ⟨h1, h2, h3⟩ := HP.out k
      have h4 := HPK.out k
      have hml : m < 274877906944 := by have := HM.out; have := HS.out.len; omega
      have HML := hide hml
      clear hq hml
      have hlen := HS.out.len
      obtain ⟨bk, hbk⟩ : ∃ bk, (r.getD k zr).buf = bk := ⟨_, rfl⟩
      rw [hbk] at h4
      have HBK := hide hbk
      clear hbk
      by_cases hpk : p k = true
      · have HE := hide (h1 hpk)
        rw [hpk] at h4
        obtain ⟨hb, hdm⟩ := Bool.and_eq_true_iff.1 h4.symm
        obtain ⟨hd, hm⟩ := Bool.and_eq_true_iff.1 hdm
        have hb := of_decide_eq_true hb
        have hd : (r.getD k zr).done = false := by simpa using hd
        have hm : mayR r k = false := by simpa using hm
        obtain ⟨m0, m1⟩ := int_eqb hb
        have HD := hide hd
        rw [hm] at HC
        clear h1 h2 h3 h4 hpk hdm hb hd hm
        go_wp2_with (first
          | (go_at_call 40; refine HC.out.mono ?_; rintro e W3 ⟨rfl, h3⟩; have H3 := hide h3.front; clear h3; obtain ⟨gl, c', von, y0, y1, -, y3, -⟩ := HG.out.cellAt (fun a ha => H3.out.tail.hold a (List.mem_append_left _ ha)) hlt; rw [HBK.out] at y1; rw [HD.out] at y3)
          | (at_builtin; go_must (obtain ⟨i0, hi, hz0, hz1, hz2⟩ := info_parts info3; refine wpList_append_own_at _ rfl _ _ 25 rfl n 3 i0 (.int .i64 0) 1 8 Try.underlying25 hi hz0 hz1 hz2 rfl (by decide) _ _ _ rfl (H3.out.row.alloc _) ⟨W3.heap.size, 0, none⟩ 1 1 [.int .i64 k] rfl rfl (cell_one_new _ _ _) (by simp [Value.oneCell']) (by have := HML.out; unfold maxLen; omega) (by have := HML.out; omega) (by have := H3.out.sz; simp; omega) ?_); intro v' w4 hown' hgrow _ hat; obtain ⟨A6, c6, rfl⟩ := own_slice hown'; have H4 := hide ((H3.out.alloc _).growRow hown' hgrow hat); clear hown' hgrow hat))
        go_roundw
        case rel => exact ⟨k + 1, m + 1, A6, c6, by omega, by go_num, rfl, hide (by rw [HE.out, HM.out, List.length_append]; rfl), hide (by rw [HE.out]; have := H4.out; rw [show ints (prefR p k) ++ [Value.int .i64 (k : Int)] = ints (prefR p k ++ [(k : Int)]) from by simp [ints]] at this; exact this)⟩
        case measure => simp [intOf]; omega
      · have hpf : p k = false := by simpa using hpk
        have HE := hide (h2 hpf)
        rw [hpf] at h4
        clear h1 h2 h3 hpk hpf
        by_cases hb : bk = buf
        · obtain ⟨m0, m1⟩ := int_eqb hb
          rw [decide_eq_true hb, Bool.true_and] at h4
          have HB := hide hb
          clear hb
          cases hd : (r.getD k zr).done with
          | true =>
            have HD := hide hd
            clear h4 hd
            generalize mayR r k = md at HC
            go_wp2_with (go_at_call 40; refine HC.out.mono ?_; rintro e W3 ⟨rfl, h3⟩; have H3 := hide h3.front; clear h3; obtain ⟨gl, c', von, y0, y1, -, y3, -⟩ := HG.out.cellAt (fun a ha => H3.out.tail.hold a (List.mem_append_left _ ha)) hlt; rw [HBK.out] at y1; rw [HD.out] at y3)
            go_roundw
            case rel => exact ⟨k + 1, m, A, c, by omega, by go_num, rfl, hide (by rw [HE.out, HM.out]), hide (by rw [HE.out]; exact H3.out)⟩
            case measure => simp [intOf]; omega
          | false =>
            have HD := hide hd
            rw [hd] at h4
            have hm : mayR r k = true := by simpa using h4.symm
            rw [hm] at HC
            clear h4 hd hm
            go_wp2_with (go_at_call 40; refine HC.out.mono ?_; rintro e W3 ⟨rfl, h3⟩; have H3 := hide h3.front; clear h3; obtain ⟨gl, c', von, y0, y1, -, y3, -⟩ := HG.out.cellAt (fun a ha => H3.out.tail.hold a (List.mem_append_left _ ha)) hlt; rw [HBK.out] at y1; rw [HD.out] at y3)
            go_roundw
            case rel => exact ⟨k + 1, m, A, c, by omega, by go_num, rfl, hide (by rw [HE.out, HM.out]), hide (by rw [HE.out]; exact H3.out)⟩
            case measure => simp [intOf]; omega
        · obtain ⟨m0, m1⟩ := int_neb hb
          clear h4 hb
          generalize mayR r k = md at HC
          go_wp2_with (go_at_call 40; refine HC.out.mono ?_; rintro e W3 ⟨rfl, h3⟩; have H3 := hide h3.front; clear h3; obtain ⟨gl, c', von, y0, y1, -, y3, -⟩ := HG.out.cellAt (fun a ha => H3.out.tail.hold a (List.mem_append_left _ ha)) hlt; rw [HBK.out] at y1)
          go_roundw
          case rel => exact ⟨k + 1, m, A, c, by omega, by go_num, rfl, hide (by rw [HE.out, HM.out]), hide (by rw [HE.out]; exact H3.out)⟩
          case measure => simp [intOf]; omega
    · obtain rfl : k = r.length := by omega
      obtain ⟨A1, c1, x0⟩ := HG.out.slice hq
      have o3 : ¬ (r.length : Int) < (r.length : Int) := by omega
      go_wp2
      go_ret
      exact ⟨_, rfl, by rw [← HM.out]; exact HO.out⟩
end
end Go.Proofs.Ytlpdhmkcbdhelaa
