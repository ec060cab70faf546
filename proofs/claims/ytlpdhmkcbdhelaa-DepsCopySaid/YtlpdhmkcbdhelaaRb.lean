/-
  The document's own Bufs. Conditions: the rows are few.
-/
import Derived.Test.YtlpdhmkcbdhelaaPt
import Derived.Test.YtlpdhmkcbdhelaaT
namespace Go.Proofs.Ytlpdhmkcbdhelaa
set_option linter.unusedVariables false
set_option linter.unusedSimpArgs false
open Go.RowKit Go.Maps

def bufC (r : List Rc) (rdy : Bool) (k : Nat) : Bool := !(r.getD k zr).done && (mayR r k || !rdy)
def bufsL (r : List Rc) (rdy : Bool) : Nat → List Int
  | 0 => []
  | k + 1 => if bufC r rdy k = true then putL (bufsL r rdy k) (r.getD k zr).buf else bufsL r rdy k
theorem bufsL_yes {r : List Rc} {rdy : Bool} {k : Nat} (h : bufC r rdy k = true) : bufsL r rdy (k + 1) = putL (bufsL r rdy k) (r.getD k zr).buf := by
  show (if bufC r rdy k = true then _ else _) = _
  rw [if_pos h]
theorem bufsL_no {r : List Rc} {rdy : Bool} {k : Nat} (h : bufC r rdy k = false) : bufsL r rdy (k + 1) = bufsL r rdy k := by
  show (if bufC r rdy k = true then _ else _) = _
  rw [if_neg (by rw [h]; simp)]
theorem bufsL_len (r : List Rc) (rdy : Bool) (k : Nat) : (bufsL r rdy k).length ≤ k := by
  induction k with
  | zero => exact Nat.le_refl _
  | succ k ih =>
    cases h : bufC r rdy k with
    | true => rw [bufsL_yes h]; have := putL_len_le (bufsL r rdy k) (r.getD k zr).buf; omega
    | false => rw [bufsL_no h]; omega
theorem bufsL_rising (r : List Rc) (rdy : Bool) (k : Nat) : Rising (bufsL r rdy k) := by
  induction k with
  | zero => exact List.Pairwise.nil
  | succ k ih =>
    cases h : bufC r rdy k with
    | true => rw [bufsL_yes h]; exact putL_rising ih _
    | false => rw [bufsL_no h]; exact ih
theorem bufsL_mem {r : List Rc} {rdy : Bool} {x : Int} (k : Nat) : x ∈ bufsL r rdy k ↔ ∃ i, i < k ∧ bufC r rdy i = true ∧ (r.getD i zr).buf = x := by
  induction k with
  | zero => exact ⟨(fun h => by cases h), (fun ⟨i, h, _⟩ => by omega)⟩
  | succ k ih =>
    cases h : bufC r rdy k with
    | true =>
      rw [bufsL_yes h, putL_mem, ih]
      constructor
      · rintro (⟨i, h1, h2, h3⟩ | rfl)
        · exact ⟨i, by omega, h2, h3⟩
        · exact ⟨k, by omega, h, rfl⟩
      · rintro ⟨i, h1, h2, h3⟩
        by_cases e : i = k
        · subst e; exact .inr h3.symm
        · exact .inl ⟨i, by omega, h2, h3⟩
    | false =>
      rw [bufsL_no h, ih]
      constructor
      · rintro ⟨i, h1, h2, h3⟩
        exact ⟨i, by omega, h2, h3⟩
      · rintro ⟨i, h1, h2, h3⟩
        by_cases e : i = k
        · subst e; rw [h] at h2; cases h2
        · exact ⟨i, by omega, h2, h3⟩
theorem bufsL_bufs {r : List Rc} {xs : List Int} (h : bufsR r xs) : xs = bufsL r false r.length :=
  rising_ext h.1 (bufsL_rising _ _ _) fun x => by
    rw [h.2 x, bufsL_mem, List.any_eq_true]
    constructor
    · rintro ⟨i, hi, ho⟩
      rw [openAt_eq] at ho
      obtain ⟨h1, h2⟩ := Bool.and_eq_true_iff.1 ho
      exact ⟨i, List.mem_range.1 hi, by unfold bufC; rw [h1]; simp, of_decide_eq_true h2⟩
    · rintro ⟨i, hi, hc, hb⟩
      refine ⟨i, List.mem_range.2 hi, ?_⟩
      rw [openAt_eq, hb]
      unfold bufC at hc
      rw [(Bool.and_eq_true_iff.1 hc).1]; simp
theorem bufsL_ready {r : List Rc} {xs : List Int} (h : readyR r xs) : xs = bufsL r true r.length :=
  rising_ext h.1 (bufsL_rising _ _ _) fun x => by
    rw [h.2 x, bufsL_mem]
    constructor
    · intro hne
      obtain ⟨y, hy⟩ := List.exists_mem_of_ne_nil _ hne
      obtain ⟨i, rfl⟩ := Int.eq_ofNat_of_zero_le (nextR_range hy).1
      obtain ⟨h1, h2, h3⟩ := mem_nextR.1 hy
      rw [openAt_eq] at h2
      obtain ⟨h4, h5⟩ := Bool.and_eq_true_iff.1 h2
      exact ⟨i, h1, by unfold bufC mayR; rw [h3, h4]; rfl, of_decide_eq_true h5⟩
    · rintro ⟨i, hi, hc, hb⟩
      unfold bufC mayR at hc
      obtain ⟨h1, h2⟩ := Bool.and_eq_true_iff.1 hc
      have h3 : mayAt r i = true := by rw [h1] at h2; simpa using h2
      have hm : (i : Int) ∈ nextR r x := mem_nextR.2 ⟨hi, by rw [openAt_eq, h1, hb]; simp, h3⟩
      intro e; rw [e] at hm; cases hm
section
variable {n b : Nat} {w W : World} {F ps : List Atom} {r : List Rc}
set_option maxHeartbeats 4000000 in
theorem rbufs_c (hg : IsR b r ps) (hw : WfR r) (hs : Sm r) (ho : Own n w W (ps ++ F)) (rdy : Bool) :
    Calls Try.prog 27 #[.pointer (some ⟨b, 0, none⟩), .bool rdy] W fun e W' => ∃ v, e = .returned v ∧ Own n w W' (rowA 3 1 v (bufsL r rdy r.length).length (ints (bufsL r rdy r.length)) :: (ps ++ F)) := by
  have HG := hide hg
  have HW := hide hw
  have HS := hide hs
  have H0 := hide (ho.nilRow 3 1)
  have HP := hide (fun k : Nat => And.intro (bufsL_yes (r := r) (rdy := rdy) (k := k)) (And.intro (bufsL_no (r := r) (rdy := rdy) (k := k)) (bufsL_len r rdy k)))
  have HP0 := hide (show bufsL r rdy 0 = [] from rfl)
  have HBC := hide (fun k : Nat => show bufC r rdy k = (!(r.getD k zr).done && (mayR r k || !rdy)) from rfl)
  clear hg hw hs ho
  go_enter Try.func27, Try.ntmps27
  go_wp2
  go_loopw [6, 5] (fun i v wr => ∃ (k m : Nat) (A : Option Addr) (c : Nat), k ≤ r.length ∧ i = .int .i64 k ∧ v = .slice A m c ∧ Hid (m = (bufsL r rdy k).length) ∧ Hid (Own n w wr (rowA 3 1 (.slice A m c) m (ints (bufsL r rdy k)) :: (ps ++ F)))) (fun i _ _ => r.length - (intOf i).toNat)
  case atStart => exact ⟨0, 0, none, 0, by omega, rfl, rfl, hide (by rw [HP0.out]; rfl), hide (by rw [HP0.out]; exact H0.out)⟩
  case round =>
    obtain ⟨k, m, A, c, hk, rfl, rfl, HM, HO⟩ := hrel
    have hq : ∀ a ∈ ps, a.Q wr := fun a ha => HO.out.tail.hold a (List.mem_append_left _ ha)
    clear H0
    by_cases hlt : k < r.length
    · obtain ⟨gl0, c0, von0, x0, -, -, -, -⟩ := HG.out.cellAt hq hlt
      have o1 : (0 : Int) ≤ (k : Int) := by omega
      have o2 : (k : Int) < (r.length : Int) := by omega
      have HC := hide (rmay_c HG.out HW.out HS.out HO.out.back k hlt)
      obtain ⟨h1, h2, h3⟩ := HP.out k
      have h4 := HBC.out k
      have hml : m < 274877906944 := by have := HM.out; have := HS.out.len; omega
      have HML := hide hml
      clear hq hml
      have hlen := HS.out.len
      obtain ⟨bk, hbk⟩ : ∃ bk, (r.getD k zr).buf = bk := ⟨_, rfl⟩
      rw [hbk] at h1
      have HBK := hide hbk
      clear hbk
      have HPUT := hide (fun (W3 : World) (h : Own n w W3 (rowA 3 1 (.slice A m c) m (ints (bufsL r rdy k)) :: (ps ++ F))) => put_c (l := bufsL r rdy k) (v := .slice A m c) (by rw [← HM.out]; exact h) (by rw [← HM.out]; exact HML.out) bk)
      cases hd : (r.getD k zr).done with
      | true =>
        have HD := hide hd
        rw [hd] at h4
        have HE := hide (h2 (by rw [h4]; rfl))
        generalize mayR r k = md at HC h4
        clear h1 h2 h3 h4 hd
        go_wp2_with (go_at_call 40; refine HC.out.mono ?_; rintro e W3 ⟨rfl, h3⟩; have H3 := hide h3.front; clear h3; obtain ⟨gl, c', von, y0, y1, -, y3, -⟩ := HG.out.cellAt (fun a ha => H3.out.tail.hold a (List.mem_append_left _ ha)) hlt; rw [HBK.out] at y1; rw [HD.out] at y3)
        go_roundw
        case rel => exact ⟨k + 1, m, A, c, by omega, by go_num, rfl, hide (by rw [HE.out, HM.out]), hide (by rw [HE.out]; exact H3.out)⟩
        case measure => simp [intOf]; omega
      | false =>
        have HD := hide hd
        rw [hd] at h4
        cases hm : mayR r k with
        | true =>
          rw [hm] at h4 HC
          have HE := hide (h1 (by rw [h4]; rfl))
          clear h1 h2 h3 h4 hd hm
          go_wp2_with (first
            | (go_at_call 40; refine HC.out.mono ?_; rintro e W3 ⟨rfl, h3⟩; have H3 := hide h3.front; clear h3; obtain ⟨gl, c', von, y0, y1, -, y3, -⟩ := HG.out.cellAt (fun a ha => H3.out.tail.hold a (List.mem_append_left _ ha)) hlt; rw [HBK.out] at y1; rw [HD.out] at y3)
            | (go_at_call 41; refine (HPUT.out W3 H3.out).mono ?_; rintro e W4 ⟨v', rfl, h4⟩; obtain ⟨A6, c6, rfl⟩ := own_slice h4.row; have H4 := hide h4; clear h4))
          go_roundw
          case rel => exact ⟨k + 1, _, A6, c6, by omega, by go_num, rfl, hide (by rw [HE.out]), hide (by rw [HE.out]; exact H4.out)⟩
          case measure => simp [intOf]; omega
        | false =>
          rw [hm] at h4 HC
          cases rdy with
          | false =>
            have HE := hide (h1 (by rw [h4]; rfl))
            clear h1 h2 h3 h4 hd hm
            go_wp2_with (first
              | (go_at_call 40; refine HC.out.mono ?_; rintro e W3 ⟨rfl, h3⟩; have H3 := hide h3.front; clear h3; obtain ⟨gl, c', von, y0, y1, -, y3, -⟩ := HG.out.cellAt (fun a ha => H3.out.tail.hold a (List.mem_append_left _ ha)) hlt; rw [HBK.out] at y1; rw [HD.out] at y3)
              | (go_at_call 41; refine (HPUT.out W3 H3.out).mono ?_; rintro e W4 ⟨v', rfl, h4⟩; obtain ⟨A6, c6, rfl⟩ := own_slice h4.row; have H4 := hide h4; clear h4))
            go_roundw
            case rel => exact ⟨k + 1, _, A6, c6, by omega, by go_num, rfl, hide (by rw [HE.out]), hide (by rw [HE.out]; exact H4.out)⟩
            case measure => simp [intOf]; omega
          | true =>
            have HE := hide (h2 (by rw [h4]; rfl))
            clear h1 h2 h3 h4 hd hm
            go_wp2_with (go_at_call 40; refine HC.out.mono ?_; rintro e W3 ⟨rfl, h3⟩; have H3 := hide h3.front; clear h3; obtain ⟨gl, c', von, y0, y1, -, y3, -⟩ := HG.out.cellAt (fun a ha => H3.out.tail.hold a (List.mem_append_left _ ha)) hlt; rw [HBK.out] at y1; rw [HD.out] at y3)
            go_roundw
            case rel => exact ⟨k + 1, m, A, c, by omega, by go_num, rfl, hide (by rw [HE.out, HM.out]), hide (by rw [HE.out]; exact H3.out)⟩
            case measure => simp [intOf]; omega
    · obtain rfl : k = r.length := by omega
      obtain ⟨A1, c1, x0⟩ := HG.out.slice hq
      have o3 : ¬ (r.length : Int) < (r.length : Int) := by omega
      go_wp2
      go_ret
      exact ⟨_, rfl, by rw [← HM.out]; exact HO.out⟩
end
end Go.Proofs.Ytlpdhmkcbdhelaa
