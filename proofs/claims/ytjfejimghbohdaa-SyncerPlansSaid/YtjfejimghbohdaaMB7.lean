/-
  The document's own Bufs. Conditions: the rows are few.
  The contracts of deps.May, Buf and Len, over the rows; of slices.Min.
  Which changes are needed for some: reached through what is not done. Plain words.
  While something is left something is ready: plain words.
  What is planned, over the rows: plain words.
  Opening of an argument that reads: what 'trod' met, as a kind of the printed words. General words: whole numbers, strings, slices.
  Big: are calls too many? No condition.
  The document's example: alive. No condition.
  Both: both graphs of a row of calls. Conditions: the calls are few.
-/
import Derived.Test.YtjfejimghbohdaaMB6
import Derived.WalkLawsBesides
import Derived.SizedLaws
import Derived.SliceStrings
import Derived.WalkKit
import Derived.ProofKit
import Derived.OpenShut
import Derived.DataElems
namespace Go.Proofs.Ytjfejimghbohdaa
set_option linter.unusedVariables false
set_option linter.unusedSimpArgs false
open Go.RowKit Go.Maps

def bufC (r : List Rc) (rdy : Bool) (k : Nat) : Bool := !(r.getD k zr).done && (mayR r k || !rdy)
def bufsL (r : List Rc) (rdy : Bool) : Nat → List Int
  | 0 => []
  | k + 1 => if bufC r rdy k = true then putL (bufsL r rdy k) (r.getD k zr).buf else bufsL r rdy k
theorem bufsL_yes {r : List Rc} {rdy : Bool} {k : Nat} (h : bufC r rdy k = true) : bufsL r rdy (k + 1) = putL (bufsL r rdy k) (r.getD k zr).buf := by
  show (if bufC r rdy k = true then _ else _) = _
  rw [if_pos h]
theorem bufsL_no {r : List Rc} {rdy : Bool} {k : Nat} (h : bufC r rdy k = false) : bufsL r rdy (k + 1) = bufsL r rdy k := by
  show (if bufC r rdy k = true then _ else _) = _
  rw [if_neg (by rw [h]; simp)]
theorem bufsL_len (r : List Rc) (rdy : Bool) (k : Nat) : (bufsL r rdy k).length ≤ k := by
  induction k with
  | zero => exact Nat.le_refl _
  | succ k ih =>
    cases h : bufC r rdy k with
    | true => rw [bufsL_yes h]; have := putL_len_le (bufsL r rdy k) (r.getD k zr).buf; omega
    | false => rw [bufsL_no h]; omega
theorem bufsL_rising (r : List Rc) (rdy : Bool) (k : Nat) : Rising (bufsL r rdy k) := by
  induction k with
  | zero => exact List.Pairwise.nil
  | succ k ih =>
    cases h : bufC r rdy k with
    | true => rw [bufsL_yes h]; exact putL_rising ih _
    | false => rw [bufsL_no h]; exact ih
theorem bufsL_mem {r : List Rc} {rdy : Bool} {x : Int} (k : Nat) : x ∈ bufsL r rdy k ↔ ∃ i, i < k ∧ bufC r rdy i = true ∧ (r.getD i zr).buf = x := by
  induction k with
  | zero => exact ⟨(fun h => by cases h), (fun ⟨i, h, _⟩ => by omega)⟩
  | succ k ih =>
    cases h : bufC r rdy k with
    | true =>
      rw [bufsL_yes h, putL_mem, ih]
      constructor
      · rintro (⟨i, h1, h2, h3⟩ | rfl)
        · exact ⟨i, by omega, h2, h3⟩
        · exact ⟨k, by omega, h, rfl⟩
      · rintro ⟨i, h1, h2, h3⟩
        by_cases e : i = k
        · subst e; exact .inr h3.symm
        · exact .inl ⟨i, by omega, h2, h3⟩
    | false =>
      rw [bufsL_no h, ih]
      constructor
      · rintro ⟨i, h1, h2, h3⟩
        exact ⟨i, by omega, h2, h3⟩
      · rintro ⟨i, h1, h2, h3⟩
        by_cases e : i = k
        · subst e; rw [h] at h2; cases h2
        · exact ⟨i, by omega, h2, h3⟩
theorem bufsL_bufs {r : List Rc} {xs : List Int} (h : bufsR r xs) : xs = bufsL r false r.length :=
  rising_ext h.1 (bufsL_rising _ _ _) fun x => by
    rw [h.2 x, bufsL_mem, List.any_eq_true]
    constructor
    · rintro ⟨i, hi, ho⟩
      rw [openAt_eq] at ho
      obtain ⟨h1, h2⟩ := Bool.and_eq_true_iff.1 ho
      exact ⟨i, List.mem_range.1 hi, by unfold bufC; rw [h1]; simp, of_decide_eq_true h2⟩
    · rintro ⟨i, hi, hc, hb⟩
      refine ⟨i, List.mem_range.2 hi, ?_⟩
      rw [openAt_eq, hb]
      unfold bufC at hc
      rw [(Bool.and_eq_true_iff.1 hc).1]; simp
theorem bufsL_ready {r : List Rc} {xs : List Int} (h : readyR r xs) : xs = bufsL r true r.length :=
  rising_ext h.1 (bufsL_rising _ _ _) fun x => by
    rw [h.2 x, bufsL_mem]
    constructor
    · intro hne
      obtain ⟨y, hy⟩ := List.exists_mem_of_ne_nil _ hne
      obtain ⟨i, rfl⟩ := Int.eq_ofNat_of_zero_le (nextR_range hy).1
      obtain ⟨h1, h2, h3⟩ := mem_nextR.1 hy
      rw [openAt_eq] at h2
      obtain ⟨h4, h5⟩ := Bool.and_eq_true_iff.1 h2
      exact ⟨i, h1, by unfold bufC mayR; rw [h3, h4]; rfl, of_decide_eq_true h5⟩
    · rintro ⟨i, hi, hc, hb⟩
      unfold bufC mayR at hc
      obtain ⟨h1, h2⟩ := Bool.and_eq_true_iff.1 hc
      have h3 : mayAt r i = true := by rw [h1] at h2; simpa using h2
      have hm : (i : Int) ∈ nextR r x := mem_nextR.2 ⟨hi, by rw [openAt_eq, h1, hb]; simp, h3⟩
      intro e; rw [e] at hm; cases hm
section
variable {n b : Nat} {w W : World} {F ps : List Atom} {r : List Rc}
set_option maxHeartbeats 4000000 in
theorem rbufs_c (hg : IsR b r ps) (hw : WfR r) (hs : Sm r) (ho : Own n w W (ps ++ F)) (rdy : Bool) :
    Calls Try.prog 24 #[.pointer (some ⟨b, 0, none⟩), .bool rdy] W fun e W' => ∃ v, e = .returned v ∧ Own n w W' (rowA 3 1 v (bufsL r rdy r.length).length (ints (bufsL r rdy r.length)) :: (ps ++ F)) := by
  have HG := hide hg
  have HW := hide hw
  have HS := hide hs
  have H0 := hide (ho.nilRow 3 1)
  have HP := hide (fun k : Nat => And.intro (bufsL_yes (r := r) (rdy := rdy) (k := k)) (And.intro (bufsL_no (r := r) (rdy := rdy) (k := k)) (bufsL_len r rdy k)))
  have HP0 := hide (show bufsL r rdy 0 = [] from rfl)
  have HBC := hide (fun k : Nat => show bufC r rdy k = (!(r.getD k zr).done && (mayR r k || !rdy)) from rfl)
  clear hg hw hs ho
  go_enter Try.func24, Try.ntmps24
  go_wp2
  go_loopw [6, 5] (fun i v wr => ∃ (k m : Nat) (A : Option Addr) (c : Nat), k ≤ r.length ∧ i = .int .i64 k ∧ v = .slice A m c ∧ Hid (m = (bufsL r rdy k).length) ∧ Hid (Own n w wr (rowA 3 1 (.slice A m c) m (ints (bufsL r rdy k)) :: (ps ++ F)))) (fun i _ _ => r.length - (intOf i).toNat)
  case atStart => exact ⟨0, 0, none, 0, by omega, rfl, rfl, hide (by rw [HP0.out]; rfl), hide (by rw [HP0.out]; exact H0.out)⟩
  case round =>
    obtain ⟨k, m, A, c, hk, rfl, rfl, HM, HO⟩ := hrel
    have hq : ∀ a ∈ ps, a.Q wr := fun a ha => HO.out.tail.hold a (List.mem_append_left _ ha)
    clear H0
    by_cases hlt : k < r.length
    · obtain ⟨gl0, c0, von0, x0, -, -, -, -⟩ := HG.out.cellAt hq hlt
      have o1 : (0 : Int) ≤ (k : Int) := by omega
      have o2 : (k : Int) < (r.length : Int) := by omega
      have HC := hide (rmay_c HG.out HW.out HS.out HO.out.back k hlt)
      obtain ⟨h1, h2, h3⟩ := HP.out k
      have h4 := HBC.out k
      have hml : m < 274877906944 := by have := HM.out; have := HS.out.len; omega
      have HML := hide hml
      clear hq hml
      have hlen := HS.out.len
      obtain ⟨bk, hbk⟩ : ∃ bk, (r.getD k zr).buf = bk := ⟨_, rfl⟩
      rw [hbk] at h1
      have HBK := hide hbk
      clear hbk
      have HPUT := hide (fun (W3 : World) (h : Own n w W3 (rowA 3 1 (.slice A m c) m (ints (bufsL r rdy k)) :: (ps ++ F))) => put_c (l := bufsL r rdy k) (v := .slice A m c) (by rw [← HM.out]; exact h) (by rw [← HM.out]; exact HML.out) bk)
      cases hd : (r.getD k zr).done with
      | true =>
        have HD := hide hd
        rw [hd] at h4
        have HE := hide (h2 (by rw [h4]; rfl))
        generalize mayR r k = md at HC h4
        clear h1 h2 h3 h4 hd
        go_wp2_with (go_at_call 38; refine HC.out.mono ?_; rintro e W3 ⟨rfl, h3⟩; have H3 := hide h3.front; clear h3; obtain ⟨gl, c', von, y0, y1, -, y3, -⟩ := HG.out.cellAt (fun a ha => H3.out.tail.hold a (List.mem_append_left _ ha)) hlt; rw [HBK.out] at y1; rw [HD.out] at y3)
        go_roundw
        case rel => exact ⟨k + 1, m, A, c, by omega, by go_num, rfl, hide (by rw [HE.out, HM.out]), hide (by rw [HE.out]; exact H3.out)⟩
        case measure => simp [intOf]; omega
      | false =>
        have HD := hide hd
        rw [hd] at h4
        cases hm : mayR r k with
        | true =>
          rw [hm] at h4 HC
          have HE := hide (h1 (by rw [h4]; rfl))
          clear h1 h2 h3 h4 hd hm
          go_wp2_with (first
            | (go_at_call 38; refine HC.out.mono ?_; rintro e W3 ⟨rfl, h3⟩; have H3 := hide h3.front; clear h3; obtain ⟨gl, c', von, y0, y1, -, y3, -⟩ := HG.out.cellAt (fun a ha => H3.out.tail.hold a (List.mem_append_left _ ha)) hlt; rw [HBK.out] at y1; rw [HD.out] at y3)
            | (go_at_call 17; refine (HPUT.out W3 H3.out).mono ?_; rintro e W4 ⟨v', rfl, h4⟩; obtain ⟨A6, c6, rfl⟩ := own_slice h4.row; have H4 := hide h4; clear h4))
          go_roundw
          case rel => exact ⟨k + 1, _, A6, c6, by omega, by go_num, rfl, hide (by rw [HE.out]), hide (by rw [HE.out]; exact H4.out)⟩
          case measure => simp [intOf]; omega
        | false =>
          rw [hm] at h4 HC
          cases rdy with
          | false =>
            have HE := hide (h1 (by rw [h4]; rfl))
            clear h1 h2 h3 h4 hd hm
            go_wp2_with (first
              | (go_at_call 38; refine HC.out.mono ?_; rintro e W3 ⟨rfl, h3⟩; have H3 := hide h3.front; clear h3; obtain ⟨gl, c', von, y0, y1, -, y3, -⟩ := HG.out.cellAt (fun a ha => H3.out.tail.hold a (List.mem_append_left _ ha)) hlt; rw [HBK.out] at y1; rw [HD.out] at y3)
              | (go_at_call 17; refine (HPUT.out W3 H3.out).mono ?_; rintro e W4 ⟨v', rfl, h4⟩; obtain ⟨A6, c6, rfl⟩ := own_slice h4.row; have H4 := hide h4; clear h4))
            go_roundw
            case rel => exact ⟨k + 1, _, A6, c6, by omega, by go_num, rfl, hide (by rw [HE.out]), hide (by rw [HE.out]; exact H4.out)⟩
            case measure => simp [intOf]; omega
          | true =>
            have HE := hide (h2 (by rw [h4]; rfl))
            clear h1 h2 h3 h4 hd hm
            go_wp2_with (go_at_call 38; refine HC.out.mono ?_; rintro e W3 ⟨rfl, h3⟩; have H3 := hide h3.front; clear h3; obtain ⟨gl, c', von, y0, y1, -, y3, -⟩ := HG.out.cellAt (fun a ha => H3.out.tail.hold a (List.mem_append_left _ ha)) hlt; rw [HBK.out] at y1; rw [HD.out] at y3)
            go_roundw
            case rel => exact ⟨k + 1, m, A, c, by omega, by go_num, rfl, hide (by rw [HE.out, HM.out]), hide (by rw [HE.out]; exact H3.out)⟩
            case measure => simp [intOf]; omega
    · obtain rfl : k = r.length := by omega
      obtain ⟨A1, c1, x0⟩ := HG.out.slice hq
      have o3 : ¬ (r.length : Int) < (r.length : Int) := by omega
      go_wp2
      go_ret
      exact ⟨_, rfl, by rw [← HM.out]; exact HO.out⟩
end
end Go.Proofs.Ytjfejimghbohdaa
namespace Go.Proofs.Ytjfejimghbohdaa
set_option linter.unusedVariables false
set_option linter.unusedSimpArgs false
open Go.RowKit Go.Maps

section
variable {n g : Nat} {w W : World} {F ps : List Atom} {r : List Rc}
theorem gr_cells (hg : Gr g r ps) (ho : ∀ a ∈ ps, a.Q W) {i : Nat} (hi : i < r.length) : ∃ gl c, W.cell? ⟨g, 0, none⟩ = some (.slice (some ⟨gl, 0, none⟩) r.length c) ∧ W.cell? ⟨gl, i * 5, none⟩ = some (.int .i64 (r.getD i zr).buf) ∧
    W.cell? ⟨gl, i * 5 + 2, none⟩ = some (.int .i64 (cnt r (r.getD i zr).on : Int)) ∧ W.cell? ⟨gl, i * 5 + 4, none⟩ = some (.bool (r.getD i zr).done) := by
  have hil : i < (Of r).l.length := by rw [Of_len]; exact hi
  obtain ⟨gl, vl, c, bb, nb, von, vto, rfl, x0, x1, -, x2, -, x4, -⟩ := hg.is.cellAt ho hil
  rw [Of_len] at x0
  have e : (Of r).l[i] = ofC r i := by simp [Of]
  rw [e] at x1 x2 x4
  exact ⟨gl, c, x0, x1, x2, x4⟩
theorem may_c (hg : Gr g r ps) (ho : ∀ a ∈ ps, a.Q W) (i : Nat) (hi : i < r.length) : Calls Try.prog 52 #[.pointer (some ⟨g, 0, none⟩), .int .i64 (i : Int)] W fun e W' => e = .returned (.bool (mayR r i)) ∧ W = W' := by
  obtain ⟨gl, c, x0, x1, x2, x4⟩ := gr_cells hg ho hi
  have HM := hide (show mayR r i = (decide (cnt r (r.getD i zr).on = 0) && !(r.getD i zr).done) from rfl)
  have o1 : (0 : Int) ≤ (i : Int) := by omega
  have o2 : (i : Int) < (r.length : Int) := by omega
  generalize mayR r i = mm at HM ⊢
  generalize cnt r (r.getD i zr).on = ct at x2 HM
  generalize (r.getD i zr).done = dn at x4 HM
  clear hg ho
  cases dn with
  | true =>
    have HE := hide (show mm = false from by rw [HM.out]; simp)
    go_enter Try.func52, Try.ntmps52
    go_wp2
    go_ret
    exact ⟨by rw [HE.out]; rfl, rfl⟩
  | false =>
    by_cases hc : ct = 0
    · have HE := hide (show mm = true from by rw [HM.out, hc]; rfl)
      obtain ⟨m0, m1⟩ := int_eqb (show (ct : Int) = 0 by omega)
      clear hc
      go_enter Try.func52, Try.ntmps52
      go_wp2
      go_ret
      exact ⟨by rw [HE.out]; rfl, rfl⟩
    · have HE := hide (show mm = false from by rw [HM.out, decide_eq_false hc]; rfl)
      obtain ⟨m0, m1⟩ := int_neb (show ¬ (ct : Int) = 0 by omega)
      clear hc
      go_enter Try.func52, Try.ntmps52
      go_wp2
      go_ret
      exact ⟨by rw [HE.out]; rfl, rfl⟩
theorem buf_c (hg : Gr g r ps) (ho : ∀ a ∈ ps, a.Q W) (i : Nat) (hi : i < r.length) : Calls Try.prog 53 #[.pointer (some ⟨g, 0, none⟩), .int .i64 (i : Int)] W fun e W' => e = .returned (.int .i64 (r.getD i zr).buf) ∧ W = W' := by
  obtain ⟨gl, c, x0, x1, x2, x4⟩ := gr_cells hg ho hi
  have o1 : (0 : Int) ≤ (i : Int) := by omega
  have o2 : (i : Int) < (r.length : Int) := by omega
  generalize (r.getD i zr).buf = bf at x1
  clear hg ho x2 x4
  go_enter Try.func53, Try.ntmps53
  go_wp2
  go_ret
  exact ⟨rfl, rfl⟩
theorem len_c (hg : Gr g r ps) (ho : Own n w W (ps ++ F)) : Calls Try.prog 28 #[.pointer (some ⟨g, 0, none⟩)] W fun e W' => e = .returned (.int .i64 (r.length : Int)) ∧ W = W' := by
  obtain ⟨vl, bb, nb, hb, A, c, rfl⟩ := hg.is.open ho
  have x0 := hb.cell 0
  rw [Of_len] at x0
  clear hg ho hb
  go_enter Try.func28, Try.ntmps28
  go_wp2
  go_ret
  exact ⟨rfl, rfl⟩
set_option maxHeartbeats 2000000 in
theorem min_c {A : Option Addr} {c : Nat} {xs : List Int} (hI : Ints W.heap.size W A xs) (h0 : 0 < xs.length) (hl : xs.length < 274877906944) :
    Calls Try.prog 54 #[.slice A xs.length c] W fun e W' => ∃ m, e = .returned (.int .i64 m) ∧ m ∈ xs ∧ (∀ y ∈ xs, m ≤ y) ∧ W = W' := by
  obtain ⟨ba, off, rfl, _, hc⟩ := hI (by intro e; rw [e] at h0; simp at h0)
  have HC := hide (fun (k : Nat) (hk : k < xs.length) => (hc k hk).trans (by rw [show xs.getD k 0 = xs[k] by simp [hk]]))
  have y0 := HC.out 0 h0
  have HX0 := hide (show xs.take 1 = [xs[0]] from by cases xs with | nil => simp at h0 | cons a l => simp)
  have o0 : ¬ (xs.length : Int) < 1 := by omega
  have o1 : (0 : Int) < (xs.length : Int) := by omega
  rw [Nat.add_zero] at y0
  generalize hx : xs[0] = x0 at y0 HX0
  clear hI hc hx
  go_enter Try.func54, Try.ntmps54
  go_wp2
  go_loop [4, 3] (fun i v => ∃ (k : Nat) (m : Int), 1 ≤ k ∧ k ≤ xs.length ∧ i = .int .i64 k ∧ v = .int .i64 m ∧ Hid (m ∈ xs.take k ∧ ∀ y ∈ xs.take k, m ≤ y)) (fun i _ => xs.length - (intOf i).toNat)
  case atStart => exact ⟨1, x0, by omega, by omega, rfl, rfl, hide (by rw [HX0.out]; exact ⟨List.mem_singleton.2 rfl, fun y hy => by rw [List.mem_singleton.1 hy]; omega⟩)⟩
  case round =>
    obtain ⟨k, m, hk1, hk, rfl, rfl, HM⟩ := hrel
    by_cases hlt : k < xs.length
    · have z0 := HC.out k hlt
      have HT := hide (List.take_succ_eq_append_getElem hlt)
      have o2 : (k : Int) < (xs.length : Int) := by omega
      have o3 : (0 : Int) ≤ (k : Int) := by omega
      generalize xs[k] = x at z0 HT
      clear y0
      go_wp2
      go_round
      case rel => exact ⟨k + 1, min m x, by omega, by omega, by go_num, rfl, hide (by
        rw [HT.out]
        refine ⟨?_, fun y hy => ?_⟩
        · rcases Int.le_total m x with h | h
          · rw [Int.min_eq_left h]; exact List.mem_append_left _ HM.out.1
          · rw [Int.min_eq_right h]; exact List.mem_append_right _ (List.mem_singleton.2 rfl)
        · rcases List.mem_append.1 hy with hy | hy
          · have := HM.out.2 y hy; have := Int.min_le_left m x; omega
          · rw [List.mem_singleton.1 hy]; exact Int.min_le_right m x)⟩
      case measure => simp [intOf]; omega
    · obtain rfl : k = xs.length := by omega
      have o2 : ¬ (xs.length : Int) < (xs.length : Int) := by omega
      have HE := hide (show m ∈ xs ∧ ∀ y ∈ xs, m ≤ y from by have h := HM.out; rwa [List.take_length] at h)
      go_wp2
      go_ret
      exact ⟨_, rfl, HE.out.1, HE.out.2, rfl⟩
end
end Go.Proofs.Ytjfejimghbohdaa
namespace Go.Proofs.Ytjfejimghbohdaa
set_option linter.unusedVariables false
set_option linter.unusedSimpArgs false
open Go.RowKit Go.Maps

def good (r : List Rc) (x : Int) : Prop := 0 ≤ x ∧ x < (r.length : Int) ∧ (rd r x).done = false
inductive Reach (r : List Rc) (ids : List Int) : Int → Prop
  | id {x : Int} : x ∈ ids → good r x → Reach r ids x
  | on {x y : Int} : Reach r ids y → x ∈ (rd r y).on → good r x → Reach r ids x
theorem Reach.good {r : List Rc} {ids : List Int} {x : Int} (h : Reach r ids x) : good r x := by cases h <;> assumption
structure NInv (r : List Rc) (ids : List Int) (s : Int → Bool) (way : List Int) : Prop where
  sound : ∀ x, s x = true → Reach r ids x
  cand : ∀ x ∈ way, Go.Proofs.Ytjfejimghbohdaa.good r x → Reach r ids x
  idsC : ∀ x ∈ ids, Go.Proofs.Ytjfejimghbohdaa.good r x → s x = true ∨ x ∈ way
  onC : ∀ y, s y = true → ∀ x ∈ (rd r y).on, Go.Proofs.Ytjfejimghbohdaa.good r x → s x = true ∨ x ∈ way
theorem NInv.start (r : List Rc) (ids : List Int) : NInv r ids (fun _ => false) ids :=
  ⟨fun x h => (by cases h), fun x hx hg => .id hx hg, fun x hx _ => .inr hx, fun y h => (by cases h)⟩
theorem NInv.final {r : List Rc} {ids : List Int} {s : Int → Bool} (h : NInv r ids s []) (x : Int) : s x = true ↔ Reach r ids x := by
  refine ⟨h.sound x, fun hr => ?_⟩
  induction hr with
  | id hx hg => rcases h.idsC _ hx hg with h | h; exact h; cases h
  | on hy hx hg ih => rcases h.onC _ ih _ hx hg with h | h; exact h; cases h
theorem NInv.skip {r : List Rc} {ids : List Int} {s : Int → Bool} {way : List Int} {id : Int} (h : NInv r ids s (way ++ [id])) (hs : ¬ good r id ∨ s id = true) : NInv r ids s way := by
  have hm : ∀ x, Go.Proofs.Ytjfejimghbohdaa.good r x → s x = true ∨ x ∈ way ++ [id] → s x = true ∨ x ∈ way := fun x hg hx => by
    rcases hx with hx | hx
    · exact .inl hx
    · rcases List.mem_append.1 hx with hx | hx
      · exact .inr hx
      · rw [List.mem_singleton.1 hx] at hg ⊢
        rcases hs with hs | hs
        · exact absurd hg hs
        · exact .inl hs
  exact ⟨h.sound, fun x hx => h.cand x (List.mem_append_left _ hx), fun x hx hg => hm x hg (h.idsC x hx hg), fun y hy x hx hg => hm x hg (h.onC y hy x hx hg)⟩
theorem NInv.mark {r : List Rc} {ids : List Int} {s : Int → Bool} {way : List Int} {id : Int} (h : NInv r ids s (way ++ [id])) (hg : good r id) : NInv r ids (fun x => if x = id then true else s x) (way ++ (rd r id).on) := by
  have hr : Reach r ids id := h.cand id (by simp) hg
  have hm : ∀ x, s x = true ∨ x ∈ way ++ [id] → (if x = id then true else s x) = true ∨ x ∈ way ++ (rd r id).on := fun x hx => by
    by_cases e : x = id
    · exact .inl (by rw [if_pos e])
    · rw [if_neg e]
      rcases hx with hx | hx
      · exact .inl hx
      · rcases List.mem_append.1 hx with hx | hx
        · exact .inr (List.mem_append_left _ hx)
        · exact absurd (List.mem_singleton.1 hx) e
  refine ⟨fun x hx => ?_, fun x hx hgx => ?_, fun x hx hgx => hm x (h.idsC x hx hgx), fun y hy x hx hgx => ?_⟩
  · by_cases e : x = id
    · rw [e]; exact hr
    · rw [if_neg e] at hx; exact h.sound x hx
  · rcases List.mem_append.1 hx with hx | hx
    · exact h.cand x (List.mem_append_left _ hx) hgx
    · exact .on hr hx hgx
  · by_cases e : y = id
    · rw [e] at hx
      exact .inr (List.mem_append_right _ hx)
    · rw [if_neg e] at hy
      exact hm x (h.onC y hy x hx hgx)
/-- how much is not seen yet -/
def rest (r : List Rc) (s : Int → Bool) : Nat := ((List.range r.length).map (fun i : Nat => if s (i : Int) then 0 else (r.getD i zr).on.length + 1)).sum
theorem sum_upd {f f' : Nat → Nat} {k : Nat} : ∀ N, k < N → (∀ i, i ≠ k → f' i = f i) → ((List.range N).map f').sum + f k = ((List.range N).map f).sum + f' k := by
  intro N
  induction N with
  | zero => intro h; omega
  | succ N ih =>
    intro h he
    rw [List.range_succ, List.map_append, List.map_append, List.sum_append, List.sum_append]
    simp only [List.map_cons, List.map_nil, List.sum_cons, List.sum_nil]
    by_cases e : k = N
    · subst e
      have : (List.range k).map f' = (List.range k).map f := List.map_congr_left fun i hi => he i (by have := List.mem_range.1 hi; omega)
      rw [this]; omega
    · have := ih (by omega) he
      have := he N (fun h => e h.symm)
      omega
theorem rest_mark {r : List Rc} {s : Int → Bool} {id : Int} (h : 0 ≤ id ∧ id < (r.length : Int)) (hs : s id = false) : rest r (fun x => if x = id then true else s x) + (rd r id).on.length + 1 = rest r s := by
  unfold rest
  have := sum_upd (f := fun i => if s (i : Int) then 0 else (r.getD i zr).on.length + 1) (f' := fun i => if (if (i : Int) = id then true else s (i : Int)) then 0 else (r.getD i zr).on.length + 1) (k := id.toNat) r.length (by omega) (fun i hi => by
    have : ¬ (i : Int) = id := by omega
    simp only [this, if_false])
  have e : ((id.toNat : Nat) : Int) = id := by omega
  simp only [e, if_true, hs] at this
  unfold rd
  simp at this ⊢
  omega
theorem rest_le (r : List Rc) (s : Int → Bool) : rest r s ≤ tot r + r.length := by
  unfold rest tot
  have : ∀ N, N ≤ r.length → ((List.range N).map (fun i : Nat => if s (i : Int) then 0 else (r.getD i zr).on.length + 1)).sum ≤ ((r.take N).map (fun c => c.on.length)).sum + N := by
    intro N
    induction N with
    | zero => intro _; simp
    | succ N ih =>
      intro h
      rw [List.range_succ, List.map_append, List.sum_append, List.take_succ_eq_append_getElem (by omega), List.map_append, List.sum_append]
      have h1 := ih (by omega)
      have e : r.getD N zr = r[N]'(by omega) := by simp [show N < r.length by omega]
      simp only [List.map_cons, List.map_nil, List.sum_cons, List.sum_nil]
      rw [e]
      split <;> omega
  have h := this r.length (Nat.le_refl _)
  rwa [List.take_length] at h
/-- the changes that are needed for ids, rising -/
def needR (r : List Rc) (ids : List Int) (xs : List Int) : Prop := Rising xs ∧ ∀ x, x ∈ xs ↔ Reach r ids x
end Go.Proofs.Ytjfejimghbohdaa
namespace Go.Proofs.Ytjfejimghbohdaa
set_option linter.unusedVariables false
set_option linter.unusedSimpArgs false
open Go.RowKit Go.Maps

/-- how many are left -/
def leftR (r : List Rc) : Nat := leftN r r.length
theorem opn_left (r : List Rc) : (Of r).opn = (leftR r : Int) := rfl
theorem leftR_le (r : List Rc) : leftR r ≤ r.length := leftN_le r _
/-- what is brought to the disk is there, in its buffer, not done, and all that it hangs on is done -/
theorem next_facts {r : List Rc} {b x : Int} (h : x ∈ nextR r b) : (0 ≤ x ∧ x < (r.length : Int)) ∧ (rd r x).buf = b ∧ (rd r x).done = false ∧ ∀ j, j < (rd r x).on.length → (rd r ((rd r x).on.getD j 0)).done = true := by
  have h1 := nextR_range h
  obtain ⟨i, rfl⟩ := Int.eq_ofNat_of_zero_le h1.1
  obtain ⟨-, h2, h3⟩ := mem_nextR.1 h
  have hrd : rd r (i : Int) = r.getD i zr := by unfold rd; rw [Int.toNat_natCast]
  rw [hrd]
  unfold openAt at h2
  obtain ⟨h4, h5⟩ := Bool.and_eq_true_iff.1 h2
  refine ⟨h1, of_decide_eq_true h5, by simpa using h4, ?_⟩
  unfold mayAt at h3
  exact cnt_zero.1 (of_decide_eq_true h3)
theorem left_first {r : List Rc} (h : 0 < leftR r) : ∃ i, i < r.length ∧ (r.getD i zr).done = false ∧ ∀ j, j < i → (r.getD j zr).done = true := by
  unfold leftR leftN at h
  obtain ⟨i, hi⟩ := List.exists_mem_of_length_pos h
  obtain ⟨h1, h2⟩ := List.mem_filter.1 hi
  have h1 := List.mem_range.1 h1
  have h2 : (r.getD i zr).done = false := by simpa using h2
  have key : ∀ N i, i ≤ N → i < r.length → (r.getD i zr).done = false → ∃ i, i < r.length ∧ (r.getD i zr).done = false ∧ ∀ j, j < i → (r.getD j zr).done = true := by
    intro N
    induction N with
    | zero => intro i hN h1 h2; exact ⟨i, h1, h2, fun j hj => by omega⟩
    | succ N ih =>
      intro i hN h1 h2
      by_cases hj : ∃ j, j < i ∧ (r.getD j zr).done = false
      · obtain ⟨j, hj1, hj2⟩ := hj
        exact ih j (by omega) (by omega) hj2
      · exact ⟨i, h1, h2, fun j hji => by
        cases hd : (r.getD j zr).done with
        | true => rfl
        | false => exact absurd ⟨j, hji, hd⟩ hj⟩
  exact key i i (Nat.le_refl _) h1 h2
/-- while something is left something is ready -/
theorem ready_some {r : List Rc} (hw : WfR r) (h : 0 < leftR r) {xs : List Int} (hx : readyR r xs) : xs ≠ [] := by
  obtain ⟨i, hi, hd, hall⟩ := left_first h
  have hm : (i : Int) ∈ nextR r (r.getD i zr).buf := mem_nextR.2 ⟨hi, by
    unfold openAt
    rw [hd]
    simp, by
    unfold mayAt
    refine decide_eq_true (cnt_zero.2 fun j hj => ?_)
    have hon := hw.on i hi ((r.getD i zr).on[j]) (List.getElem_mem hj)
    have e : (r.getD i zr).on.getD j 0 = (r.getD i zr).on[j] := by rw [List.getD_eq_getElem?_getD, List.getElem?_eq_getElem hj]; rfl
    rw [e]
    exact hall _ (by omega)⟩
  intro e
  have := (hx.2 (r.getD i zr).buf).2 (fun h0 => by rw [h0] at hm; cases hm)
  rw [e] at this; cases this
theorem left_written {r : List Rc} {b : Int} (h : nextR r b ≠ []) : leftR (writtenR r b) < leftR r := by
  unfold leftR leftN
  have hwl : (writtenR r b).length = r.length := by rw [writtenR, setD_len]
  rw [hwl]
  have := len_add (l := List.range r.length) (p := fun i => !(r.getD i zr).done) (q := fun i => !((writtenR r b).getD i zr).done) (s := fun i : Nat => decide ((i : Int) ∈ nextR r b)) (fun i hi => by
    have hi := List.mem_range.1 hi
    unfold writtenR
    rw [setD_at hi]
    by_cases hm : (i : Int) ∈ nextR r b
    · have hd := (next_facts hm).2.2.1
      unfold rd at hd
      rw [Int.toNat_natCast] at hd
      rw [hd]
      simp [hm]
    · simp [hm])
  rw [this]
  have hpos : 0 < ((List.range r.length).filter (fun i : Nat => decide ((i : Int) ∈ nextR r b))).length := by
    obtain ⟨x, hx⟩ := List.exists_mem_of_ne_nil _ h
    have h1 := (next_facts hx).1
    refine List.length_pos_of_mem (a := x.toNat) (List.mem_filter.2 ⟨List.mem_range.2 (by omega), ?_⟩)
    have e : ((x.toNat : Nat) : Int) = x := by omega
    rw [e]; simpa using hx
  omega
theorem bufs_none {r : List Rc} (h : leftR r = 0) {xs : List Int} (hx : bufsR r xs) : xs = [] := by
  refine List.eq_nil_iff_forall_not_mem.2 fun x hm => ?_
  obtain ⟨i, hi, ho⟩ := List.any_eq_true.1 ((hx.2 x).1 hm)
  unfold openAt at ho
  have hd := (Bool.and_eq_true_iff.1 ho).1
  unfold leftR leftN at h
  rw [List.length_eq_zero_iff, List.filter_eq_nil_iff] at h
  exact h i hi hd
end Go.Proofs.Ytjfejimghbohdaa
namespace Go.Proofs.Ytjfejimghbohdaa
set_option linter.unusedVariables false
set_option linter.unusedSimpArgs false
open Go.RowKit Go.Maps

/-- b is the buffer of a change that is needed and may be written -/
def candR (r : List Rc) (ids : List Int) (b : Int) : Prop := ∃ i : Nat, Reach r ids (i : Int) ∧ mayR r i = true ∧ (r.getD i zr).buf = b
def bestR (r : List Rc) (ids : List Int) (b : Int) : Prop := candR r ids b ∧ ∀ b', candR r ids b' → b ≤ b'
inductive PlanR (ids : List Int) : List Rc → List Int → List Rc → Prop
  | done {r : List Rc} : (∀ x, ¬ Reach r ids x) → PlanR ids r [] r
  | step {r r2 : List Rc} {b : Int} {out : List Int} : bestR r ids b → PlanR ids (writtenR r b) out r2 → PlanR ids r (b :: out) r2
inductive PartR (ids : List Int) (r0 : List Rc) : List Int → List Rc → Prop
  | nil : PartR ids r0 [] r0
  | snoc {r : List Rc} {b : Int} {out : List Int} : PartR ids r0 out r → bestR r ids b → PartR ids r0 (out ++ [b]) (writtenR r b)
theorem bestR.uniq {r : List Rc} {ids : List Int} {a b : Int} (h1 : bestR r ids a) (h2 : bestR r ids b) : a = b := by
  have := h1.2 b h2.1
  have := h2.2 a h1.1
  omega
theorem candR.reach {r : List Rc} {ids : List Int} {b : Int} (h : candR r ids b) : ∃ x, Reach r ids x := by obtain ⟨i, h1, -⟩ := h; exact ⟨_, h1⟩
theorem PlanR.uniq {ids : List Int} {r : List Rc} {o1 o2 : List Int} {r1 r2 : List Rc} (h1 : PlanR ids r o1 r1) (h2 : PlanR ids r o2 r2) : o1 = o2 ∧ r1 = r2 := by
  induction h1 generalizing o2 r2 with
  | done h =>
    cases h2 with
    | done _ => exact ⟨rfl, rfl⟩
    | step hb _ => obtain ⟨x, hx⟩ := hb.1.reach; exact absurd hx (h x)
  | step hb _ ih =>
    cases h2 with
    | done h => obtain ⟨x, hx⟩ := hb.1.reach; exact absurd hx (h x)
    | step hb2 h2 =>
      obtain rfl := hb.uniq hb2
      obtain ⟨rfl, rfl⟩ := ih h2
      exact ⟨rfl, rfl⟩
theorem PartR.plan {ids : List Int} {r0 r r2 : List Rc} {out o2 : List Int} (h : PartR ids r0 out r) (h2 : PlanR ids r o2 r2) : PlanR ids r0 (out ++ o2) r2 := by
  induction h generalizing o2 with
  | nil => exact h2
  | snoc h hb ih =>
    rw [List.append_assoc]
    exact ih (.step hb h2)
theorem PartR.end {ids : List Int} {r0 r : List Rc} {out : List Int} (h : PartR ids r0 out r) (hn : ∀ x, ¬ Reach r ids x) : PlanR ids r0 out r := by
  have := h.plan (.done hn)
  rwa [List.append_nil] at this
/-- what is needed has one that may be written -/
theorem reach_cand {r : List Rc} {ids : List Int} (hw : WfR r) (h : ∃ x, Reach r ids x) : ∃ b, candR r ids b := by
  have key : ∀ N : Nat, ∀ i : Nat, i ≤ N → Reach r ids (i : Int) → ∃ b, candR r ids b := by
    intro N
    induction N with
    | zero =>
      intro i hi hr
      have hg := hr.good
      have e : rd r (i : Int) = r.getD i zr := by unfold rd; rw [Int.toNat_natCast]
      have hil : i < r.length := by have := hg.2.1; omega
      refine ⟨_, i, hr, ?_, rfl⟩
      rw [mayR_yes (fun j hj => ?_)]
      · rw [← e, hg.2.2]; rfl
      · have hx := hw.on i hil _ (List.getElem_mem hj)
        omega
    | succ N ih =>
      intro i hi hr
      have hg := hr.good
      have e : rd r (i : Int) = r.getD i zr := by unfold rd; rw [Int.toNat_natCast]
      have hil : i < r.length := by have := hg.2.1; omega
      by_cases hall : ∀ j, j < (r.getD i zr).on.length → (rd r ((r.getD i zr).on.getD j 0)).done = true
      · refine ⟨_, i, hr, ?_, rfl⟩
        rw [mayR_yes hall, ← e, hg.2.2]; rfl
      · obtain ⟨j, hj⟩ := Classical.not_forall.1 hall
        obtain ⟨hj1, hj2⟩ := Classical.not_imp.1 hj
        have hgd : (r.getD i zr).on.getD j 0 = (r.getD i zr).on[j] := by rw [List.getD_eq_getElem?_getD, List.getElem?_eq_getElem hj1]; rfl
        rw [hgd] at hj2
        have hx := hw.on i hil _ (List.getElem_mem hj1)
        obtain ⟨t, ht⟩ := Int.eq_ofNat_of_zero_le hx.1
        refine ih t (by omega) ?_
        rw [← ht]
        exact .on hr (by rw [e]; exact List.getElem_mem hj1) ⟨hx.1, by omega, by simpa using hj2⟩
  obtain ⟨x, hx⟩ := h
  obtain ⟨i, rfl⟩ := Int.eq_ofNat_of_zero_le hx.good.1
  exact key i i (Nat.le_refl _) hx
theorem candR.next {r : List Rc} {ids : List Int} {b : Int} (h : candR r ids b) : nextR r b ≠ [] := by
  obtain ⟨i, hr, hm, hb⟩ := h
  unfold mayR at hm
  obtain ⟨h1, h2⟩ := Bool.and_eq_true_iff.1 hm
  have : (i : Int) ∈ nextR r b := mem_nextR.2 ⟨by have := hr.good.2.1; omega, by rw [openAt_eq, h2, hb]; simp, h1⟩
  intro e; rw [e] at this; cases this
theorem PartR.len {ids : List Int} {r0 r : List Rc} {out : List Int} (h : PartR ids r0 out r) : out.length + leftR r ≤ leftR r0 := by
  induction h with
  | nil => simp
  | snoc h hb ih =>
    have := left_written hb.1.next
    rw [List.length_append, List.length_singleton]
    omega
theorem candR.i64 {r : List Rc} {ids : List Int} {b : Int} (hb : ∀ i, i < r.length → I64 (r.getD i zr).buf) (h : candR r ids b) : I64 b := by
  obtain ⟨i, hr, -, rfl⟩ := h
  exact hb i (by have := hr.good.2.1; omega)
end Go.Proofs.Ytjfejimghbohdaa
namespace Go.Proofs.Ytjfejimghbohdaa
set_option linter.unusedVariables false
set_option linter.unusedSimpArgs false
open Go.RowKit

/-- how a value reads in memory -/
structure Kd (α : Type) where
  sz : Nat
  K : World → α → List Value → Prop
/-- the elements of a slice, read one by one -/
def Kd.C {α : Type} (d : Kd α) (w : World) (A : Option Addr) (xs : List α) : Prop := xs ≠ [] → ∃ a, A = some a ∧ ∀ j p, xs[j]? = some p → ∃ cs, cs.length = d.sz ∧ d.K w p cs ∧ ∀ i u, cs[i]? = some u → w.cell? (a.add (j * d.sz + i)) = some u
def Kd.int (k : IntKind) : Kd Int := ⟨1, fun _ z cs => cs = [.int k z]⟩
def Kd.slice {α : Type} (d : Kd α) : Kd (List α) := ⟨1, fun w xs cs => ∃ A c, cs = [.slice A xs.length c] ∧ xs.length ≤ c ∧ d.C w A xs⟩
/-- what reads as type t, and weighs no more than memory holds, is of kind d, and S -/
def Opens {α : Type} (P : Program) (t : TypeId) (d : Kd α) (S : α → Prop) : Prop :=
  ∀ {H : Type} {enc : TypeId × Value → H} {w : World} {base : Nat} {spare : Nat → Bool} {held : Bool} {fuel : Nat} {cs : List Value} {x : DataW H × List MemPlace},
    DataW.trod enc P w base spare held fuel t cs = some x → (x.1.weights P t).all (· ≤ reachBytes) = true → ∃ v, d.K w v cs ∧ S v
theorem opens_int {P : Program} {t : TypeId} {k : IntKind} (ht : P.underlying t = some (.int k)) : Opens P t (Kd.int k) (fun n => (Lit.int k n).wf = true) := by
  intro H enc w base spare held fuel cs x h _
  obtain ⟨n, rfl, _, hw⟩ := DataW.trod_int ht h
  exact ⟨n, rfl, hw⟩
theorem mem_weightsAll {H : Type} {P : Program} {e : TypeId} : ∀ {ds : List (DataW H)} {d : DataW H}, d ∈ ds → ∀ n ∈ d.weights P e, n ∈ DataW.weightsAll P e ds
  | d0 :: ds, d, hd, n, hn => by
    rw [DataW.weightsAll, List.mem_append]
    rcases List.mem_cons.1 hd with rfl | hd
    · exact .inl hn
    · exact .inr (mem_weightsAll hd n hn)
theorem opens_slice {α : Type} {P : Program} {t e : TypeId} {d : Kd α} {S : α → Prop} (ht : P.underlying t = some (.slice e)) (hd : Opens P e d S) (hsz : P.cellsOf e = d.sz) : Opens P t (Kd.slice d) (fun xs => (∀ x ∈ xs, S x) ∧ xs.length * P.bytesOf e ≤ reachBytes ∧ xs.length ≤ maxLen) := by
  intro H enc w base spare held fuel cs x h hw
  rcases DataW.trod_slice ht h with ⟨rfl, _⟩ | ⟨a, len, cap, elems, rest, n, _, rfl, rfl, hb, hl, hm, hlen, hel, _, _⟩
  · exact ⟨[], ⟨none, 0, rfl, Nat.le_refl _, fun h => absurd rfl h⟩, by simp⟩
  · simp only [DataW.weights, ht, List.all_cons, Bool.and_eq_true, List.all_append] at hw
    obtain ⟨hw1, hw2, _⟩ := hw
    have each : ∀ i : Fin len, ∃ v, S v ∧ ∃ c, c.length = d.sz ∧ d.K w v c ∧ ∀ j u, c[j]? = some u → w.cell? (a.add (i.val * d.sz + j)) = some u := by
      intro i
      have hi := hel i.val i.isLt
      have hlt : i.val < elems.length := by omega
      rw [List.getElem?_eq_getElem hlt, hsz, Option.bind_eq_some_iff] at hi
      obtain ⟨c, hc, hy⟩ := hi
      obtain ⟨_, hcl, hcell⟩ := World.cells?_some hc
      obtain ⟨v, hK, hS⟩ := hd hy (by
        rw [List.all_eq_true] at hw2 ⊢
        intro n hn
        exact hw2 n (mem_weightsAll (List.mem_map.2 ⟨_, List.getElem_mem hlt, rfl⟩) n hn))
      refine ⟨v, hS, c, hcl, hK, fun j u hu => ?_⟩
      have hj : j < d.sz := by have := (List.getElem?_eq_some_iff.1 hu).1; omega
      have := hcell j hj
      rw [Addr.add_add, hu] at this
      exact this
    let f : Fin len → α := fun i => Classical.choose (each i)
    have hf := fun i => Classical.choose_spec (each i)
    have hfl : (List.ofFn f).length = len := List.length_ofFn
    refine ⟨List.ofFn f, ⟨some a, cap, by rw [hfl], by rw [hfl]; exact hl, fun _ => ⟨a, rfl, fun j p hj => ?_⟩⟩, fun y hy => ?_, ?_, ?_⟩
    · rw [List.getElem?_ofFn] at hj
      split at hj
      · rename_i hlt
        injection hj with hj
        subst hj
        obtain ⟨_, c, h1, h2, h3⟩ := hf ⟨j, hlt⟩
        exact ⟨c, h1, h2, fun i u hu => h3 i u hu⟩
      · cases hj
    · obtain ⟨i, hi⟩ := List.mem_ofFn.1 hy
      rw [← hi]
      exact (hf i).1
    · rw [hfl]
      have h2 : (elems.length + rest.length) * P.bytesOf e ≤ reachBytes := by simpa using hw1
      have h3 : len * P.bytesOf e ≤ (elems.length + rest.length) * P.bytesOf e := Nat.mul_le_mul_right _ (by omega)
      omega
    · rw [hfl]; omega
theorem field_weights {H : Type} {P : Program} {t u : TypeId} {fs : Array Field} {ds : List (DataW H)} {d : DataW H} (ht : P.underlying t = some (.struct fs)) (hw : ((DataW.agg ds).weights P t).all (· ≤ reachBytes) = true) (j : Nat) (hu : (fs.toList.map (·.type))[j]? = some u) (hd : ds[j]? = some d) : (d.weights P u).all (· ≤ reachBytes) = true := by
  simp only [DataW.weights, ht] at hw
  rw [List.all_eq_true] at hw ⊢
  exact fun n hn => hw n (DataW.weights_mem_each hu hd n hn)
/-- one field of a struct that was opened -/
theorem opens_field {H : Type} {α : Type} {P : Program} {t u : TypeId} {d : Kd α} {S : α → Prop} {fs : Array Field} {enc : TypeId × Value → H} {w : World} {base : Nat} {spare : Nat → Bool} {held : Bool} {n : Nat} {cs : List Value} {xs : List (DataW H × List MemPlace)}
    (ht : P.underlying t = some (.struct fs)) (ho : Opens P u d S) (hf : ∀ (i : Nat) (f : Field), fs[i]? = some f → DataW.trod enc P w base spare held n f.type ((cs.drop f.offset).take (P.cellsOf f.type)) = xs[i]?)
    (hw : ((DataW.agg (xs.map (·.1))).weights P t).all (· ≤ reachBytes) = true) (hl : xs.length = fs.size) (j off : Nat) (hj : j < fs.size) (hu : fs[j].type = u) (hoff : fs[j].offset = off) :
    ∃ v, d.K w v ((cs.drop off).take (P.cellsOf u)) ∧ S v := by
  have h1 := hf j fs[j] (Array.getElem?_eq_getElem hj)
  have hlt : j < xs.length := by omega
  rw [List.getElem?_eq_getElem hlt, hu, hoff] at h1
  refine ho h1 (field_weights ht hw j ?_ ?_)
  · rw [List.getElem?_map, Array.getElem?_toList, Array.getElem?_eq_getElem hj]; simp [hu]
  · rw [List.getElem?_map, List.getElem?_eq_getElem hlt]; rfl
theorem cells3 : Try.prog.cellsOf 3 = 1 := by kernel_rfl
theorem cells25 : Try.prog.cellsOf 23 = 1 := by kernel_rfl
theorem cells52 : Try.prog.cellsOf 57 = 3 := by kernel_rfl
theorem bytes3 : Try.prog.bytesOf 3 = 8 := by kernel_rfl
theorem bytes52 : Try.prog.bytesOf 57 = 40 := by kernel_rfl
/-- a call of a row of calls -/
structure Ac where
  way : Int
  buf : Int
  on : List Int
def kAc : Kd Ac := ⟨3, fun w x cs => ∃ A c, cs = [.int .i64 x.way, .int .i64 x.buf, .slice A x.on.length c] ∧ (Kd.int .i64).C w A x.on⟩
def AcOk (x : Ac) : Prop := (Lit.int .i64 x.way).wf = true ∧ (Lit.int .i64 x.buf).wf = true ∧ x.on.length * 8 ≤ reachBytes
def AcsOk (xs : List Ac) : Prop := (∀ x ∈ xs, AcOk x) ∧ xs.length * 40 ≤ reachBytes
theorem opens_ints : Opens Try.prog 23 (Kd.slice (Kd.int .i64)) (fun xs => (∀ x ∈ xs, (Lit.int .i64 x).wf = true) ∧ xs.length * Try.prog.bytesOf 3 ≤ reachBytes ∧ xs.length ≤ maxLen) := opens_slice Try.underlying23 (opens_int Try.underlying3) cells3
set_option maxRecDepth 100000 in
theorem opens_ac : Opens Try.prog 57 kAc AcOk := by
  intro H enc w base spare held fuel cs x h hw
  obtain ⟨xs, n, _, rfl, hl, hlen, hf⟩ := DataW.trod_struct Try.underlying57 h
  obtain ⟨v0, k0, s0⟩ := opens_field Try.underlying57 (opens_int Try.underlying3) hf hw hlen 0 0 (by decide) rfl rfl
  obtain ⟨v1, k1, s1⟩ := opens_field Try.underlying57 (opens_int Try.underlying3) hf hw hlen 1 1 (by decide) rfl rfl
  obtain ⟨v2, k2, s2⟩ := opens_field Try.underlying57 opens_ints hf hw hlen 2 2 (by decide) rfl rfl
  rw [cells52] at hl
  rw [cells3] at k0 k1
  rw [cells25] at k2
  match cs, hl with
  | [c0, c1, c2], _ =>
    have e0 : [c0] = [Value.int .i64 v0] := k0
    have e1 : [c1] = [Value.int .i64 v1] := k1
    obtain ⟨A, c, e2, _, g2⟩ := k2
    have e2' : [c2] = [Value.slice A v2.length c] := e2
    rw [List.singleton_inj] at e0 e1 e2'
    subst e0
    subst e1
    subst e2'
    exact ⟨⟨v0, v1, v2⟩, ⟨A, c, rfl, g2⟩, s0, s1, by have := s2.2.1; rwa [bytes3] at this⟩
theorem opens_acs : Opens Try.prog 22 (Kd.slice kAc) AcsOk := by
  intro H enc w base spare held fuel cs x h hw
  obtain ⟨v, hK, hS⟩ := opens_slice Try.underlying22 opens_ac cells52 h hw
  exact ⟨v, hK, hS.1, by have := hS.2.1; rwa [bytes52] at this⟩
theorem add_none {ba off m : Nat} : (⟨ba, off, none⟩ : Addr).add m = ⟨ba, off + m, none⟩ := by
  simp only [Addr.add]
  split
  · rename_i e; rw [e]; rfl
  · rfl
theorem spot_none {w : World} {a : Addr} {v : Value} (h : w.cell? (a.add 0) = some v) : a = ⟨a.block, a.off, none⟩ := by
  obtain ⟨b, off, spot⟩ := a
  have hspot : spot = none := by simpa [Addr.add] using World.cell?_spot h
  rw [hspot]
theorem ints_of_C {w : World} {A : Option Addr} {zs : List Int} (h : (Kd.int .i64).C w A zs) : Ints w.heap.size w A zs := Ints.of_open fun hne => by
  obtain ⟨a, rfl, hc⟩ := h hne
  have hcell : ∀ j, j < zs.length → w.cell? (a.add j) = some (.int .i64 (zs.getD j 0)) := fun j hj => by
    obtain ⟨cs, _, hK, hu⟩ := hc j (zs.getD j 0) (by simp [hj])
    have e : cs = [Value.int .i64 (zs.getD j 0)] := hK
    subst e
    have := hu 0 _ rfl
    simpa [Kd.int] using this
  have h0 := hcell 0 (List.length_pos_iff.2 hne)
  have hb : (a.add 0).block = a.block := by simp [Addr.add]
  exact ⟨a, rfl, by rw [← hb]; exact World.block_lt_of_cell? _ _ h0, hcell⟩
/-- the calls of an argument, one by one -/
theorem acs_at {w : World} {A : Option Addr} {xs : List Ac} (h : kAc.C w A xs) {k : Nat} (hk : k < xs.length) : ∃ ba off Ao co, A = some ⟨ba, off, none⟩ ∧ ba < w.heap.size ∧ w.cell? ⟨ba, off + k * 3, none⟩ = some (.int .i64 xs[k].way) ∧ w.cell? ⟨ba, off + k * 3 + 1, none⟩ = some (.int .i64 xs[k].buf) ∧
    w.cell? ⟨ba, off + k * 3 + 2, none⟩ = some (.slice Ao xs[k].on.length co) ∧ Ints w.heap.size w Ao xs[k].on := by
  obtain ⟨a, rfl, hc⟩ := h (by intro e; rw [e] at hk; simp at hk)
  obtain ⟨cs, _, ⟨Ao, co, rfl, hon⟩, hu⟩ := hc k xs[k] (by simp [hk])
  have h0 := hu 0 _ rfl
  have h1 := hu 1 _ rfl
  have h2 := hu 2 _ rfl
  have ea : a = ⟨a.block, a.off, none⟩ := by
    have h0 : 0 < xs.length := by omega
    obtain ⟨cs, _, ⟨A', c', rfl, _⟩, hu⟩ := hc 0 xs[0] (by simp [h0])
    have := hu 0 _ rfl
    exact spot_none (by simpa using this)
  obtain ⟨ba, off, spot⟩ := a
  obtain rfl : spot = none := by injection ea
  rw [add_none] at h0 h1 h2
  exact ⟨ba, off, Ao, co, rfl, World.block_lt_of_cell? _ _ h0, h0, by rw [Nat.add_assoc]; exact h1, by rw [Nat.add_assoc]; exact h2, ints_of_C hon⟩
end Go.Proofs.Ytjfejimghbohdaa
namespace Go.Proofs.Ytjfejimghbohdaa
set_option linter.unusedVariables false
set_option linter.unusedSimpArgs false
open Go.RowKit Go.Maps

def onsum (l : List Ac) : Nat := (l.map (fun a => a.on.length)).sum
def Few (l : List Ac) : Prop := l.length ≤ 150 ∧ onsum l ≤ 3000
theorem onsum_snoc {l : List Ac} {k : Nat} (h : k < l.length) : onsum (l.take (k + 1)) = onsum (l.take k) + l[k].on.length := by
  unfold onsum
  rw [List.take_succ_eq_append_getElem h, List.map_append, List.sum_append]; simp
def BigE (l : List Ac) (e : Ending) : Prop := ∃ bb : Bool, e = .returned (.bool bb) ∧ (bb = false → Few l)
theorem big_c {w : World} (W : World) (A : Option Addr) (c : Nat) (l : List Ac) (hC : kAc.C w A l) (hb : Below w.heap.size w W) :
    Calls Try.prog 8 #[.slice A l.length c] W fun e W' => BigE l e ∧ W = W' := by
  have HC := hide (fun k (hk : k < l.length) => acs_at hC hk)
  have HB := hide hb
  clear hC hb
  go_enter Try.func8, Try.ntmps8
  go_wp2
  go_loop [4, 3] (fun i v => ∃ k m : Nat, k ≤ l.length ∧ k ≤ 151 ∧ m ≤ k * 1000 ∧ i = .int .i64 k ∧ v = .int .i64 m ∧ Hid (m = onsum (l.take k))) (fun i _ => l.length - (intOf i).toNat)
  case atStart => exact ⟨0, 0, by omega, by omega, by omega, rfl, rfl, hide rfl⟩
  case round =>
    obtain ⟨k, m, hk, hk1, hm, rfl, rfl, HM⟩ := hrel
    by_cases hlt : k < l.length
    · have o1 : (k : Int) < (l.length : Int) := by omega
      by_cases hk2 : k ≤ 150
      · have o2 : (k : Int) ≤ 150 := by omega
        have o0 : (0 : Int) ≤ (k : Int) := by omega
        obtain ⟨ba, off, Ao, co, rfl, hba, _, _, y2, _⟩ := HC.out k hlt
        replace y2 := (HB.out.cell (p := ⟨ba, off + k * 3 + 2, none⟩) hba).trans y2
        have HS := hide (onsum_snoc hlt)
        generalize l[k].on.length = t at y2 HS
        by_cases ht : t ≤ 1000
        · have o3 : ¬ (1000 : Int) < (t : Int) := by omega
          go_wp2
          go_round
          case rel => exact ⟨k + 1, m + t, by omega, by omega, by omega, by go_num, by go_num, hide (by rw [HS.out, HM.out])⟩
          case measure => simp [intOf]; omega
        · have o3 : (1000 : Int) < (t : Int) := by omega
          go_wp2
          go_ret
          exact ⟨⟨true, rfl, fun h => by cases h⟩, rfl⟩
      · have o2 : ¬ (k : Int) ≤ 150 := by omega
        have o3 : (150 : Int) < (l.length : Int) := by omega
        go_wp2
        go_ret
        exact ⟨⟨true, rfl, fun h => by cases h⟩, rfl⟩
    · obtain rfl : k = l.length := by omega
      have o1 : ¬ (l.length : Int) < (l.length : Int) := by omega
      have HF := hide (HM.out.trans (by rw [List.take_length]))
      by_cases h1 : l.length ≤ 150
      · have o2 : ¬ (150 : Int) < (l.length : Int) := by omega
        by_cases h2 : m ≤ 3000
        · have o3 : ¬ (3000 : Int) < (m : Int) := by omega
          go_wp2
          go_ret
          exact ⟨⟨false, rfl, fun _ => ⟨h1, by rw [← HF.out]; exact h2⟩⟩, rfl⟩
        · have o3 : (3000 : Int) < (m : Int) := by omega
          go_wp2
          go_ret
          exact ⟨⟨true, rfl, fun h => by cases h⟩, rfl⟩
      · have o2 : (150 : Int) < (l.length : Int) := by omega
        go_wp2
        go_ret
        exact ⟨⟨true, rfl, fun h => by cases h⟩, rfl⟩
/-- what a row of calls makes of rows -/
def stepR (r : List Rc) (a : Ac) : List Rc :=
  if a.way = 0 then (if ∀ x ∈ a.on, 0 ≤ x ∧ x < (r.length : Int) then r ++ [⟨a.buf, a.on, false⟩] else r) else writtenR r a.buf
def rowsOf (l : List Ac) : List Rc := l.foldl stepR []
theorem rowsOf_snoc {l : List Ac} {k : Nat} (h : k < l.length) : rowsOf (l.take (k + 1)) = stepR (rowsOf (l.take k)) l[k] := by
  unfold rowsOf
  rw [List.take_succ_eq_append_getElem h, List.foldl_append]; rfl
theorem stepR_len (r : List Rc) (a : Ac) : (stepR r a).length ≤ r.length + 1 := by
  unfold stepR
  split
  · split <;> simp
  · rw [writtenR, setD_len]; omega
theorem stepR_tot (r : List Rc) (a : Ac) : tot (stepR r a) ≤ tot r + a.on.length := by
  unfold stepR
  split
  · split
    · rw [tot_snoc]; exact Nat.le_refl _
    · omega
  · rw [writtenR, tot_setD]; omega
theorem rowsOf_le (l : List Ac) (k : Nat) (hk : k ≤ l.length) : (rowsOf (l.take k)).length ≤ k ∧ tot (rowsOf (l.take k)) ≤ onsum (l.take k) := by
  induction k with
  | zero => simp [rowsOf, tot]
  | succ k ih =>
    have h1 := ih (by omega)
    rw [rowsOf_snoc (by omega), onsum_snoc (by omega)]
    have h2 := stepR_len (rowsOf (l.take k)) (l[k]'(by omega))
    have h3 := stepR_tot (rowsOf (l.take k)) (l[k]'(by omega))
    omega
theorem onsum_take (l : List Ac) (k : Nat) : onsum (l.take k) ≤ onsum l := by
  have h : onsum (l.take k ++ l.drop k) = onsum (l.take k) + onsum (l.drop k) := by unfold onsum; rw [List.map_append, List.sum_append]
  rw [List.take_append_drop] at h
  omega
end Go.Proofs.Ytjfejimghbohdaa
namespace Go.Proofs.Ytjfejimghbohdaa
set_option linter.unusedVariables false
set_option linter.unusedSimpArgs false
open Go.RowKit Go.Maps

theorem Reads.nil {n : Nat} {w : World} {F : List Atom} {A : Option Addr} : Reads n w F A [] := fun W _ hne => absurd rfl hne
section
variable {n g : Nat} {w W : World} {F ps : List Atom} {r : List Rc}
theorem Own.newInts (h : Own n w W F) (x : Int) : Own n w (W.alloc (.cells #[.int .i64 x] 3)) (rowA 3 1 (.slice (some ⟨W.heap.size, 0, none⟩) 1 1) 1 (ints [x]) :: F) :=
  h.newRow #[.int .i64 x] 1 (by unfold maxLen; omega) rfl
theorem gadd0_c (hg : Gr g r ps) (ho : Own n w W (ps ++ F)) (buf : Int) (hb : I64 buf) (hl : r.length + 1 < 274877906944) (ht : tot r < 274877906944) :
    Calls Try.prog 16 #[.pointer (some ⟨g, 0, none⟩), .int .i64 buf, .slice none 0 0] W fun e W' => ∃ ps', e = .returned (.tuple #[.int .i64 (r.length : Int), .int .i64 0]) ∧ Gr g (r ++ [⟨buf, [], false⟩]) ps' ∧ Own n w W' (ps' ++ F) :=
  gadd_c hg ho buf hb none 0 [] hl ht Reads.nil (fun x hx => by cases hx)
theorem gadd1_c (hg : Gr g r ps) (ho : Own n w W (ps ++ F)) (buf : Int) (hb : I64 buf) (x : Int) (hl : r.length + 1 < 274877906944) (ht : tot r + 1 < 274877906944) (hx : 0 ≤ x ∧ x < (r.length : Int)) :
    Calls Try.prog 16 #[.pointer (some ⟨g, 0, none⟩), .int .i64 buf, .slice (some ⟨W.heap.size, 0, none⟩) 1 1] (W.alloc (.cells #[.int .i64 x] 3)) fun e W' => ∃ ps', e = .returned (.tuple #[.int .i64 (r.length : Int), .int .i64 0]) ∧ Gr g (r ++ [⟨buf, [x], false⟩]) ps' ∧ Own n w W' (ps' ++ F) := by
  have h1 : Own n w (W.alloc (.cells #[.int .i64 x] 3)) (ps ++ (rowA 3 1 (.slice (some ⟨W.heap.size, 0, none⟩) 1 1) 1 (ints [x]) :: F)) := (ho.newInts x).back
  have h2 : Reads n w (rowA 3 1 (.slice (some ⟨W.heap.size, 0, none⟩) 1 1) 1 (ints [x]) :: F) (some ⟨W.heap.size, 0, none⟩) [x] := Reads.row (c := 1) (k := 1) List.mem_cons_self
  refine (gadd_c hg h1 buf hb _ 1 [x] hl ht h2 (fun y hy => by rw [List.mem_singleton.1 hy]; exact hx)).mono ?_
  rintro e W' ⟨ps', he, hg', ho'⟩
  exact ⟨ps', he, hg', ho'.sub ((List.Sublist.refl _).append (List.sublist_cons_self _ _))⟩
theorem same1_c {A : Option Addr} {k c : Nat} {l : List Int} (ho : Own n w W (rowA 3 1 (.slice A k c) k (ints l) :: F)) (hk : k = l.length) (hl : l.length < 1099511627776) (x : Int) :
    Calls Try.prog 18 #[.slice A k c, .slice (some ⟨W.heap.size, 0, none⟩) 1 1] (W.alloc (.cells #[.int .i64 x] 3)) fun e W' => e = .returned (.bool (sameI l [x])) ∧ Own n w W' F := by
  subst hk
  have h1 : Reads n w (rowA 3 1 (.slice (some ⟨W.heap.size, 0, none⟩) 1 1) 1 (ints [x]) :: rowA 3 1 (.slice A l.length c) l.length (ints l) :: F) A l := Reads.row (c := c) (k := l.length) (List.mem_cons_of_mem _ List.mem_cons_self)
  have h2 : Reads n w (rowA 3 1 (.slice (some ⟨W.heap.size, 0, none⟩) 1 1) 1 (ints [x]) :: rowA 3 1 (.slice A l.length c) l.length (ints l) :: F) (some ⟨W.heap.size, 0, none⟩) [x] := Reads.row (c := 1) (k := 1) List.mem_cons_self
  exact (same_c A c l _ 1 [x] hl (by simp) h1 h2 (ho.newInts x)).mono fun e W' ⟨he, h⟩ => ⟨he, h.tail.tail⟩
end
theorem ready_one {r : List Rc} {xs : List Int} (a : Int) (h : readyR r xs) (ha : ∀ x, nextR r x ≠ [] ↔ x = a) : xs = [a] := by
  obtain ⟨h1, h2⟩ := h
  have hm : ∀ x, x ∈ xs ↔ x = a := fun x => (h2 x).trans (ha x)
  match xs, h1, hm with
  | [], _, hm => exact absurd ((hm a).2 rfl) (by simp)
  | [b], _, hm => rw [(hm b).1 List.mem_cons_self]
  | b :: c :: l, h1, hm =>
    have e1 := (hm b).1 List.mem_cons_self
    have e2 := (hm c).1 (List.mem_cons_of_mem _ List.mem_cons_self)
    have := (List.pairwise_cons.1 h1).1 c List.mem_cons_self
    omega
theorem sameI_self (l : List Int) : sameI l l = true := decide_eq_true rfl
theorem small1 : (([] : List Rc)).length + 1 < 274877906944 := by simp
theorem small2 : tot [] < 274877906944 := by simp [tot]
end Go.Proofs.Ytjfejimghbohdaa
namespace Go.Proofs.Ytjfejimghbohdaa
set_option linter.unusedVariables false
set_option linter.unusedSimpArgs false
open Go.RowKit Go.Maps

section
variable {n : Nat} {w W : World} {F p q : List Atom} {a : Atom}
theorem Own.pull (h : Own n w W (p ++ (q ++ (a :: F)))) : Own n w W (a :: (p ++ (q ++ F))) := by
  rw [← List.append_assoc] at h ⊢; exact h.front
theorem Own.push (h : Own n w W (a :: (p ++ (q ++ F)))) : Own n w W (p ++ (q ++ (a :: F))) := by
  rw [← List.append_assoc] at h ⊢; exact h.back
theorem Own.swp (h : Own n w W (p ++ (q ++ F))) : Own n w W (q ++ (p ++ F)) := h.perm (List.perm_append_comm_assoc p q F)
end
/-- both graphs of the rows r -/
def BP (n : Nat) (w : World) (g b : Nat) (r : List Rc) (F : List Atom) (W : World) : Prop := ∃ pg pr, Gr g r pg ∧ IsR b r pr ∧ Own n w W (pg ++ (pr ++ F))
section
variable {n g b : Nat} {w W : World} {F : List Atom} {r : List Rc} {a : Atom}
theorem BP.add (h : BP n w g b r (a :: F) W) : BP n w g b r (a :: F) W := h
theorem BP.cons (h : BP n w g b r F W) {W' : World} (hb : ∀ X, Own n w W X → Own n w W' (a :: X)) : BP n w g b r (a :: F) W' := by
  obtain ⟨pg, pr, hg, hr, ho⟩ := h
  exact ⟨pg, pr, hg, hr, (hb _ ho).push⟩
theorem BP.tail (h : BP n w g b r (a :: F) W) : BP n w g b r F W := by
  obtain ⟨pg, pr, hg, hr, ho⟩ := h
  exact ⟨pg, pr, hg, hr, ho.pull.tail⟩
theorem BP.hold (h : BP n w g b r F W) {x : Atom} (hx : x ∈ F) : x.Q W := by
  obtain ⟨pg, pr, hg, hr, ho⟩ := h
  exact ho.hold x (List.mem_append_right _ (List.mem_append_right _ hx))
theorem BP.below (h : BP n w g b r F W) : Below n w W := by obtain ⟨pg, pr, hg, hr, ho⟩ := h; exact ho.below
theorem BP.sz (h : BP n w g b r F W) : n ≤ W.heap.size := by obtain ⟨pg, pr, hg, hr, ho⟩ := h; exact ho.sz
/-- the own graph has one more, or not; the document's waits -/
def HP (n : Nat) (w : World) (g b : Nat) (r r' : List Rc) (F : List Atom) (W : World) : Prop := ∃ pg pr, Gr g r pg ∧ IsR b r' pr ∧ Own n w W (pg ++ (pr ++ F))
theorem HP.cons {r' : List Rc} (h : HP n w g b r r' F W) {W' : World} (hb : ∀ X, Own n w W X → Own n w W' (a :: X)) : HP n w g b r r' (a :: F) W' := by
  obtain ⟨pg, pr, hg, hr, ho⟩ := h
  exact ⟨pg, pr, hg, hr, (hb _ ho).push⟩
theorem HP.turn {r' : List Rc} {a' : Atom} (h : HP n w g b r r' (a :: F) W) {W' : World} (hb : ∀ X, Own n w W (a :: X) → Own n w W' (a' :: X)) : HP n w g b r r' (a' :: F) W' := by
  obtain ⟨pg, pr, hg, hr, ho⟩ := h
  exact ⟨pg, pr, hg, hr, (hb _ ho.pull).push⟩
theorem HP.tail {r' : List Rc} (h : HP n w g b r r' (a :: F) W) : HP n w g b r r' F W := by
  obtain ⟨pg, pr, hg, hr, ho⟩ := h
  exact ⟨pg, pr, hg, hr, ho.pull.tail⟩
theorem HP.hold {r' : List Rc} (h : HP n w g b r r' F W) {x : Atom} (hx : x ∈ F) : x.Q W := by
  obtain ⟨pg, pr, hg, hr, ho⟩ := h
  exact ho.hold x (List.mem_append_right _ (List.mem_append_right _ hx))
theorem HP.head {r' : List Rc} (h : HP n w g b r r' (a :: F) W) : ∃ X, Own n w W (a :: X) := by
  obtain ⟨pg, pr, hg, hr, ho⟩ := h
  exact ⟨_, ho.pull⟩
/-- what a call of Add does to rows -/
def addR (r : List Rc) (buf : Int) (on : List Int) : List Rc := if ∀ x ∈ on, 0 ≤ x ∧ x < (r.length : Int) then r ++ [⟨buf, on, false⟩] else r
def addV (r : List Rc) (on : List Int) : Int × Int := if ∀ x ∈ on, 0 ≤ x ∧ x < (r.length : Int) then ((r.length : Int), 0) else (0, 1)
theorem BP.gadd (h : BP n w g b r F W) (buf : Int) (hb : I64 buf) (A : Option Addr) (c : Nat) (on : List Int) (hl : r.length + 1 < 274877906944) (ht : tot r + on.length < 274877906944) (hr : Reads n w F A on) :
    Calls Try.prog 16 #[.pointer (some ⟨g, 0, none⟩), .int .i64 buf, .slice A on.length c] W fun e W' => e = .returned (.tuple #[.int .i64 (addV r on).1, .int .i64 (addV r on).2]) ∧ HP n w g b (addR r buf on) r F W' := by
  obtain ⟨pg, pr, hg, hrr, ho⟩ := h
  unfold addR addV
  by_cases hon : ∀ x ∈ on, 0 ≤ x ∧ x < (r.length : Int)
  · rw [if_pos hon, if_pos hon]
    refine (gadd_c hg ho buf hb A c on hl ht hr.app hon).mono ?_
    rintro e W' ⟨ps', he, hg', ho'⟩
    exact ⟨he, ps', pr, hg', hrr, ho'⟩
  · rw [if_neg hon, if_neg hon]
    refine (gadd_no hg ho buf A c on (by omega) hr.app hon).mono ?_
    rintro e W' ⟨he, rfl⟩
    exact ⟨he, pg, pr, hg, hrr, ho⟩
theorem HP.radd {on : List Int} {buf : Int} (h : HP n w g b (addR r buf on) r F W) (hs : Sm r) (A : Option Addr) (c : Nat) (hl : on.length < 274877906944) (hr : Reads n w F A on) :
    Calls Try.prog 25 #[.pointer (some ⟨b, 0, none⟩), .int .i64 buf, .slice A on.length c] W fun e W' => e = .returned (.tuple #[.int .i64 (addV r on).1, .int .i64 (addV r on).2]) ∧ BP n w g b (addR r buf on) F W' := by
  obtain ⟨pg, pr, hg, hrr, ho⟩ := h
  unfold addR at hg ⊢
  unfold addV
  by_cases hon : ∀ x ∈ on, 0 ≤ x ∧ x < (r.length : Int)
  · rw [if_pos hon] at hg ⊢
    rw [if_pos hon]
    refine (radd_yes hrr hs ho.swp buf A c on hl hr.app hon).mono ?_
    rintro e W' ⟨ps', he, hg', ho'⟩
    exact ⟨he, pg, ps', hg, hg', ho'.swp⟩
  · rw [if_neg hon] at hg ⊢
    rw [if_neg hon]
    refine (radd_no hrr hs ho.swp buf A c on hl hr.app hon).mono ?_
    rintro e W' ⟨he, ho'⟩
    exact ⟨he, pg, pr, hg, hrr, ho'.swp⟩
theorem BP.gwr (h : BP n w g b r F W) (buf : Int) (hb : I64 buf) :
    Calls Try.prog 12 #[.pointer (some ⟨g, 0, none⟩), .int .i64 buf] W fun e W' => ∃ A c, e = .returned (.slice A (nextR r buf).length c) ∧ HP n w g b (writtenR r buf) r (rowA 3 1 (.slice A (nextR r buf).length c) (nextR r buf).length (ints (nextR r buf)) :: F) W' := by
  obtain ⟨pg, pr, hg, hrr, ho⟩ := h
  refine (gwritten_c hg buf hb ho).mono ?_
  rintro e W' ⟨v, ps', rfl, hg', ho'⟩
  obtain ⟨A, c, rfl⟩ := own_slice ho'.row
  exact ⟨A, c, rfl, ps', pr, hg', hrr, ho'.push⟩
theorem HP.rwr {buf : Int} (h : HP n w g b (writtenR r buf) r F W) (hw : WfR r) (hs : Sm r) :
    Calls Try.prog 27 #[.pointer (some ⟨b, 0, none⟩), .int .i64 buf] W fun e W' => ∃ A c, e = .returned (.slice A (nextR r buf).length c) ∧ BP n w g b (writtenR r buf) (rowA 3 1 (.slice A (nextR r buf).length c) (nextR r buf).length (ints (nextR r buf)) :: F) W' := by
  obtain ⟨pg, pr, hg, hrr, ho⟩ := h
  refine (rwritten_c hrr hw hs ho.swp buf).mono ?_
  rintro e W' ⟨v, ps', rfl, hg', ho'⟩
  obtain ⟨A, c, rfl⟩ := own_slice ho'.row
  refine ⟨A, c, rfl, pg, ps', hg, hg', ?_⟩
  exact ho'.push.swp
theorem BP.same {A B : Option Addr} {c d : Nat} {l : List Int} (h : BP n w g b r (rowA 3 1 (.slice B l.length d) l.length (ints l) :: rowA 3 1 (.slice A l.length c) l.length (ints l) :: F) W) (hl : l.length < 1099511627776) :
    Calls Try.prog 18 #[.slice A l.length c, .slice B l.length d] W fun e W' => e = .returned (.bool true) ∧ BP n w g b r F W' := by
  obtain ⟨pg, pr, hg, hrr, ho⟩ := h
  have h1 : Reads n w (pg ++ (pr ++ (rowA 3 1 (.slice B l.length d) l.length (ints l) :: rowA 3 1 (.slice A l.length c) l.length (ints l) :: F))) A l := Reads.row (c := c) (k := l.length) (by simp)
  have h2 : Reads n w (pg ++ (pr ++ (rowA 3 1 (.slice B l.length d) l.length (ints l) :: rowA 3 1 (.slice A l.length c) l.length (ints l) :: F))) B l := Reads.row (c := d) (k := l.length) (by simp)
  refine (same_c A c l B d l hl hl h1 h2 ho).mono ?_
  rintro e W' ⟨he, ho'⟩
  have he2 : e = .returned (.bool true) := he.trans (congrArg (fun x => Ending.returned (.bool x)) (sameI_self l))
  have h3 : BP n w g b r (rowA 3 1 (.slice B l.length d) l.length (ints l) :: rowA 3 1 (.slice A l.length c) l.length (ints l) :: F) W' := ⟨pg, pr, hg, hrr, ho'⟩
  exact ⟨he2, h3.tail.tail⟩
end
theorem stepR_eq (r : List Rc) (a : Ac) : stepR r a = if a.way = 0 then addR r a.buf a.on else writtenR r a.buf := rfl
end Go.Proofs.Ytjfejimghbohdaa
