/-
  The walk of slices.DeleteFunc with the closure of Release. Conditions: lengths.
-/
import Derived.Test.YtcmiboipgngjaaaL
namespace Go.Proofs.Ytcmiboipgngjaaa
set_option linter.unusedVariables false
set_option linter.unusedSimpArgs false
open Go.RowKit Go.Maps

section
variable {n : Nat} {w W : World} {F : List Atom} {b c : Nat} {A : Option Addr} {l : List Lk} {t : Int}
/-- a store to an element finds its cells -/
theorem off_store {g off N i : Nat} {xs : List Value} (h : offRow W 3 (.slice (some ⟨g, off, none⟩) N c) N xs) (hi : i < N) :
    (∃ v, W.cell? ⟨g, off + i * 3, none⟩ = some v) ∧ (∃ v, W.cell? ⟨g, off + i * 3 + 1, none⟩ = some v) ∧ (∃ v, W.cell? ⟨g, off + i * 3 + 2, none⟩ = some v) ∧ W.frozen? ⟨g, off + i * 3, none⟩ = false ∧ W.frozen? ⟨g, off + i * 3 + 1, none⟩ = false ∧ W.frozen? ⟨g, off + i * 3 + 2, none⟩ = false := by
  rcases h.2 with ⟨h2, _⟩ | ⟨g', off', cap', h2, hlt, h3, h4, h5, h6⟩
  · cases h2
  · cases h2
    have q := fun k (hk : k < 3) => h6 (i * 3 + k) (by omega)
    have q0 := q 0 (by omega)
    have q1 := q 1 (by omega)
    have q2 := q 2 (by omega)
    simp only [← Nat.add_assoc, Nat.add_zero] at q0 q1 q2
    exact ⟨Option.isSome_iff_exists.1 q0.1, Option.isSome_iff_exists.1 q1.1, Option.isSome_iff_exists.1 q2.1, q0.2, q1.2, q2.2⟩
theorem fstAt_none {p : Lk → Bool} {l : List Lk} (h : l.findIdx? p = none) : fstAt p l = -1 ∧ l.filter (fun x => !p x) = l := by
  refine ⟨by unfold fstAt; rw [h], List.filter_eq_self.2 fun x hx => ?_⟩
  simp [List.findIdx?_eq_none_iff.1 h x hx]
theorem fstAt_some {p : Lk → Bool} {l : List Lk} {i : Nat} (h : l.findIdx? p = some i) : fstAt p l = (i : Int) ∧ i < l.length ∧ (l.take (i + 1)).filter (fun x => !p x) = l.take i := by
  obtain ⟨hi, h1, h2⟩ := List.findIdx?_eq_some_iff_getElem.1 h
  refine ⟨by unfold fstAt; rw [h], hi, ?_⟩
  rw [List.take_succ_eq_append_getElem hi, List.filter_append]
  have e1 : [l[i]].filter (fun x => !p x) = [] := by simp [h1]
  rw [e1, List.append_nil]
  refine List.filter_eq_self.2 fun x hx => ?_
  obtain ⟨k, hk, rfl⟩ := List.getElem_of_mem hx
  rw [List.length_take] at hk
  rw [List.getElem_take]
  have := h2 k (by omega)
  simpa using this
set_option maxHeartbeats 4000000 in
set_option maxRecDepth 100000 in
theorem delete_c (h : Own n w W (offA 3 (.slice A l.length c) l.length (cellsK l) :: F)) (hb : blkA b #[.int .i64 t] 3 ∈ F) (hl : l.length < 1099511627776) :
    Calls Try.prog 32 #[.slice A l.length c, .func (.func 33) #[] #[.pointer (some ⟨b, 0, none⟩)]] W fun e W' => ∃ v, e = .returned v ∧ Own n w W' (offA 3 v (l.filter (fun x => !(x.th == t))).length (cellsK (l.filter (fun x => !(x.th == t)))) :: F) := by
  have hq : offRow W 3 (.slice A l.length c) l.length (cellsK l) := h.head
  have hbk : Blk W b #[.int .i64 t] 3 := h.hold (blkA b #[.int .i64 t] 3) (List.mem_cons_of_mem _ hb)
  have HC := hide (index33_c A c b l t W (off_lks hq) (hbk.cell 0) (by omega))
  cases hf : l.findIdx? (fun x => x.th == t) with
  | none =>
    obtain ⟨e1, e2⟩ := fstAt_none hf
    rw [e1] at HC
    rw [e2]
    have H := hide h
    clear h hq hbk hf e1 e2
    go_enter Try.func32, Try.ntmps32
    go_wp2_with (go_at_call 43; refine HC.out.mono ?_; rintro e w' ⟨rfl, hb2⟩; have HB2 := hide hb2; clear hb2)
    go_ret
    exact ⟨_, rfl, H.out.above HB2.out⟩
  | some i0 =>
    obtain ⟨e1, hi0, e3⟩ := fstAt_some hf
    rw [e1] at HC
    have hcap : ∃ g off, A = some ⟨g, off, none⟩ ∧ l.length ≤ c := by
      rcases hq.2 with ⟨_, h2⟩ | ⟨g, off, cap, h1, _, h3, _⟩
      · omega
      · cases h1; exact ⟨g, off, rfl, h3⟩
    obtain ⟨g, off, rfl, hc⟩ := hcap
    have H := hide h
    have H3 := hide e3
    have HBM := hide hb
    have hne : ¬ (i0 : Int) = -1 := by omega
    have hne2 : ((i0 : Int) == -1) = false := by simp
    clear h hq hbk hf e1 e3 hb
    go_enter Try.func32, Try.ntmps32
    go_wp2_with (go_at_call 43; refine HC.out.mono ?_; rintro e w1 ⟨rfl, hb2⟩; have HB2 := hide (H.out.above hb2); clear hb2)
    go_loopg [5, 6] (l.length - (i0 + 1)) (fun M i5 i6 wr => ∃ (i j : Nat) (m : List Lk), M = l.length - j ∧ i < j ∧ j ≤ l.length ∧ i5 = .int .i64 i ∧ i6 = .int .i64 j ∧ Hid (m.length = l.length ∧ m.take i = (l.take j).filter (fun x => !(x.th == t)) ∧ m.drop j = l.drop j) ∧ Hid (Own n w wr (offA 3 (.slice (some ⟨g, off, none⟩) l.length c) l.length (cellsK m) :: F)))
    case atStart => exact ⟨i0, i0 + 1, l, rfl, by omega, by omega, by go_num, by go_num, hide ⟨rfl, H3.out.symm, rfl⟩, HB2⟩
    case round =>
      obtain ⟨i, j, m, rfl, hij, hjl, rfl, rfl, HM, HW⟩ := hrel
      obtain ⟨m1, m2, m3⟩ := HM.out
      by_cases hlt : j < l.length
      · have hjm : j < m.length := by omega
        have hx : m[j] = l[j] := by
          have h1 := List.drop_eq_getElem_cons hjm
          rw [m3, List.drop_eq_getElem_cons hlt] at h1
          exact (List.cons.inj h1).1.symm
        have hd : m.drop (j + 1) = l.drop (j + 1) := by
          rw [← List.drop_drop, m3, List.drop_drop]
        have hoff : offRow wr 3 (.slice (some ⟨g, off, none⟩) l.length c) l.length (cellsK m) := HW.out.head
        obtain ⟨g', off', e9, hc9⟩ := off_lks hoff (by intro e; rw [e] at hjm; simp at hjm)
        cases e9
        obtain ⟨u0, u1, u2⟩ := hc9 j hjm
        rw [hx] at u0 u1 u2
        have HT := hide (show (l.take (j + 1)).filter (fun x => !(x.th == t)) = (l.take j).filter (fun x => !(x.th == t)) ++ (if (l[j].th == t) = true then [] else [l[j]]) by
          rw [List.take_succ_eq_append_getElem hlt, List.filter_append]
          congr 1
          rw [List.filter_cons]
          cases (l[j].th == t) <;> rfl)
        have hnb := HW.out.newBlk #[.int .i64 l[j].th, .int .i64 l[j].tg, .bool l[j].al] 27
        have hbb : Blk _ b #[.int .i64 t] 3 := hnb.hold (blkA b #[.int .i64 t] 3) (List.mem_cons_of_mem _ (List.mem_cons_of_mem _ HBM.out))
        have HC2 := hide (release1_c l[j] b t _ (hbb.cell 0))
        have HNB := hide hnb
        have HSET := hide (fun V (h : Own n w V (offA 3 (.slice (some ⟨g, off, none⟩) l.length c) l.length (cellsK m) :: F)) => off_set (m := m) (i := i) (by rw [m1]; exact h) (by omega) l[j])
        have o1 : (0 : Int) ≤ (j : Int) := by omega
        have o2 : (j : Int) < (l.length : Int) := by omega
        have o3 : (0 : Int) ≤ (i : Int) := by omega
        have o4 : (i : Int) < (l.length : Int) := by omega
        unfold Lk.v at HC2
        clear hc9 hoff hnb hbb
        have HX := hide (show (m.set i l[j]).take (i + 1) = m.take i ++ [l[j]] ∧ (m.set i l[j]).drop (j + 1) = l.drop (j + 1) ∧ (m.set i l[j]).length = l.length by
          refine ⟨?_, by rw [List.drop_set_of_lt (by omega), hd], by rw [List.length_set, m1]⟩
          rw [List.take_succ_eq_append_getElem (by rw [List.length_set]; omega), List.take_set_of_le (by omega), List.getElem_set_self])
        have HFZ := hide (fun V (h : Own n w V (blkA wr.heap.size #[.int .i64 l[j].th, .int .i64 l[j].tg, .bool l[j].al] 27 :: offA 3 (.slice (some ⟨g, off, none⟩) l.length c) l.length (cellsK m) :: F)) => off_store h.tail.head (i := i) (by omega))
        generalize l[j] = x at *
        cases hq : (x.th == t) with
        | true =>
          rw [hq] at HC2
          have HTT := hide (HT.out.trans (by rw [if_pos hq, List.append_nil]))
          clear hq HT HX
          generalize x.th = y0 at u0 HC2 HNB HFZ
          generalize x.tg = y1 at u1 HC2 HNB HFZ
          generalize x.al = y2 at u2 HC2 HNB HFZ
          go_wp2_with (go_at_call 33; refine HC2.out.mono ?_; rintro e w2 ⟨rfl, hb2⟩; have HB3 := hide (HNB.out.above hb2); clear hb2)
          go_roundg (l.length - (j + 1))
          case measure => omega
          case rel => exact ⟨i, j + 1, m, by omega, by omega, by omega, by go_num, by go_num, hide ⟨m1, m2.trans HTT.out.symm, hd⟩, hide HB3.out.tail⟩
        | false =>
          rw [hq] at HC2
          have HTT := hide (HT.out.trans (by rw [if_neg (by simp [hq])]))
          clear hq HT
          have HSS := hide (fun V h => HSET.out V h)
          generalize hy0 : x.th = y0 at u0 HC2 HNB HFZ HSS
          generalize hy1 : x.tg = y1 at u1 HC2 HNB HFZ HSS
          generalize hy2 : x.al = y2 at u2 HC2 HNB HFZ HSS
          clear HSET hy0 hy1 hy2
          go_wp2_with (go_at_call 33; refine HC2.out.mono ?_; rintro e w2 ⟨rfl, hb2⟩; have HB3 := hide (HNB.out.above hb2); obtain ⟨⟨t0, s0⟩, ⟨t1, s1⟩, ⟨t2, s2⟩, s3, s4, s5⟩ := HFZ.out w2 HB3.out; have p0 := HB3.out.head.cell 0; have p1 := HB3.out.head.cell 1; have p2 := HB3.out.head.cell 2; clear hb2)
          go_roundg (l.length - (j + 1))
          case measure => omega
          case rel => exact ⟨i + 1, j + 1, m.set i x, by omega, by omega, by omega, by go_num, by go_num, hide ⟨HX.out.2.2, by rw [HX.out.1, m2, HTT.out], HX.out.2.1⟩, hide (by have := HSS.out w2 HB3.out.tail; rwa [HX.out.2.2] at this)⟩
      · obtain rfl : j = l.length := by omega
        have o1 : ¬ (l.length : Int) < (l.length : Int) := by omega
        have hfl : m.take i = l.filter (fun x => !(x.th == t)) := by rw [m2, List.take_of_length_le (Nat.le_refl _)]
        have hil : (l.filter (fun x => !(x.th == t))).length = i := by rw [← hfl, List.length_take]; omega
        have hoff : offRow wr 3 (.slice (some ⟨g, off, none⟩) l.length c) l.length (cellsK m) := HW.out.head
        have hsp : ∀ k, k < l.length * 3 → (wr.cell? ⟨g, off + k, none⟩).isSome = true ∧ wr.frozen? ⟨g, off + k, none⟩ = false := by
          rcases hoff.2 with ⟨h2, _⟩ | ⟨g', off', cap', h2, hlt', h3, h4, h5, h6⟩
          · cases h2
          · cases h2
            exact fun k hk => h6 k (by omega)
        have hcl := fun ty => run_clear27 wr g (off + i * 3) (l.length - i) (c - i) (by omega) (fun k hk => by rw [Nat.add_assoc]; exact (hsp _ (by omega)).1) (fun k hk => by rw [Nat.add_assoc]; exact (hsp _ (by omega)).2) ty
        obtain ⟨zs, hz, hcl⟩ := hcl 0
        have HZ := hide (off_tail (i := i) (by have := HW.out; rw [← m1] at this; exact this) (by omega) (by rw [m1]; exact hz))
        rw [hfl] at HZ
        have HZ2 := hide (show Own n w (wr.setCells g (off + i * 3) zs) (offA 3 (.slice (some ⟨g, off, none⟩) i c) (l.filter (fun x => !(x.th == t))).length (cellsK (l.filter (fun x => !(x.th == t)))) :: F) by rw [hil]; exact HZ.out)
        have n1 : ¬ c = i := by omega
        have n2 : i ≤ c := by omega
        have n3 : i ≤ l.length := by omega
        have n4 : (i : Int) ≤ (c : Int) := by omega
        have n5 : (i : Int) ≤ (l.length : Int) := by omega
        have n6 : (0 : Int) ≤ (i : Int) := by omega
        clear hoff hsp hz m1 m2 m3 HM hfl hil
        go_wp2
        go_ret
        exact ⟨_, rfl, HZ2.out⟩
end
end Go.Proofs.Ytcmiboipgngjaaa
