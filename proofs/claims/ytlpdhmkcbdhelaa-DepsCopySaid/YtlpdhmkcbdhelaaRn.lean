/-
  The document's own Need. Conditions: the rows are few.
-/
import Derived.Test.YtlpdhmkcbdhelaaNr
namespace Go.Proofs.Ytlpdhmkcbdhelaa
set_option linter.unusedVariables false
set_option linter.unusedSimpArgs false
open Go.RowKit Go.Maps

theorem info4n : (Try.prog.info? 4).map (fun i => (i.zero, i.size, i.bytes)) = some (some (.bool false), 1, 1) := by kernel_rfl
def WP (n : Nat) (w : World) (wb N : Nat) (s : Int → Bool) (G : List Atom) (W : World) : Prop := Own n w W (rowA 4 1 (.slice (some ⟨wb, 0, none⟩) N N) N (wL N s) :: G)
section
variable {n b wb N : Nat} {w W : World} {F ps G : List Atom} {r : List Rc} {s : Int → Bool}
theorem WP.cell (h : WP n w wb N s G W) {i : Nat} (hi : i < N) : W.cell? ⟨wb, i, none⟩ = some (.bool (s (i : Int))) := by
  have := h.head
  exact (World.ownsRow.cellAt this i (by omega)).trans (wL_at hi)
theorem WP.frozen (h : WP n w wb N s G W) (i : Nat) : W.frozen? ⟨wb, i, none⟩ = false := World.ownsRow.frozenAt h.head _
theorem WP.set (h : WP n w wb N s G W) {i : Nat} (hi : i < N) : WP n w wb N (markS s (i : Int)) G (W.setCell ⟨wb, i, none⟩ (.bool true)) := by
  have := Own.setRow h i (.bool true)
  rw [wL_set hi] at this
  exact this
theorem good_iff {r : List Rc} {i : Nat} (hi : i < r.length) : good r (i : Int) ↔ (r.getD i zr).done = false := by
  have e : rd r (i : Int) = r.getD i zr := by unfold rd; rw [Int.toNat_natCast]
  unfold good
  rw [e]
  exact ⟨fun h => h.2.2, fun h => ⟨by omega, by omega, h⟩⟩
set_option maxHeartbeats 8000000 in
set_option maxRecDepth 100000 in
theorem rneed_c (hg : IsR b r ps) (hw : WfR r) (hs : Sm r) (ho : Own n w W (ps ++ F)) (A : Option Addr) (c : Nat) (ids : List Int) (hl : ids.length < 274877906944) (hr : Reads n w F A ids) :
    Calls Try.prog 28 #[.pointer (some ⟨b, 0, none⟩), .slice A ids.length c] W fun e W' => ∃ v xs, e = .returned v ∧ needR r ids xs ∧ Own n w W' (rowA 3 1 v xs.length (ints xs) :: (ps ++ F)) := by
  obtain ⟨Al, cl, x0⟩ := hg.slice (fun a ha => ho.hold a (List.mem_append_left _ ha))
  have hlen := hs.len
  have hmk : ∀ (V : World), (Instr.makeSlice 73 (.int .i64 (r.length : Int)) (.int .i64 (r.length : Int))).run Try.prog V = .ok (.slice (some ⟨V.heap.size, 0, none⟩) r.length r.length) (V.alloc (.cells (madeCells #[.bool false] r.length) 4)) := fun V => by
    obtain ⟨i0, hi, hz0, hz1, hz2⟩ := info_parts info4n
    have := run_make (P := Try.prog) V 73 4 i0 (.bool false) Try.underlying73 hi hz0 .i64 .i64 (r.length : Int) (r.length : Int) (by omega) (by omega) (by rw [hz2]; omega) (by omega)
    rw [hz1] at this
    simpa [Value.cells] using this
  have H1 := hide (show WP n w W.heap.size r.length (fun _ => false) (ps ++ F) (W.alloc (.cells (madeCells #[.bool false] r.length) 4)) from by
    have := ho.newRow (e := 4) (sz := 1) (madeCells #[.bool false] r.length) r.length (by unfold maxLen; omega) (by rw [size_madeCells]; omega)
    rw [toList_madeCells_one, ← wL_zero] at this
    exact this)
  have HG := hide hg
  have HW := hide hw
  have HS := hide hs
  have HR := hide hr
  clear hg hw hs ho hr
  go_enter Try.func28, Try.ntmps28
  go_upto_region 2 with (fail)
  generalize W.alloc (.cells (madeCells #[.bool false] r.length) 4) = W1 at H1 ⊢
  generalize W.heap.size = wb at H1 ⊢
  clear hmk x0
  go_wp2
  go_loopg [6] ids.length (fun m i W => ∃ (k : Nat) (s : Int → Bool), k ≤ ids.length ∧ m = ids.length - k ∧ i = .int .i64 k ∧ Hid (N1 r ids k s) ∧ Hid (WP n w wb r.length s (ps ++ F) W))
  case atStart => exact ⟨0, _, by omega, by omega, rfl, hide (N1.start r ids), H1⟩
  case round =>
    obtain ⟨k, s, hk, rfl, rfl, HN, HO⟩ := hrel
    clear H1
    have hq : ∀ a ∈ ps, a.Q wr := fun a ha => HO.out.hold a (List.mem_cons_of_mem _ (List.mem_append_left _ ha))
    have HRC := hide (fun (i : Nat) (hi : i < r.length) => HG.out.cellAt hq hi)
    obtain ⟨Al, cl, x0⟩ := HG.out.slice hq
    clear hq
    by_cases hlt : k < ids.length
    · obtain ⟨ba, oa, rfl, _, hc⟩ := (HR.out wr (HO.out.sub ((List.sublist_append_right _ _).cons _))) (by intro e; rw [e] at hlt; simp at hlt)
      have y0 := hc k hlt
      have hgd : ids.getD k 0 = ids[k] := by simp [hlt]
      rw [hgd] at y0
      have HSK := hide (fun h => HN.out.skip hlt h)
      have HMK := hide (fun h => HN.out.mark hlt h)
      have o1 : (0 : Int) ≤ (k : Int) := by omega
      have o2 : (k : Int) < (ids.length : Int) := by omega
      clear hc hgd
      generalize ids[k] = x at y0 HSK HMK
      by_cases hx0 : 0 ≤ x
      · obtain ⟨i, rfl⟩ := Int.eq_ofNat_of_zero_le hx0
        by_cases hxl : i < r.length
        · obtain ⟨gl, c', von, x0', -, -, x3, -⟩ := HRC.out i hxl
          obtain ⟨rfl, rfl⟩ : Al = some ⟨gl, 0, none⟩ ∧ cl = c' := by rw [x0] at x0'; injection x0' with h; injection h with h1 h2 h3; exact ⟨h1, h3⟩
          clear x0'
          have o3 : (i : Int) < (r.length : Int) := by omega
          have o4 : (0 : Int) ≤ (i : Int) := by omega
          have HGI := hide (good_iff hxl)
          cases hd : (r.getD i zr).done with
          | true =>
            have HE := hide (HSK.out (fun h => by rw [HGI.out.1 h] at hd; cases hd))
            rw [hd] at x3
            clear hd
            go_wp2
            go_quiet (fail)
            go_wp2
            go_roundg (ids.length - (k + 1))
            case measure => omega
            case rel => exact ⟨k + 1, s, by omega, by omega, by go_num, HE, hide (HO.out.drewN _)⟩
          | false =>
            have HE := hide (HMK.out (HGI.out.2 hd))
            rw [hd] at x3
            have z0 := HO.out.cell hxl
            have zf := HO.out.frozen i
            have HZ := hide (HO.out.set hxl)
            clear hd
            go_wp2
            go_quiet (fail)
            go_wp2
            go_roundg (ids.length - (k + 1))
            case measure => omega
            case rel => exact ⟨k + 1, markS s (i : Int), by omega, by omega, by go_num, HE, hide (by first | exact HZ.out.drewN _ | exact (HO.out.drewN _ : WP _ _ _ _ _ _ _).set hxl)⟩
        · have o3 : ¬ (i : Int) < (r.length : Int) := by omega
          have o3' : r.length ≤ i := by omega
          have HE := hide (HSK.out (fun h => by have := h.2.1; omega))
          go_wp2
          go_quiet (fail)
          go_wp2
          go_roundg (ids.length - (k + 1))
          case measure => omega
          case rel => exact ⟨k + 1, s, by omega, by omega, by go_num, HE, hide (HO.out.drewN _)⟩
      · have o4 : decide (0 ≤ x) = false := decide_eq_false hx0
        have HE := hide (HSK.out (fun h => hx0 h.1))
        clear hx0
        go_wp2
        go_quiet (fail)
        go_wp2
        go_roundg (ids.length - (k + 1))
        case measure => omega
        case rel => exact ⟨k + 1, s, by omega, by omega, by go_num, HE, hide (HO.out.drewN _)⟩
    · obtain rfl : k = ids.length := by omega
      have o2 : ¬ (ids.length : Int) < (ids.length : Int) := by omega
      have HN2 := hide HN.out.final
      have hlen := HS.out.len
      have p1 : IntKind.i64.wrap ((r.length : Int) - 1) = (r.length : Int) - 1 := IntWalk.i64_in _ (by omega)
      clear HRC HN
      go_wp2
      obtain ⟨t0, ht0⟩ : ∃ t0 : Int, t0 = (r.length : Int) - 1 := ⟨_, rfl⟩
      rw [← ht0]
      have HT0 := hide ht0
      clear ht0 p1
      go_loopg [7] r.length (fun m i W => ∃ (t : Int) (s : Int → Bool), i = .int .i64 t ∧ Hid (-1 ≤ t ∧ t < (r.length : Int)) ∧ Hid (m = (t + 1).toNat) ∧ Hid (N2 r ids t s) ∧ Hid (WP n w wb r.length s (ps ++ F) W))
      case atStart => exact ⟨t0, s, rfl, hide (by have := HT0.out; omega), hide (by have := HT0.out; omega), hide (by rw [HT0.out]; exact HN2.out), HO⟩
      case round =>
        obtain ⟨t, s, rfl, HT, HM, HN, HO⟩ := hrel
        clear HN2 HT0
        have hq : ∀ a ∈ ps, a.Q wr := fun a ha => HO.out.hold a (List.mem_cons_of_mem _ (List.mem_append_left _ ha))
        obtain ⟨Al, cl, x0⟩ := HG.out.slice hq
        by_cases ht : 0 ≤ t
        · obtain ⟨i, rfl⟩ := Int.eq_ofNat_of_zero_le ht
          have hil : i < r.length := by have := HT.out; omega
          have z0 := HO.out.cell hil
          have p0 : (0 : Int) ≤ (i : Int) := by omega
          have p2 : (i : Int) < (r.length : Int) := by omega
          obtain ⟨tj, htj⟩ : ∃ tj, tj = (i : Int) - 1 := ⟨_, rfl⟩
          have HM' := hide (show (tj + 1).toNat < gk from by have := HM.out; omega)
          have HT' := hide (show -1 ≤ tj ∧ tj < (r.length : Int) from by omega)
          have p3 : IntKind.i64.wrap ((i : Int) - 1) = tj := by rw [htj]; exact IntWalk.i64_in _ (by omega)
          have HTJ := hide htj
          clear htj
          clear ht
          cases hsi : s (i : Int) with
          | false =>
            rw [hsi] at z0
            have HE := hide (show N2 r ids tj s from by rw [HTJ.out]; exact HN.out.skip hsi)
            clear hsi hq
            go_wp2
            go_roundg (tj + 1).toNat
            case measure => exact HM'.out
            case rel => exact ⟨tj, s, rfl, HT', hide rfl, HE, HO⟩
          | true =>
            rw [hsi] at z0
            have HE := hide (N3.start HN.out hsi)
            have hxon := HW.out.on i hil
            have honl := HS.out.on i hil
            have hrd : rd r (i : Int) = r.getD i zr := by unfold rd; rw [Int.toNat_natCast]
            have HRD := hide hrd
            obtain ⟨on, hone⟩ : ∃ on, (r.getD i zr).on = on := ⟨_, rfl⟩
            rw [hone] at hxon honl
            have HXO := hide hxon
            have HONL := hide honl
            have HONE := hide hone
            clear hsi hq hxon honl hrd x0 hone
            go_upto_region 12 with (fail)
            go_loopg [8] on.length (fun m v W => ∃ (j : Nat) (s : Int → Bool), j ≤ on.length ∧ m = on.length - j ∧ v = .int .i64 j ∧ Hid (N3 r ids (i : Int) j s) ∧ Hid (WP n w wb r.length s (ps ++ F) W))
            case atStart => exact ⟨0, s, by omega, by omega, rfl, HE, HO⟩
            case round =>
              obtain ⟨j, s, hj, rfl, rfl, HN, HO⟩ := hrel
              clear HE z0
              have hq : ∀ a ∈ ps, a.Q wr := fun a ha => HO.out.hold a (List.mem_cons_of_mem _ (List.mem_append_left _ ha))
              have HRC := hide (fun (i : Nat) (hi : i < r.length) => HG.out.cellAt hq hi)
              obtain ⟨gl, cl, von, u0, -, u2, -, hon⟩ := HRC.out i hil
              obtain ⟨Ao, co, rfl⟩ := own_slice hon
              have HSK := hide (fun (h1 : j < (rd r (i : Int)).on.length) h2 => HN.out.skip h1 h2)
              have HMK := hide (fun (h1 : j < (rd r (i : Int)).on.length) h2 h3 => HN.out.mark h1 h2 h3)
              have HFN := hide (fun (h : j = (rd r (i : Int)).on.length) => (h ▸ HN.out : N3 r ids (i : Int) (rd r (i : Int)).on.length s).final)
              have hone2 : (rd r (i : Int)).on = on := by rw [HRD.out]; exact HONE.out
              simp only [hone2] at HSK HMK HFN
              rw [HONE.out] at u2 hon
              have hxo := HXO.out
              have hoi := Ints.of_own (B := wr.heap.size) hon (Nat.le_refl _)
              have honl := HONL.out
              clear hon hq HN
              have q1 : (0 : Int) ≤ (j : Int) := by omega
              by_cases hjl : j < on.length
              · obtain ⟨ba, oa, rfl, _, hc⟩ := hoi (by intro e; rw [e] at hjl; simp at hjl)
                have y0 := hc j hjl
                have hgd : on.getD j 0 = on[j] := by simp [hjl]
                rw [hgd] at y0
                have hx := hxo on[j] (List.getElem_mem hjl)
                have HSK2 := hide (HSK.out hjl)
                have HMK2 := hide (HMK.out hjl)
                clear hc hgd hxo HSK HMK HFN
                generalize on[j] = x at y0 hx HSK2 HMK2
                obtain ⟨t, rfl⟩ := Int.eq_ofNat_of_zero_le hx.1
                have htl : t < r.length := by omega
                have q2 : (j : Int) < (on.length : Int) := by omega
                have q3 : (0 : Int) ≤ (t : Int) := by omega
                have q4 : (t : Int) < (r.length : Int) := by omega
                obtain ⟨gl', c', von', x0', -, -, x3, -⟩ := HRC.out t htl
                obtain ⟨rfl, rfl⟩ : gl = gl' ∧ cl = c' := by rw [u0] at x0'; injection x0' with h; injection h with h1 h2 h3; injection h1 with h1; injection h1 with h1; exact ⟨h1, h3⟩
                clear x0'
                have HGI := hide (good_iff htl)
                have HLT := hide (show (t : Int) < (i : Int) from hx.2)
                clear hx HRC
                cases hd : (r.getD t zr).done with
                | true =>
                  have HE := hide (HSK2.out (fun h => by rw [HGI.out.1 h] at hd; cases hd))
                  rw [hd] at x3
                  clear hd
                  go_wp2
                  go_quiet (fail)
                  go_wp2
                  go_roundg (on.length - (j + 1))
                  case measure => omega
                  case rel => exact ⟨j + 1, s, by omega, by omega, by go_num, HE, hide (HO.out.drewN _)⟩
                | false =>
                  have HE := hide (HMK2.out (HGI.out.2 hd) HLT.out)
                  rw [hd] at x3
                  have z0 := HO.out.cell htl
                  have zf := HO.out.frozen t
                  have HZ := hide (HO.out.set htl)
                  clear hd
                  go_wp2
                  go_quiet (fail)
                  go_wp2
                  go_roundg (on.length - (j + 1))
                  case measure => omega
                  case rel => exact ⟨j + 1, markS s (t : Int), by omega, by omega, by go_num, HE, hide (by first | exact HZ.out.drewN _ | exact (HO.out.drewN _ : WP _ _ _ _ _ _ _).set htl)⟩
              · have HE := hide (show N2 r ids tj s from by rw [HTJ.out]; exact HFN.out (by omega))
                have q2 : ¬ (j : Int) < (on.length : Int) := by omega
                go_wp2
                go_roundg (tj + 1).toNat
                case measure => exact HM'.out
                case rel => exact ⟨tj, s, rfl, HT', hide rfl, HE, HO⟩
        · have ht1 : t = -1 := by have := HT.out; omega
          have HF := hide (show N2 r ids (-1) s from ht1 ▸ HN.out)
          clear ht1
          obtain rfl : t = -1 := by have := HT.out; omega
          have HH := hide (fun k : Nat => And.intro (prefR_yes (p := fun i : Nat => s (i : Int)) (k := k)) (And.intro (prefR_no (p := fun i : Nat => s (i : Int)) (k := k)) (prefR_len (fun i : Nat => s (i : Int)) k)))
          have HFN := hide (need_fin HF.out)
          have HP0 := hide (show prefR (fun i : Nat => s (i : Int)) 0 = [] from rfl)
          have HO0 := hide (Own.nilRow HO.out 3 1)
          clear hq HN HM HF HO ht
          go_wp2
          go_loopg [10, 9] r.length (fun mm i v W => ∃ (k m : Nat) (A : Option Addr) (c : Nat), k ≤ r.length ∧ mm = r.length - k ∧ i = .int .i64 k ∧ v = .slice A m c ∧ Hid (m = (prefR (fun i : Nat => s (i : Int)) k).length) ∧ Hid (Own n w W (rowA 3 1 (.slice A m c) m (ints (prefR (fun i : Nat => s (i : Int)) k)) :: rowA 4 1 (.slice (some ⟨wb, 0, none⟩) r.length r.length) r.length (wL r.length s) :: (ps ++ F))))
          case atStart => exact ⟨0, 0, none, 0, by omega, by omega, rfl, rfl, hide (by rw [HP0.out]; rfl), hide (by rw [HP0.out]; exact HO0.out)⟩
          case round =>
            obtain ⟨k, m, A, c, hk, rfl, rfl, rfl, HM, HO⟩ := hrel
            clear HO0 x0
            by_cases hlt : k < r.length
            · have z0 : wr.cell? ⟨wb, k, none⟩ = some (.bool (s (k : Int))) := WP.cell (s := s) (Own.tail HO.out) hlt
              have o1 : (0 : Int) ≤ (k : Int) := by omega
              have o2 : (k : Int) < (r.length : Int) := by omega
              obtain ⟨h1, h2, h3⟩ := HH.out k
              have HML := hide (show m < 274877906944 from by have := HM.out; omega)
              have hml := HML.out
              cases hsk : s (k : Int) with
              | true =>
                rw [hsk] at z0
                have HE := hide (h1 hsk)
                clear h1 h2 h3 hsk
                go_wp2_with (at_builtin; go_must (obtain ⟨i0, hi, hz0, hz1, hz2⟩ := info_parts info3; refine wpList_append_own_at _ rfl _ _ 25 rfl n 3 i0 (.int .i64 0) 1 8 Try.underlying25 hi hz0 hz1 hz2 rfl (by decide) _ _ _ rfl (HO.out.row.alloc _) ⟨wr.heap.size, 0, none⟩ 1 1 [.int .i64 k] rfl rfl (cell_one_new _ _ _) (by simp [Value.oneCell']) (by have := HML.out; unfold maxLen; omega) (by have := HML.out; omega) (by have := HO.out.sz; simp; omega) ?_); intro v' w4 hown' hgrow _ hat; obtain ⟨A6, c6, rfl⟩ := own_slice hown'; have H4 := hide ((HO.out.alloc _).growRow hown' hgrow hat); clear hown' hgrow hat)
                go_roundg (r.length - (k + 1))
                case measure => omega
                case rel => exact ⟨k + 1, m + 1, A6, c6, by omega, by omega, by go_num, rfl, hide (by rw [HE.out, HM.out, List.length_append]; rfl), hide (by rw [HE.out]; have := H4.out; rw [show ints (prefR (fun i : Nat => s (i : Int)) k) ++ [Value.int .i64 (k : Int)] = ints (prefR (fun i : Nat => s (i : Int)) k ++ [(k : Int)]) from by simp [ints]] at this; exact this)⟩
              | false =>
                rw [hsk] at z0
                have HE := hide (h2 hsk)
                clear h1 h2 h3 hsk
                go_wp2
                go_roundg (r.length - (k + 1))
                case measure => omega
                case rel => exact ⟨k + 1, m, A, c, by omega, by omega, by go_num, rfl, hide (by rw [HE.out, HM.out]), hide (by rw [HE.out]; exact HO.out)⟩
            · obtain rfl : k = r.length := by omega
              have o3 : ¬ (r.length : Int) < (r.length : Int) := by omega
              go_wp2
              go_ret
              exact ⟨_, rfl, _, HFN.out, by rw [← HM.out]; exact HO.out.f1.tail⟩
end
end Go.Proofs.Ytlpdhmkcbdhelaa
