/-
  The walk of Both. Conditions: the calls are few.
-/
import Derived.Test.YtlpdhmkcbdhelaaBo
import Derived.Deep.LoopGhost
import Derived.Deep.CutBlock
import Derived.Deep.RegionWith
import Derived.OwnWalk
namespace Go.Proofs.Ytlpdhmkcbdhelaa
set_option linter.unusedVariables false
set_option linter.unusedSimpArgs false
open Go.RowKit Go.Maps

set_option maxHeartbeats 8000000 in
set_option maxRecDepth 100000 in
theorem both_c {w W : World} {F : List Atom} (ho : Own w.heap.size w W F) (A : Option Addr) (c : Nat) (l : List Ac) (hC : kAc.C w A l) (hf : Few l) (hok : ∀ x ∈ l, AcOk x) :
    Calls Try.prog 20 #[.slice A l.length c] W fun e W' => ∃ g b, e = .returned (.tuple #[.pointer (some ⟨g, 0, none⟩), .pointer (some ⟨b, 0, none⟩), .bool true]) ∧ BP w.heap.size w g b (rowsOf l) F W' := by
  have HC := hide (fun k (hk : k < l.length) => acs_at hC hk)
  have HN := hide (gnew_c ho)
  have HF := hide hf
  have HOK := hide (fun k (hk : k < l.length) => hok l[k] (List.getElem_mem hk))
  have HRL := hide (fun k (hk : k ≤ l.length) => rowsOf_le l k hk)
  have HRS := hide (fun k (hk : k < l.length) => rowsOf_snoc hk)
  have HOS := hide (fun k (hk : k < l.length) => onsum_snoc hk)
  have HOT := hide (fun k => onsum_take l k)
  clear hC ho hf hok
  go_enter Try.func20, Try.ntmps20
  go_upto_region 5 with (go_at_call 10; refine HN.out.mono ?_; rintro e W1 ⟨g, pg, rfl, hg, h1⟩; have HG1 := hide hg; have H1 := hide ((h1.nilRow 45 3).newBlk #[.slice none 0 0] 43); clear hg h1)
  generalize W1.alloc (.cells #[.slice none 0 0] 43) = W2 at H1 ⊢
  generalize W1.heap.size = b at H1 ⊢
  have HP0 := hide (show BP w.heap.size w g b (rowsOf (l.take 0)) F W2 from ⟨pg, rParts b (.slice none 0 0) [], HG1.out, ⟨_, [], rfl, rfl⟩, (show Own w.heap.size w W2 (rParts b (.slice none 0 0) [] ++ (pg ++ F)) from H1.out).swp⟩)
  clear H1 HG1 HN
  go_wp2
  go_loopg [7] l.length (fun m i wr => ∃ k : Nat, k ≤ l.length ∧ m = l.length - k ∧ i = .int .i64 k ∧ Hid (BP w.heap.size w g b (rowsOf (l.take k)) F wr))
  case atStart => exact ⟨0, by omega, by omega, rfl, HP0⟩
  case round =>
    obtain ⟨wo, rfl⟩ : ∃ wo, wo = wr := ⟨_, rfl⟩
    obtain ⟨k, hk, rfl, rfl, HB⟩ := hrel
    have hll := HF.out.1
    by_cases hlt : k < l.length
    · obtain ⟨ba, off, Ao, co, rfl, hba, y0, y1, y2, hI⟩ := HC.out k hlt
      have hbel := HB.out.below
      have z0 := (hbel.cell (p := ⟨ba, off + k * 3, none⟩) hba).trans y0
      have z1 := (hbel.cell (p := ⟨ba, off + k * 3 + 1, none⟩) hba).trans y1
      have z2 := (hbel.cell (p := ⟨ba, off + k * 3 + 2, none⟩) hba).trans y2
      have hrk := HRL.out k hk
      have hrs := HRS.out k hlt
      have hos := HOS.out k hlt
      have hot := HOT.out (k + 1)
      have hok := HOK.out k hlt
      have hfew := HF.out.2
      rw [stepR_eq] at hrs
      have hrlen : (rowsOf (l.take k)).length + 1 < 274877906944 := by omega
      have hrtot : tot (rowsOf (l.take k)) + l[k].on.length < 274877906944 := by omega
      have honl : l[k].on.length < 274877906944 := by omega
      have hbuf : I64 l[k].buf := i64_of_wf hok.2.1
      have hsm : Sm (rowsOf (l.take k)) ∧ WfR (rowsOf (l.take k)) := by obtain ⟨_, _, hg, _, _⟩ := HB.out; exact ⟨hg.sm, hg.wf⟩
      generalize rowsOf (l.take k) = r at HB hrk hrs hrlen hrtot hsm
      generalize l[k].way = way at y0 z0 hrs
      generalize l[k].buf = buf at y1 z1 hrs hbuf
      generalize l[k].on = on at y2 z2 hI hrs hos hrtot honl
      have o1 : (0 : Int) ≤ (k : Int) := by omega
      have o2 : (k : Int) < (l.length : Int) := by omega
      have HI := hide hI
      have HRK := hide hrs
      have HSM := hide hsm
      have HBF := hide hbuf
      have HRLN := hide (And.intro hrlen (And.intro hrtot honl))
      have HAB := hide (HB.out.cons (W' := wo.alloc (.cells #[.int .i64 way, .int .i64 buf, .slice Ao on.length co] 52)) (a := blkA wo.heap.size #[.int .i64 way, .int .i64 buf, .slice Ao on.length co] 52) (fun X hX => hX.newBlk _ _))
      clear hbel y0 y1 y2 hI hrk hrs hos hot hok hfew hrlen hrtot honl hbuf hsm HP0
      go_upto_region 9 with (fail)
      generalize wo.alloc (.cells #[.int .i64 way, .int .i64 buf, .slice Ao on.length co] 52) = W3 at HAB ⊢
      generalize wo.heap.size = t8 at HAB ⊢
      have hb3 : Blk W3 t8 #[.int .i64 way, .int .i64 buf, .slice Ao on.length co] 52 := HAB.out.hold (x := blkA t8 #[.int .i64 way, .int .i64 buf, .slice Ao on.length co] 52) List.mem_cons_self
      have a0 : W3.cell? ⟨t8, 0, none⟩ = some (.int .i64 way) := hb3.cell 0
      have a1 : W3.cell? ⟨t8, 1, none⟩ = some (.int .i64 buf) := hb3.cell 1
      have a2 : W3.cell? ⟨t8, 2, none⟩ = some (.slice Ao on.length co) := hb3.cell 2
      clear hb3 z0 z1 z2
      by_cases hw0 : way = 0
      · obtain ⟨m0, m1⟩ := int_eqb hw0
        rw [if_pos hw0] at HRK
        clear hw0
        go_upto_region 12 with (first
          | (at_builtin; go_must (obtain ⟨j0, ji, jz0, jz1, jz2⟩ := info_parts info3x; refine wpList_append_src _ rfl _ _ 25 rfl w.heap.size 3 j0 (.int .i64 0) 1 8 Try.underlying25 ji jz0 jz1 jz2 rfl (by decide) (.slice none 0 0) 0 [] rfl (World.ownsRow_nil _ _ _ _) w.heap.size Ao on.length co (ints on) rfl (by rw [ints_len, Nat.mul_one]) (HI.out.below HAB.out.below (Nat.le_refl _)).cells (by intro u hu; unfold ints at hu; obtain ⟨z, _, rfl⟩ := List.mem_map.1 hu; rfl) (by have := HRLN.out.2.2; unfold maxLen; omega) (by have := HRLN.out.2.2; omega) HAB.out.sz ?_); intro v' w4 hown hg hat; rw [Nat.zero_add, List.nil_append] at hown; obtain ⟨A9, c9, rfl⟩ := own_slice hown; have H4 := hide (show BP w.heap.size w g b r (rowA 3 1 (.slice A9 on.length c9) on.length (ints on) :: blkA t8 #[.int .i64 way, .int .i64 buf, .slice Ao on.length co] 52 :: F) w4 from HAB.out.cons (fun X hX => (hX.nilRow 3 1).growRow hown hg hat)); have b1 : w4.cell? ⟨t8, 1, none⟩ = some (.int .i64 buf) := (H4.out.hold (x := blkA t8 #[.int .i64 way, .int .i64 buf, .slice Ao on.length co] 52) (by simp) : Blk _ _ _ _).cell 1; clear hown hg hat ji jz0 jz1 jz2 j0)
          | (go_at_call 11; refine (H4.out.gadd buf HBF.out A9 c9 on HRLN.out.1 HRLN.out.2.1 (Reads.row (c := c9) (k := on.length) List.mem_cons_self)).mono ?_; rintro e W5 ⟨rfl, h5⟩; have H5 := hide h5; clear h5))
        have HZ := hide (show ∃ xs : List Value, xs.length = on.length ∧ HP w.heap.size w g b (addR r buf on) r (rowA 3 1 (.slice A9 on.length c9) on.length xs :: blkA t8 #[.int .i64 way, .int .i64 buf, .slice Ao on.length co] 52 :: F) W5 from ⟨ints on, ints_len on, H5.out⟩)
        clear H5 H4 HAB HB a0 a1 a2 b1 m0 m1
        generalize hav : addV r on = av
        obtain ⟨v1, v2⟩ := av
        go_wp2
        go_loopg [12] on.length (fun m i W => ∃ j : Nat, j ≤ on.length ∧ m = on.length - j ∧ i = .int .i64 j ∧ Hid (∃ xs : List Value, xs.length = on.length ∧ HP w.heap.size w g b (addR r buf on) r (rowA 3 1 (.slice A9 on.length c9) on.length xs :: blkA t8 #[.int .i64 way, .int .i64 buf, .slice Ao on.length co] 52 :: F) W))
        case atStart => exact ⟨0, by omega, by omega, rfl, HZ⟩
        case round =>
          obtain ⟨j, hj, rfl, rfl, HX⟩ := hrel
          have honl := HRLN.out.2.2
          by_cases hlt2 : j < on.length
          · obtain ⟨xs, hxl, hX⟩ := HX.out
            have hrow : wr.ownsRow 0 3 1 (.slice A9 on.length c9) on.length xs := hX.hold (x := rowA 3 1 (.slice A9 on.length c9) on.length xs) List.mem_cons_self
            obtain ⟨g9, rfl⟩ := row_form hrow (by omega)
            have y0 : wr.cell? ⟨g9, j, none⟩ = some (xs[j]'(by omega)) := by rw [hrow.cellAt j (by omega)]; simp [show j < xs.length by omega]
            have f0 : wr.frozen? ⟨g9, j, none⟩ = false := hrow.frozenAt j
            have q1 : (0 : Int) ≤ (j : Int) := by omega
            have q2 : (j : Int) < (on.length : Int) := by omega
            have HN := hide (show ∃ xs : List Value, xs.length = on.length ∧ HP w.heap.size w g b (addR r buf on) r (rowA 3 1 (.slice (some ⟨g9, 0, none⟩) on.length c9) on.length xs :: blkA t8 #[.int .i64 way, .int .i64 buf, .slice Ao on.length co] 52 :: F) (wr.setCell ⟨g9, j, none⟩ (.int .i64 0)) from
              ⟨xs.set j (.int .i64 0), by rw [List.length_set]; exact hxl, hX.turn (fun X hX' => hX'.setRow j (.int .i64 0))⟩)
            generalize xs[j]'(by omega) = x0 at y0
            clear hxl hX hrow HX
            go_wp2
            go_roundg (on.length - (j + 1))
            case measure => omega
            case rel => exact ⟨j + 1, by omega, by omega, by go_num, HN⟩
          · obtain rfl : j = on.length := by omega
            have q1 : ¬ (on.length : Int) < (on.length : Int) := by omega
            obtain ⟨xs, hxl, hX⟩ := HX.out
            have hbk : Blk wr t8 #[.int .i64 way, .int .i64 buf, .slice Ao on.length co] 52 := hX.hold (x := blkA t8 #[.int .i64 way, .int .i64 buf, .slice Ao on.length co] 52) (by simp)
            have b1 : wr.cell? ⟨t8, 1, none⟩ = some (.int .i64 buf) := hbk.cell 1
            have b2 : wr.cell? ⟨t8, 2, none⟩ = some (.slice Ao on.length co) := hbk.cell 2
            have HRA := hide (hX.radd HSM.out.1 Ao co honl (Reads.old HI.out))
            rw [hav] at HRA
            clear hbk hX hxl HX HZ
            have e1 : (v1 != v1) = false := by simp
            have e2 : (v2 != v2) = false := by simp
            go_wp2_with (first
              | (go_at_call 36; refine HRA.out.mono ?_; rintro e W6 ⟨rfl, h6⟩; have H6 := hide h6.tail.tail; clear h6)
              | (go_at_call 14; refine (num_c _ _).mono ?_; rintro e w' ⟨rfl, rfl⟩))
            go_roundg (l.length - (k + 1))
            case measure => omega
            case rel => exact ⟨k + 1, by omega, by omega, by go_num, hide (by rw [HRK.out]; exact H6.out)⟩
      · obtain ⟨m0, m1⟩ := int_neb hw0
        rw [if_neg hw0] at HRK
        clear hw0
        have HW := hide (BP.gwr (show BP w.heap.size w g b r (blkA t8 #[.int .i64 way, .int .i64 buf, .slice Ao on.length co] 52 :: F) W3.drew from by obtain ⟨p1, p2, h1, h2, h3⟩ := HAB.out; exact ⟨p1, p2, h1, h2, h3.drew⟩) buf HBF.out)
        have HNL := hide (show (nextR r buf).length < 1099511627776 from by
          have h := HRLN.out.1
          have : (nextR r buf).length ≤ r.length := by unfold nextR castL; rw [List.length_map]; exact Nat.le_trans (List.length_filter_le _ _) (by simp)
          omega)
        clear HB HAB HI
        go_upto_region 19 with (fail)
        go_cut [80] from 71 to 80 (fun v wx => v = .bool false ∧ Hid (BP w.heap.size w g b (writtenR r buf) F wx))
        case first =>
          go_region_with (first
            | (go_at_call 12; refine HW.out.mono ?_; rintro e W4 ⟨A4, c4, rfl, h4⟩; have d1 : W4.cell? ⟨t8, 1, none⟩ = some (.int .i64 buf) := (HP.hold h4 (x := blkA t8 #[.int .i64 way, .int .i64 buf, .slice Ao on.length co] 52) (by simp) : Blk _ _ _ _).cell 1; have H4 := hide (HP.rwr h4 HSM.out.2 HSM.out.1); clear h4)
            | (go_at_call 37; refine H4.out.mono ?_; rintro e W5 ⟨A5, c5, rfl, h5⟩; have H5 := hide (BP.same h5 HNL.out); clear h5)
            | (go_at_call 15; refine H5.out.mono ?_; rintro e W6 ⟨rfl, h6⟩; have H6 := hide h6.tail; clear h6))
          all_goals
            go_wp2_with (fail)
            go_meet
            exact ⟨rfl, H6⟩
        case rest =>
          obtain ⟨rfl, HQ⟩ := hcut
          go_wp2
          go_roundg (l.length - (k + 1))
          case measure => omega
          case rel => exact ⟨k + 1, by omega, by omega, by go_num, hide (by rw [HRK.out]; exact HQ.out)⟩
    · obtain rfl : k = l.length := by omega
      have o3 : ¬ (l.length : Int) < (l.length : Int) := by omega
      go_wp2
      go_ret3
      have h := HB.out
      rw [List.take_length] at h
      exact ⟨_, _, rfl, h⟩
end Go.Proofs.Ytlpdhmkcbdhelaa
