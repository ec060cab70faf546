/-
  The law DepsCopy. No condition.
-/
import Derived.Test.YtlpdhmkcbdhelaaDc
import Derived.Deep.RegionHeld3
namespace Go.Proofs.Ytlpdhmkcbdhelaa
set_option linter.unusedVariables false
set_option linter.unusedSimpArgs false
open Go.RowKit Go.Maps

set_option maxHeartbeats 16000000 in
set_option maxRecDepth 100000 in
theorem DepsCopy_walk (w : World) (A0 : Option Addr) (len0 cap0 : Nat) (l : List Ac) (h1 : l.length = len0) (h2 : len0 ≤ cap0) (h3 : AcsOk l) (h4 : kAc.C w A0 l) (A1 : Option Addr) (len1 cap1 : Nat) (m : List Ac) (g1 : m.length = len1) (g2 : len1 ≤ cap1) (g3 : AcsOk m) (g4 : kAc.C w A1 m) (buf : Int) (wb : (Lit.int .i64 buf).wf = true) :
    Calls Try.prog 8 #[.slice A0 len0 cap0, .slice A1 len1 cap1, .int .i64 buf] w fun e w' => e = .returned (.bool true) ∧ Below w.heap.size w w' := by
  subst h1
  subst g1
  have HA := hide (alive_c w)
  have HBG := hide (fun W hb => big_c (w := w) W A0 cap0 l h4 hb)
  have HBM := hide (fun W hb => big_c (w := w) W A1 cap1 m g4 hb)
  have HBO := hide (fun W ho hf => both_c (w := w) (W := W) (F := []) ho A0 cap0 l h4 hf h3.1)
  have HRL := hide (rowsOf_le l l.length (Nat.le_refl _))
  rw [List.take_length] at HRL
  have HF2 := hide (fun (h : Few l) => h)
  have HFM := hide (fun (h : Few m) => h)
  have HBI := hide (i64_of_wf wb)
  have HC := hide (fun k (hk : k < m.length) => acs_at g4 hk)
  have HOK := hide (fun k (hk : k < m.length) => g3.1 m[k] (List.getElem_mem hk))
  clear h2 h3 h4 g2 g3 g4 wb
  go_enter Try.func8, Try.ntmps8
  go_upto_region 2 with (go_at_call 9; refine HA.out.mono ?_; rintro e W1 ⟨rfl, hb1⟩; have H1 := hide hb1; clear hb1)
  go_cut [8] from 16 to 21 (fun v wx => ∃ bb : Bool, v = .bool bb ∧ wx = W1 ∧ Hid (bb = false → Few l ∧ Few m))
  case first =>
    have HB1 := hide (HBG.out _ H1.out)
    have HB2 := hide (HBM.out _ H1.out)
    go_wp2_with (first
      | (have hx := HX1; clear hx; go_at_call 19; refine HB2.out.mono ?_; rintro e w' ⟨⟨bb2, rfl, hbb2⟩, rfl⟩; have HX2 := hide hbb2; clear hbb2; cases bb2)
      | (go_at_call 19; refine HB1.out.mono ?_; rintro e w' ⟨⟨bb, rfl, hbb⟩, rfl⟩; have HX1 := hide hbb; clear hbb; cases bb))
    all_goals
      go_meet
      first
        | exact ⟨false, rfl, rfl, hide (fun _ => ⟨HX1.out trivial, HX2.out trivial⟩)⟩
        | exact ⟨true, rfl, rfl, hide (fun h => by cases h)⟩
  case rest =>
    obtain ⟨bb, rfl, rfl, HBB⟩ := hcut
    clear HBG HBM HA
    cases bb with
    | true =>
      go_wp2
      go_ret
      exact ⟨rfl, H1.out⟩
    | false =>
      have HB := hide (HBO.out wc ((Own.start w).above H1.out) (HBB.out rfl).1)
      have HFE := hide (HBB.out rfl)
      clear H1 HBO HBB HF2 HFM
      go_upto_region 8 with (go_at_call 20; refine HB.out.mono ?_; rintro e W2 ⟨g, b, rfl, h2⟩; have H2 := hide h2.copy; have H2b := hide h2; clear h2)
      have HR0 := hide (show (rowsOf l).length ≤ 150 ∧ tot (rowsOf l) ≤ 3000 from by have := HRL.out; have := HFE.out.1; unfold Few at this; omega)
      clear HB HRL
      generalize rowsOf l = r at H2 H2b HR0
      have HSM := hide (show Sm r from by obtain ⟨pg, pr, hg, hr, ho⟩ := H2b.out; exact hg.sm)
      clear H2b
      have hr150 := HR0.out.1
      go_upto_region 12 with (go_at_call 29; refine H2.out.mono ?_; rintro e W3 ⟨c, pr, pc, rfl, hr, hc, h3⟩; have HRR := hide hr; have HCC := hide hc; have H3 := hide h3; clear hr hc h3)
      clear H2
      obtain ⟨X, hX⟩ : ∃ X, X = pr ++ (pc ++ []) := ⟨_, rfl⟩
      rw [← hX] at H3
      have HX := hide hX
      clear hX
      have hml : m.length ≤ 150 := HFE.out.2.1
      go_loopg [13] m.length (fun mm i V => ∃ k : Nat, k ≤ m.length ∧ mm = m.length - k ∧ i = .int .i64 k ∧ Hid (OneP w.heap.size w g (runR r (m.take k)) X V))
      case atStart => exact ⟨0, by omega, by omega, rfl, H3⟩
      case round =>
        obtain ⟨k, hk, rfl, rfl, HQ⟩ := hrel
        clear H3
        by_cases hlt : k < m.length
        · obtain ⟨ba, off, Ao, co, rfl, hba, y0, y1, y2, hI⟩ := HC.out k hlt
          have hbel := HQ.out.below
          have z0 := (hbel.cell (p := ⟨ba, off + k * 3, none⟩) hba).trans y0
          have z1 := (hbel.cell (p := ⟨ba, off + k * 3 + 1, none⟩) hba).trans y1
          have z2 := (hbel.cell (p := ⟨ba, off + k * 3 + 2, none⟩) hba).trans y2
          have hrk := runR_le r m k hk
          have hrs := runR_snoc (r := r) hlt
          have hos := onsum_snoc hlt
          have hot := onsum_take m (k + 1)
          have hok := HOK.out k hlt
          have hfew := HFE.out.2.2
          have hr2 := HR0.out.2
          rw [stepR_eq] at hrs
          have hrlen : (runR r (m.take k)).length + 1 < 274877906944 := by omega
          have hrtot : tot (runR r (m.take k)) + m[k].on.length < 274877906944 := by omega
          have hbuf : I64 m[k].buf := i64_of_wf hok.2.1
          have HSC := hide (fun (V : World) (hb : Below w.heap.size w V) => show V.cell? ⟨ba, off + k * 3 + 1, none⟩ = some (.int .i64 m[k].buf) ∧ V.cell? ⟨ba, off + k * 3 + 2, none⟩ = some (.slice Ao m[k].on.length co) from ⟨(hb.cell (p := ⟨ba, off + k * 3 + 1, none⟩) hba).trans y1, (hb.cell (p := ⟨ba, off + k * 3 + 2, none⟩) hba).trans y2⟩)
          have HP' := hide HQ.out
          clear HQ
          generalize runR r (m.take k) = rk at HP' hrk hrs hrlen hrtot
          generalize m[k].way = way at y0 z0 hrs
          generalize m[k].buf = bf at y1 z1 hrs hbuf HSC
          generalize m[k].on = on at y2 z2 hI hrs hos hrtot HSC
          have o1 : (0 : Int) ≤ (k : Int) := by omega
          have o2 : (k : Int) < (m.length : Int) := by omega
          have HRK := hide hrs
          have HADD := hide (HP'.out.drew.add bf hbuf Ao co on hrlen hrtot (Reads.old hI))
          have HWR := hide (HP'.out.wr bf hbuf)
          clear hbel y0 y1 y2 hI hrk hrs hos hot hok hfew hr2 hrlen hrtot hbuf
          by_cases hw0 : way = 0
          · obtain ⟨m0, m1⟩ := int_eqb hw0
            have HR2 := hide (show runR r (m.take (k + 1)) = addR rk bf on from by rw [HRK.out, if_pos hw0])
            clear hw0 HRK HWR
            go_upto_region 15 with (fail)
            go_region_held3 (fun V => V.cell? ⟨ba, off + k * 3 + 1, none⟩ = some (.int .i64 bf) ∧ V.cell? ⟨ba, off + k * 3 + 2, none⟩ = some (.slice Ao on.length co)) (first | assumption | exact ⟨z1, z2⟩) (first
              | (go_at_call 11; refine HADD.out.mono ?_; rintro e W4 ⟨rfl, h4⟩; have s4 := HSC.out _ h4.below; have H4 := hide h4; clear h4))
            go_wp2
            go_roundg (m.length - (k + 1))
            case measure => omega
            case rel => exact ⟨k + 1, by omega, by omega, by go_num, hide (by rw [HR2.out]; exact H4.out)⟩
          · obtain ⟨m0, m1⟩ := int_neb hw0
            have HR2 := hide (show runR r (m.take (k + 1)) = writtenR rk bf from by rw [HRK.out, if_neg hw0])
            clear hw0 HRK HADD
            go_wp2_with (go_at_call 12; refine HWR.out.mono ?_; rintro e W4 ⟨A4, c4, rfl, h4⟩; have H4 := hide h4; clear h4)
            go_roundg (m.length - (k + 1))
            case measure => omega
            case rel => exact ⟨k + 1, by omega, by omega, by go_num, hide (by rw [HR2.out]; exact H4.out)⟩
        · obtain rfl : k = m.length := by omega
          have o3 : ¬ (m.length : Int) < (m.length : Int) := by omega
          obtain ⟨pg, hg, hb⟩ := OneP.toBP HRR.out HCC.out (HX.out ▸ HQ.out)
          generalize runR r (m.take m.length) = r' at hg
          have HG := hide hg
          have HL := hide hb.left
          have HRLF := hide hb.rleft
          have HB1 := hide hb.gbufs
          have HBF := hide (show (bufsL r false r.length).length < 1099511627776 from by have := bufsL_len r false r.length; omega)
          have HBT := hide (show (bufsL r true r.length).length < 1099511627776 from by have := bufsL_len r true r.length; omega)
          clear hg hb HQ HC HOK HRR HCC HX
          go_upto_region 19 with (first
            | (go_at_call 18; refine HL.out.mono ?_; rintro e w' ⟨rfl, rfl⟩)
            | (go_at_call 21; refine HRLF.out.mono ?_; rintro e w' ⟨rfl, rfl⟩)
            | (go_at_call 22; refine HB1.out.mono ?_; rintro e W8 ⟨A8, c8, rfl, h8⟩; have H8 := hide (h8.rbufs false); clear h8)
            | (have hx := H11; clear hx; go_at_call 27; refine H11.out.mono ?_; rintro e W12 ⟨A12, c12, rfl, h12⟩; have H12 := hide (h12.same HBT.out); clear h12)
            | (go_at_call 27; refine H8.out.mono ?_; rintro e W9 ⟨A9, c9, rfl, h9⟩; have H9 := hide (h9.same HBF.out); clear h9)
            | (have hx := H12; clear hx; go_at_call 15; refine H12.out.mono ?_; rintro e W13 ⟨rfl, h13⟩; have H13 := hide h13; clear h13)
            | (go_at_call 15; refine H9.out.mono ?_; rintro e W10 ⟨rfl, h10⟩; have H10 := hide h10.gready; clear h10)
            | (go_at_call 16; refine H10.out.mono ?_; rintro e W11 ⟨A11, c11, rfl, h11⟩; have H11 := hide (h11.rbufs true); clear h11))
          clear HL HRLF HB1 H8 H9 H10 H11 H12
          have HLG := hide (HP.leftOf HG.out H13.out)
          have HWC := hide (H13.out.gwr buf HBI.out)
          have HNL := hide (show (writtenR r buf).length + 1 < 274877906944 ∧ tot (writtenR r buf) < 274877906944 from by unfold writtenR; rw [setD_len, tot_setD]; have := HR0.out; omega)
          clear H13
          go_upto_region 20 with (go_at_call 18; refine HLG.out.mono ?_; rintro e w' ⟨rfl, rfl⟩)
          go_upto_region 21 with (go_at_call 12; refine HWC.out.mono ?_; rintro e W14 ⟨A14, c14, rfl, h14⟩; have H14 := hide (h14.tail.gaddNil buf HBI.out HNL.out.1 HNL.out.2); clear h14)
          go_upto_region 22 with (go_at_call 11; refine H14.out.mono ?_; rintro e W15 ⟨x, y, rfl, h15⟩; have H15 := hide h15; clear h15)
          have HLG2 := hide (HP.leftOf HG.out H15.out)
          go_wp2_with (go_at_call 18; refine HLG2.out.mono ?_; rintro e w' ⟨rfl, rfl⟩)
          go_ret
          exact ⟨rfl, H15.out.below⟩
end Go.Proofs.Ytlpdhmkcbdhelaa
