/-
  The law DepsPlay. No condition.
-/
import Derived.Test.YtlpdhmkcbdhelaaPy
import Derived.Deep.Quiet
import Derived.Deep.RegionHeld3
import Derived.Deep.QuietTactic
namespace Go.Proofs.Ytlpdhmkcbdhelaa
set_option linter.unusedVariables false
set_option linter.unusedSimpArgs false
open Go.RowKit Go.Maps

set_option maxHeartbeats 16000000 in
set_option maxRecDepth 100000 in
theorem DepsPlay_walk (w : World) (A0 : Option Addr) (len0 cap0 : Nat) (l : List Ac) (h1 : l.length = len0) (h2 : len0 ≤ cap0) (h3 : AcsOk l) (h4 : kAc.C w A0 l) (buf : Int) (wb : (Lit.int .i64 buf).wf = true) (id : Int) (wi : (Lit.int .i64 id).wf = true) (A1 : Option Addr) (len1 cap1 : Nat) (zs : List Int) (g1 : zs.length = len1) (g2 : len1 ≤ maxLen) (g3 : ∀ n ∈ zs, (Lit.int .i64 n).wf = true) (g4 : zs ≠ [] → ∃ x, A1 = some x ∧ x.block < w.heap.size ∧ ∀ j, j < zs.length → w.cell? (x.add j) = some (.int .i64 (zs.getD j 0))) :
    Calls Try.prog 7 #[.slice A0 len0 cap0, .int .i64 buf, .int .i64 id, .slice A1 len1 cap1] w fun e w' => e = .returned (.bool true) ∧ Below w.heap.size w w' := by
  subst h1
  subst g1
  have HZ := hide (Reads.old (F := []) (n := w.heap.size) (w := w) (Ints.of_open (B := w.heap.size) g4))
  have HA := hide (alive_c w)
  have HBG := hide (fun W hb => big_c (w := w) W A0 cap0 l h4 hb)
  have HBO := hide (fun W ho hf => both_c (w := w) (W := W) (F := []) ho A0 cap0 l h4 hf h3.1)
  have HRL := hide (rowsOf_le l l.length (Nat.le_refl _))
  rw [List.take_length] at HRL
  have HF2 := hide (fun (h : Few l) => h.1)
  have HBI := hide (i64_of_wf wb)
  clear h2 h3 h4 g2 g3 g4 wb wi
  go_enter Try.func7, Try.ntmps7
  go_upto_region 3 with (first
    | (go_at_call 9; refine HA.out.mono ?_; rintro e W1 ⟨rfl, hb1⟩; have H1 := hide hb1; clear hb1)
    | (go_at_call 19; refine (HBG.out _ H1.out).mono ?_; rintro e w' ⟨⟨bb, rfl, hbb⟩, rfl⟩; have HBB := hide hbb; clear hbb))
  cases bb with
  | true =>
    go_wp2
    go_ret
    exact ⟨rfl, H1.out⟩
  | false =>
    by_cases hp : zs.length ≤ 200
    · have o1 : ¬ (200 : Int) < (zs.length : Int) := by omega
      have HB := hide (HBO.out W1 ((Own.start w).above H1.out) (HBB.out rfl))
      have HLE := hide (HF2.out (HBB.out rfl))
      clear H1 HBG HBO HA
      go_upto_region 8 with (go_at_call 20; refine HB.out.mono ?_; rintro e W2 ⟨g, b, rfl, h2⟩; have H2 := hide h2; clear h2)
      have HR0 := hide (show (rowsOf l).length ≤ 150 from by have := HRL.out.1; have := HLE.out; omega)
      clear HB HRL HLE HF2 HBB
      generalize rowsOf l = r at H2 HR0
      have HZL := hide (show zs.length < 274877906944 from by omega)
      have HSM := hide (show Sm r from by obtain ⟨pg, pr, hg, hr, ho⟩ := H2.out; exact hg.sm)
      have hr150 := HR0.out
      go_cut [14] from 41 to 61 (fun v wx => v = .bool (doneR r id) ∧ wx = W2)
      case first =>
        obtain ⟨pr, hr, hq⟩ : ∃ pr, IsR b r pr ∧ ∀ a ∈ pr, a.Q W2 := by
          obtain ⟨pg, pr, hg, hr, ho⟩ := H2.out
          exact ⟨pr, hr, fun a ha => ho.hold a (List.mem_append_right _ (List.mem_append_left _ ha))⟩
        obtain ⟨Al, cl, x0⟩ := hr.slice hq
        by_cases h0 : 0 ≤ id
        · obtain ⟨i, rfl⟩ := Int.eq_ofNat_of_zero_le h0
          by_cases hil : i < r.length
          · obtain ⟨gl, c', von, x0', -, -, x3, -⟩ := hr.cellAt hq hil
            obtain ⟨rfl, rfl⟩ : Al = some ⟨gl, 0, none⟩ ∧ cl = c' := by rw [x0] at x0'; injection x0' with h; injection h with h1 h2 h3; exact ⟨h1, h3⟩
            have o2 : (i : Int) < (r.length : Int) := by omega
            have o3 : (0 : Int) ≤ (i : Int) := by omega
            have HD := hide (show doneR r (i : Int) = (r.getD i zr).done from by
              unfold doneR rd
              rw [Int.toNat_natCast, decide_eq_true o2, decide_eq_true o3]; rfl)
            generalize (r.getD i zr).done = dn at x3 HD
            clear hr hq x0' h0
            go_wp2
            go_meet
            exact ⟨by rw [HD.out], rfl⟩
          · have o2 : ¬ (i : Int) < (r.length : Int) := by omega
            have HD := hide (show doneR r (i : Int) = false from by unfold doneR; rw [decide_eq_false o2]; simp)
            clear hr hq
            go_wp2
            go_meet
            exact ⟨by rw [HD.out], rfl⟩
        · have o3 : decide (0 ≤ id) = false := decide_eq_false h0
          have HD := hide (show doneR r id = false from by unfold doneR; rw [o3]; simp)
          clear hr hq
          go_wp2
          go_meet
          exact ⟨by rw [HD.out], rfl⟩
      case rest =>
        obtain ⟨rfl, rfl⟩ := hcut
        have HDN := hide (H2.out.done id)
        have HL := hide H2.out.left
        have HRLF := hide H2.out.rleft
        have HN := hide (H2.out.next buf HBI.out)
        have HNL := hide (show (nextR r buf).length < 1099511627776 from by have := nextR_len r buf; omega)
        have HBL := hide (show (blockedR r buf).length < 1099511627776 from by have := blockedR_len r buf; omega)
        clear H2
        generalize doneR r id = dn at HDN
        go_upto_region 11 with (first
          | (go_at_call 24; refine HDN.out.mono ?_; rintro e w' ⟨rfl, rfl⟩)
          | (go_at_call 18; refine HL.out.mono ?_; rintro e w' ⟨rfl, rfl⟩)
          | (go_at_call 21; refine HRLF.out.mono ?_; rintro e w' ⟨rfl, rfl⟩)
          | (go_at_call 13; refine HN.out.mono ?_; rintro e W3 ⟨A3, c3, rfl, h3⟩; have H3 := hide (h3.rnext buf); clear h3)
          | (go_at_call 25; refine H3.out.mono ?_; rintro e W4 ⟨A4, c4, rfl, h4⟩; have H4 := hide (h4.same HNL.out); clear h4)
          | (have hx6 := H6; clear hx6; go_at_call 15; refine H6.out.mono ?_; rintro e W7 ⟨rfl, h7⟩; have H7 := hide h7; clear h7)
          | (go_at_call 15; refine H4.out.mono ?_; rintro e W5 ⟨rfl, h5⟩; have H5 := hide (h5.blocked buf HBI.out); clear h5)
          | (go_at_call 17; refine H5.out.mono ?_; rintro e W5b ⟨A5, c5, rfl, h5⟩; have H5b := hide (h5.rblocked buf); clear h5)
          | (go_at_call 26; refine H5b.out.mono ?_; rintro e W6 ⟨A6, c6, rfl, h6⟩; have H6 := hide (h6.same HBL.out); clear h6))
        clear HDN HL HRLF HN H3 H4 H5 H5b H6
        have HB1 := hide H7.out.gbufs
        have HBF := hide (show (bufsL r false r.length).length < 1099511627776 from by have := bufsL_len r false r.length; omega)
        have HBT := hide (show (bufsL r true r.length).length < 1099511627776 from by have := bufsL_len r true r.length; omega)
        have HND := hide (fun xs (h : needR r zs xs) => show xs.length < 1099511627776 from by have := needR_len h; omega)
        have HXI := hide (fun x (hx : x ∈ bufsL r false r.length) => bufsL_i64 HSM.out hx)
        have HXL := hide (show (bufsL r false r.length).length ≤ 150 from by have := bufsL_len r false r.length; omega)
        clear H7
        generalize hbs : bufsL r false r.length = bs at HB1 HBF HXI HXL
        have HBS := hide hbs
        clear hbs
        go_upto_region 13 with (first
          | (go_at_call 22; refine HB1.out.mono ?_; rintro e W8 ⟨A8, c8, rfl, h8⟩; have h8' := h8.rbufs false; rw [HBS.out] at h8'; have H8 := hide h8'; clear h8 h8')
          | (have hx := H11; clear hx; go_at_call 27; refine H11.out.mono ?_; rintro e W12 ⟨A12, c12, rfl, h12⟩; have H12 := hide (h12.same HBT.out); clear h12)
          | (go_at_call 27; refine H8.out.mono ?_; rintro e W9 ⟨A9, c9, rfl, h9⟩; have H9 := hide (h9.sameK (A := A8) (B := A9) (l := bs) (c := c8) (d := c9) (List.mem_cons_of_mem _ List.mem_cons_self) List.mem_cons_self HBF.out); clear h9)
          | (have hx := H15; clear hx; go_at_call 15; refine H15.out.mono ?_; rintro e W16 ⟨rfl, h16⟩; have H16 := hide h16; clear h16)
          | (have hx := H12; clear hx; go_at_call 15; refine H12.out.mono ?_; rintro e W13 ⟨rfl, h13⟩; have H13 := hide (h13.need A1 cap1 zs HZL.out HZ.out.consr); clear h13)
          | (go_at_call 15; refine H9.out.mono ?_; rintro e W10 ⟨rfl, h10⟩; have H10 := hide h10.tail.gready; clear h10)
          | (go_at_call 16; refine H10.out.mono ?_; rintro e W11 ⟨A11, c11, rfl, h11⟩; have H11 := hide (h11.rbufs true); clear h11)
          | (go_at_call 23; refine H13.out.mono ?_; rintro e W14 ⟨xs, A14, c14, rfl, hx14, h14⟩; have HX14 := hide hx14; have H14 := hide (h14.rneed A1 cap1 zs HZL.out HZ.out.consr.consr); clear h14 hx14)
          | (go_at_call 28; refine H14.out.mono ?_; rintro e W15 ⟨ys, A15, c15, rfl, hx15, h15⟩; obtain rfl := need_one hx15 HX14.out; have H15 := hide (h15.same (HND.out _ hx15)); clear h15 hx15))
        clear HB1 H8 H9 H10 H11 H12 H13 H14 H15 HX14
        obtain ⟨rowB, hrb⟩ : ∃ a, a = rowA 3 1 (.slice A8 bs.length c8) bs.length (ints bs) := ⟨_, rfl⟩
        rw [← hrb] at H16
        have HRB := hide hrb
        clear hrb
        have hbl := HXL.out
        go_wp2
        go_loopg [17] bs.length (fun m i W => ∃ k : Nat, k ≤ bs.length ∧ m = bs.length - k ∧ i = .int .i64 k ∧ Hid (BP w.heap.size w g b r [rowB] W))
        case atStart => exact ⟨0, by omega, by omega, rfl, H16⟩
        case round =>
          obtain ⟨k, hk, rfl, rfl, HQ⟩ := hrel
          clear H16
          by_cases hlt : k < bs.length
          · have HCE := hide (fun (V : World) (G : List Atom) (h : BP w.heap.size w g b r G V) (hm : rowB ∈ G) => show V.ownsRow 0 3 1 (.slice A8 bs.length c8) bs.length (ints bs) from by have := h.hold hm; rw [HRB.out] at this; exact this)
            have hr0 := HCE.out _ _ HQ.out (by simp)
            obtain ⟨g8, rfl⟩ := row_form hr0 (by omega)
            have HCF := hide (fun (V : World) (G : List Atom) (h : BP w.heap.size w g b r G V) (hm : rowB ∈ G) => (HCE.out V G h hm).cellAt k (by omega) |>.trans (ints_at hlt))
            have hxi := HXI.out _ (List.getElem_mem hlt)
            have y0 := HCF.out _ _ HQ.out (by simp)
            generalize bs[k] = x at y0 hxi HCF
            have HI := hide hxi
            have o2 : (k : Int) < (bs.length : Int) := by omega
            have o3 : (0 : Int) ≤ (k : Int) := by omega
            have HN := hide (HQ.out.drew.next x hxi)
            have HNL2 := hide (show (nextR r x).length < 1099511627776 from by have := nextR_len r x; omega)
            have HBL2 := hide (show (blockedR r x).length < 1099511627776 from by have := blockedR_len r x; omega)
            clear hr0 HCE hxi HQ
            go_upto_region 16 with (fail)
            go_cut [151] from 122 to 151 (fun v wx => v = .bool false ∧ Hid (BP w.heap.size w g b r [rowB] wx))
            case first =>
              go_region_held3 (fun V => V.cell? ⟨g8, k, none⟩ = some (.int .i64 x)) (first | assumption | exact y0) (first
                | (go_at_call 13; refine HN.out.mono ?_; rintro e W4 ⟨A4, c4, rfl, h4⟩; have d1 := HCF.out _ _ h4 (by simp); have H4 := hide (h4.rnext x); clear h4)
                | (go_at_call 25; refine H4.out.mono ?_; rintro e W5 ⟨A5, c5, rfl, h5⟩; have d2 := HCF.out _ _ h5 (by simp); have H5 := hide (h5.same HNL2.out); clear h5)
                | (have hx := H8; clear hx; go_at_call 15; refine H8.out.mono ?_; rintro e W9 ⟨rfl, h9⟩; have d6 := HCF.out _ _ h9 (by simp); have H9 := hide h9; clear h9)
                | (go_at_call 15; refine H5.out.mono ?_; rintro e W6 ⟨rfl, h6⟩; have d3 := HCF.out _ _ h6 (by simp); have H6 := hide (h6.blocked x HI.out); clear h6)
                | (go_at_call 17; refine H6.out.mono ?_; rintro e W7 ⟨A7, c7, rfl, h7⟩; have d4 := HCF.out _ _ h7 (by simp); have H7 := hide (h7.rblocked x); clear h7)
                | (go_at_call 26; refine H7.out.mono ?_; rintro e W8 ⟨A9, c9, rfl, h8⟩; have d5 := HCF.out _ _ h8 (by simp); have H8 := hide (h8.same HBL2.out); clear h8))
              all_goals
                go_wp2_with (fail)
                go_meet
                exact ⟨rfl, H9⟩
            case rest =>
              obtain ⟨rfl, HQ⟩ := hcut
              go_wp2
              go_roundg (bs.length - (k + 1))
              case measure => omega
              case rel => exact ⟨k + 1, by omega, by omega, by go_num, HQ⟩
          · obtain rfl : k = bs.length := by omega
            have o2 : ¬ (bs.length : Int) < (bs.length : Int) := by omega
            obtain ⟨pr, hr, hq⟩ : ∃ pr, IsR b r pr ∧ ∀ a ∈ pr, a.Q wr := by
              obtain ⟨pg, pr, hg, hr, ho⟩ := HQ.out
              exact ⟨pr, hr, fun a ha => ho.hold a (List.mem_append_right _ (List.mem_append_left _ ha))⟩
            obtain ⟨Al, cl, x0⟩ := hr.slice hq
            have HRC := hide (fun (i : Nat) (hi : i < r.length) => hr.cellAt hq hi)
            have HDD := hide (fun (q : Nat) (id : Int) => (HQ.out.drewN q).done id)
            have HBE := hide HQ.out.below
            obtain ⟨W0, hW0⟩ : ∃ W0, W0 = wr := ⟨_, rfl⟩
            rw [← hW0] at x0 HRC HDD HBE ⊢
            clear hr hq HQ hW0
            go_wp2
            go_loopg [18] r.length (fun m i W => ∃ k : Nat, k ≤ r.length ∧ m = r.length - k ∧ i = .int .i64 k ∧ ∃ q, W = W0.drewN q)
            case atStart => exact ⟨0, by omega, by omega, rfl, 0, rfl⟩
            case round =>
              obtain ⟨k, hk, rfl, rfl, q, rfl⟩ := hrel
              by_cases hlt : k < r.length
              · obtain ⟨gl, c', von, x0', -, -, x3, -⟩ := HRC.out k hlt
                obtain ⟨rfl, rfl⟩ : Al = some ⟨gl, 0, none⟩ ∧ cl = c' := by rw [x0] at x0'; injection x0' with h; injection h with h1 h2 h3; exact ⟨h1, h3⟩
                have o2 : (k : Int) < (r.length : Int) := by omega
                have o3 : (0 : Int) ≤ (k : Int) := by omega
                have HD := hide (fun (m : Nat) => show Calls Try.prog 24 #[.pointer (some ⟨g, 0, none⟩), .int .i64 (k : Int)] (W0.drewN (q + m)) fun e w'' => e = .returned (.bool (r.getD k zr).done) ∧ ∃ n, w'' = W0.drewN (q + n) from
                  (HDD.out (q + m) (k : Int)).mono (fun e W' ⟨h1, h2⟩ => ⟨by
                    have e2 : doneR r (k : Int) = (r.getD k zr).done := by
                      unfold doneR rd
                      rw [Int.toNat_natCast, decide_eq_true o2, decide_eq_true o3]; rfl
                    rw [h1, e2], m, h2.symm⟩))
                cases hd : (r.getD k zr).done with
                | true =>
                  rw [hd] at x3 HD
                  clear x0' hd
                  go_wp2
                  go_quiet (exact HD.out _)
                  go_wp2
                  go_roundg (r.length - (k + 1))
                  case measure => omega
                  case rel => exact ⟨k + 1, by omega, by omega, by go_num, by first | exact ⟨_, drewN3 _ _ _ _⟩ | exact ⟨_, World.drewN_drewN _ _⟩ | exact ⟨_, rfl⟩⟩
                | false =>
                  rw [hd] at x3 HD
                  clear x0' hd
                  go_wp2
                  go_quiet (exact HD.out _)
                  go_wp2
                  go_roundg (r.length - (k + 1))
                  case measure => omega
                  case rel => exact ⟨k + 1, by omega, by omega, by go_num, by first | exact ⟨_, drewN3 _ _ _ _⟩ | exact ⟨_, World.drewN_drewN _ _⟩ | exact ⟨_, rfl⟩⟩
              · obtain rfl : k = r.length := by omega
                have o2 : ¬ (r.length : Int) < (r.length : Int) := by omega
                go_wp2
                go_ret
                exact ⟨rfl, below_drewN' HBE.out q⟩
    · have o1 : (200 : Int) < (zs.length : Int) := by omega
      go_wp2
      go_ret
      exact ⟨rfl, H1.out⟩
end Go.Proofs.Ytlpdhmkcbdhelaa
