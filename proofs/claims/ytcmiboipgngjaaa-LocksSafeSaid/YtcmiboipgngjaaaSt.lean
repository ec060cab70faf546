/-
  The walk of Stuck. Conditions: lengths.
-/
import Derived.Test.YtcmiboipgngjaaaSp
namespace Go.Proofs.Ytcmiboipgngjaaa
set_option linter.unusedVariables false
set_option linter.unusedSimpArgs false
open Go.RowKit Go.Maps

section
variable {n g q : Nat} {w W : World} {F ps : List Atom} {H R : List Lk}
set_option maxHeartbeats 4000000 in
set_option maxRecDepth 100000 in
theorem tstuck_c (hg : TB g H R q ps) (hs : Sm H R q) (ho : Own n w W (ps ++ F)) :
    Calls Try.prog 12 #[.pointer (some ⟨g, 0, none⟩)] W fun e W' => ∃ v xs, e = .returned v ∧ Rising xs ∧ (∀ x, x ∈ xs ↔ stuckP H R x) ∧ Own n w W' (rowA 3 1 v xs.length (ints xs) :: (ps ++ F)) := by
  obtain ⟨bt, bw, l, rfl, ht, hl⟩ := hg
  have hlen := hs.len
  have hq := hs.q
  have HC := hide (copied_c ho (by omega) (fun t h => by have := ht.lens hs.len t h; omega))
  have HT := hide ht
  have HI := hide (StI.refl hs.ok)
  clear ho ht hs
  obtain ⟨Y, hY⟩ : ∃ Y, Y = tParts g bt bw l (fW R) ++ F := ⟨_, rfl⟩
  rw [← hY] at HC
  go_enter Try.func12, Try.ntmps12
  go_upto_region 3 with (go_at_call 28; refine HC.out.mono ?_; rintro e w1 ⟨g', bt', bw', l', rfl, a1, a2, a3⟩; have HA := hide (And.intro a3 (HT.out.same a1 a2)); clear a1 a2 a3)
  clear HC HT
  have hY2 := hide hY
  clear hY
  go_loopg [4] (msr H R + 1) (fun mm v4 wr => ∃ (b : Bool) (Hc Rc : List Lk) (lc : List Tm), v4 = .bool b ∧ mm = (if b then msr Hc Rc + 1 else 0) ∧ Hid (Own n w wr (tParts g' bt' bw' lc (fW Rc) ++ Y)) ∧ Hid (StI H R Hc Rc) ∧ Hid (Tied lc Hc Rc) ∧ Hid (b = false → ∀ x ∈ Hc, waitsP Rc x.th = true))
  case atStart => exact ⟨true, H, R, l', rfl, rfl, hide HA.out.1, HI, hide HA.out.2, hide (fun e => by cases e)⟩
  case round =>
    obtain ⟨b, Hc, Rc, lc, rfl, rfl, HO, HS, HTI, HB⟩ := hrel
    clear HA HI
    have hcnt := HS.out.cnt
    obtain ⟨y0, y1, ⟨s0, hs0⟩, ⟨s1, hs1⟩⟩ := tab_cells HO.out
    have HEND := hide (fun (hb : ∀ x ∈ Hc, waitsP Rc x.th = true) u => stuck_end HS.out.closed HS.out.ok hb u)
    cases b with
    | false =>
      have hsz : s1 ≤ Rc.length := by
        have := hs1.size_le (Rc.map Lk.th) (fun x hx => by
          rw [waitF_some, fW_isSome] at hx
          obtain ⟨z, hz, e⟩ := waitsP_mem.1 hx
          exact List.mem_map.2 ⟨z, hz, e⟩)
        simpa using this
      have HKY := hide (keys31_c (some bw') wr)
      have HSO := hide (sorted30_c wr.heap.size bw' s1 (waitF (fW Rc)) (wr.alloc (.cells #[.map (some bw')] 51)) (by simp) (hs1.alloc _) (by omega))
      have HEN := hide (HEND.out (HB.out rfl))
      clear hs0 hs1 hsz HEND
      go_wp2_with (first | (go_at_call 31; refine HKY.out.mono ?_; rintro e w3 ⟨rfl, rfl⟩) | (go_at_call 30; refine HSO.out.mono ?_; rintro e w4 ⟨v, xs, rfl, k1, k2, k3, k4⟩; have HK := hide (And.intro (And.intro k1 k2) (And.intro k3 k4)); clear k1 k2 k3 k4))
      go_ret
      have h1 := (HO.out.alloc (.cells #[.map (some bw')] 51)).moreRow HK.out.2.2 HK.out.2.1
      refine ⟨v, xs, rfl, HK.out.1.1, fun x => ?_, ?_⟩
      · rw [HK.out.1.2, waitF_some, fW_isSome]; exact HEN.out x
      · rw [hY2.out] at h1
        exact h1.sub ((List.sublist_append_right _ _).cons_cons _)
    | true =>
      have HB0 := HB
      clear HB HEND y1 hs1
      have HSZ := hide hs0
      clear hs0
      go_upto_region 6 with (at_range; refine wpList_rangeV rfl _ 50 rfl 3 _ Try.underlying3 Try.underlying50 bt' s0 (locT lc) rfl HSZ.out ?_; intro W1 cnt1 hr1 hg1 hs1; have HCC := hide (S2.start HO.out hr1 hg1 HS.out HTI.out); clear hr1 hg1 hs1)
      try simp only [Act.put, List.setIfInBounds_toArray, List.set_cons_zero, List.set_cons_succ]
      generalize wr.heap.size = it at HCC ⊢
      clear HSZ
      obtain ⟨φ, hφ⟩ : ∃ φ, φ = locT lc := ⟨_, rfl⟩
      rw [← hφ] at HCC
      go_loopg [4, 5, 6] cnt1 (fun mm v4 v5 v6 V => ∃ (left : Int → Bool) (b : Bool), v4 = .bool b ∧ Hid (S2 n w g' bt' bw' it Y H R (msr Hc Rc) φ left mm b V))
      case atStart => exact ⟨_, false, rfl, HCC⟩
      case round =>
        obtain ⟨left, b, rfl, HZ⟩ := hrel
        clear HCC
        obtain ⟨lc2, Hc2, Rc2, om, oi, r1, r2, r3, r4, r5, r6, r7, r8, r9, ra⟩ := HZ.out.ex
        have HR := hide r1
        have HM := hide (And.intro r2 r3)
        have HO4 := hide r4
        have H5 := hide r5
        have H6 := hide r6
        have H7 := hide r7
        have H8 := hide (And.intro r8 r9)
        have HX := hide ra
        clear r1 r2 r3 r4 r5 r6 r7 r8 r9 ra
        go_upto_region 7 with (at_next; refine wpList_nextV rfl _ rfl 3 Try.underlying3 bt' it φ left gk rfl HR.out (fun HDN => ?_) (fun k v W2 cnt2 HBX hen => ?_))
        · obtain ⟨lc3, Hc3, Rc3, q1, q2, q3, q4, q5, q6⟩ := HZ.out.done HDN.out
          go_roundg (if b then msr Hc3 Rc3 + 1 else 0)
          case measure => cases b <;> simp <;> have := q5; simp at this ⊢; omega
          case rel => exact ⟨b, Hc3, Rc3, lc3, rfl, rfl, hide q1, hide q2, hide q3, hide q6⟩
        · obtain ⟨hwf, hlx, hfx, hrg, hlt', hgr, hsz⟩ := HBX.out
          obtain ⟨t, ht, rfl⟩ : ∃ t, atT lc2 k = some t ∧ v = .pointer (some ⟨t.x, 0, none⟩) := by
            rw [← H5.out] at hfx
            have : (atT lc2 k).map (fun t => Value.pointer (some ⟨t.x, 0, none⟩)) = some v := hfx
            obtain ⟨b0, h1, h2⟩ := Option.map_eq_some_iff.1 this
            exact ⟨b0, h1, h2.symm⟩
          obtain ⟨htn, l1, l2, rfl⟩ := find_split ht
          obtain ⟨-, om1, oi2, -, hoi2⟩ := hrg.objs
          have ho2 := HO4.out.grow (a' := objA it oi2) hgr (fun k hk => .inl hk) hoi2
          have hom2 : W2.heap[bt']? = some om := (ho2.tail.hold (objM bt' om (locT (l1 ++ t :: l2))) (by simp [tPartsM])).1
          obtain ⟨eh, ew⟩ := H7.out.2.1 t (by simp)
          rw [htn] at eh ew
          have hcnt2 := H6.out.cnt
          have hlk := onT_len k Hc2
          obtain ⟨Ah, ch, Aw, cw, e1, e2, c0, c1, -, -⟩ := tm_cells ho2.tail
          have hmem : offA 3 (.slice Ah t.h.length ch) t.h.length (cellsK t.h) ∈ objA it oi2 :: (tPartsM (objM bt' om) g' bt' bw' (l1 ++ t :: l2) (fW Rc2) ++ Y) := by
            rw [← e1]
            simp [tPartsM, Tm.parts]
          have HCL := hide (clone29_off ho2 hmem (by rw [eh]; omega))
          have HRR := hide (And.intro hrg (And.intro hom2 hoi2))
          have HEH := hide eh
          have HXX := hide (show b = false → t.h = onT k Hc2 ∧ (∀ k, left k = false → ∀ x ∈ onT k Hc2, waitsP Rc2 x.th = true) ∧ ∀ i (h : i < t.h.length), i < 0 → waitsP Rc2 t.h[i].th = true from fun e => ⟨eh, HX.out e, fun i h h0 => by omega⟩)
          have hlh : t.h.length < 1099511627776 := by rw [eh]; omega
          have hwk := hwf
          clear hlx hfx hrg hgr hsz ht htn eh ew e1 e2 c1 hom2 hoi2 hmem ho2 HO4 HR HX hwf
          obtain ⟨snap, hsn⟩ : ∃ snap, snap = t.h := ⟨_, rfl⟩
          rw [← hsn] at c0 HCL HEH HXX hlh
          clear hsn
          go_upto_region 9 with (go_at_call 29; refine HCL.out.mono ?_; rintro e w3 ⟨v3, rfl, h3, -⟩; obtain ⟨A3, c3, rfl⟩ := off_slice h3.head; have H9 := hide h3; clear h3)
          have HS3 : Hid (S3 n w g' bt' bw' it Y H R (msr Hc Rc) φ left om oi2 k (.slice A3 snap.length c3) snap 0 b w3) := hide ⟨_, Hc2, Rc2, H9.out, H5.out, H6.out, H7.out, H8.out.1, H8.out.2, HXX.out⟩
          have HWF := hide (show ∀ x ∈ snap, (Lit.int .i64 x.th).wf = true from fun x hx => (H6.out.ok.wfs x (.inl (by rw [HEH.out] at hx; exact (mem_onT.1 hx).1))).1)
          have hML := objM_like bt' om
          clear H9 HCL c0 HXX H8 H7 H6 H5
          go_loopg [4, 31] snap.length (fun mm v4 v31 V => ∃ (j : Nat) (b : Bool), mm = snap.length - j ∧ j ≤ snap.length ∧ v4 = .bool b ∧ v31 = .int .i64 j ∧ Hid (S3 n w g' bt' bw' it Y H R (msr Hc Rc) φ left om oi2 k (.slice A3 snap.length c3) snap j b V))
          case atStart => exact ⟨0, b, rfl, by omega, rfl, rfl, HS3⟩
          case round =>
            obtain ⟨j, b, rfl, hj, rfl, rfl, HS3⟩ := hrel
            by_cases hlt : j < snap.length
            · obtain ⟨lc4, Hc4, Rc4, s1, s2, s3, s4, s5, s6, s7⟩ := HS3.out.ex
              have hcnt4 := s3.cnt
              obtain ⟨gs, os, rfl, hcs⟩ := off_lks (show offRow wr 3 (.slice A3 snap.length c3) snap.length (cellsK snap) from s1.head) (by intro e; rw [e] at hlt; simp at hlt)
              obtain ⟨u0, u1, u2⟩ := hcs j hlt
              have hxw := HWF.out _ (List.getElem_mem hlt)
              have h1 := ((S3.perm s1).newBlk #[.int .i64 snap[j].th, .int .i64 snap[j].tg, .bool snap[j].al] 27).back
              have q0 : (wr.alloc (.cells #[.int .i64 snap[j].th, .int .i64 snap[j].tg, .bool snap[j].al] 27)).cell? ⟨wr.heap.size, 0, none⟩ = some (.int .i64 snap[j].th) := by simp
              obtain ⟨z1, z2, q1, hlk1, hlk2⟩ := ask_reads h1 hxw q0
              have hws : (waitF (fW Rc4) snap[j].th).isSome = waitsP Rc4 snap[j].th := by rw [waitF_some, fW_isSome]
              rw [hws] at hlk1 hlk2
              obtain ⟨dv, hdv⟩ : ∃ dv : Lk, (waitF (fW Rc4) snap[j].th).getD (.agg #[.int .i64 0, .int .i64 0, .bool false]) = dv.v := by
                unfold waitF
                cases fW Rc4 snap[j].th with
                | none => exact ⟨zl, rfl⟩
                | some y => exact ⟨y, rfl⟩
              rw [hdv] at hlk1 hlk2
              unfold Lk.v at hlk1 hlk2
              have HSK := hide (fun (V : World) (h : Own n w V (offA 3 (.slice (some ⟨gs, os, none⟩) snap.length c3) snap.length (cellsK snap) :: objA it oi2 :: (tPartsM (objM bt' om) g' bt' bw' lc4 (fW Rc4) ++ Y))) (hx : waitsP Rc4 snap[j].th = true) => S3.skip h s2 s3 s4 s5 s6 s7 hlt hx)
              have HRE := hide (fun (lc' : List Tm) (W' : World) (vo : Value) (hx : waitsP Rc4 snap[j].th = false) => @S3.rel n g' bt' bw' it (msr Hc Rc) w Y H R Hc4 Rc4 lc4 φ left om oi2 k (.slice (some ⟨gs, os, none⟩) snap.length c3) snap j b lc' snap[j].th W' vo s2 s3 s5 s6 s7 hlt rfl hx)
              have HRL := hide (fun (V : World) (F : List Atom) (h : Own n w V (tPartsM (objM bt' om) g' bt' bw' lc4 (fW Rc4) ++ F)) => mrel_c s4 s3.ok (by omega) h snap[j].th k hwk hML)
              have H1 := hide h1
              have o1 : (0 : Int) ≤ (j : Int) := by omega
              have o2 : (j : Int) < (snap.length : Int) := by omega
              clear hcs h1 s1 s2 s3 s4 s5 s6 s7 hws hdv hxw
              generalize snap[j].th = x0 at *
              generalize snap[j].tg = x1 at *
              generalize snap[j].al = x2 at *
              generalize waitsP Rc4 x0 = wb at *
              go_upto_region 11 with (fail)
              generalize wr.alloc (.cells #[.int .i64 x0, .int .i64 x1, .bool x2] 27) = w4 at H1 z1 z2 q0 q1 hlk1 hlk2 ⊢
              generalize wr.heap.size = bl at H1 q0 q1 ⊢
              go_cut [9, 10] from 35 to 44 (fun v9 v10 wx => v10 = .bool wb ∧ Hid (Own n w wx (tPartsM (objM bt' om) g' bt' bw' lc4 (fW Rc4) ++ (blkA bl #[.int .i64 x0, .int .i64 x1, .bool x2] 27 :: offA 3 (.slice (some ⟨gs, os, none⟩) snap.length c3) snap.length (cellsK snap) :: objA it oi2 :: Y))))
              case first =>
                go_region
                all_goals
                  go_wp2
                  go_meet
                  exact ⟨rfl, hide (H1.out.alloc _).drew⟩
              case rest =>
                obtain ⟨rfl, HQ⟩ := hcut
                have hb5 : Blk wc bl #[.int .i64 x0, .int .i64 x1, .bool x2] 27 := HQ.out.hold (blkA bl #[.int .i64 x0, .int .i64 x1, .bool x2] 27) (by simp)
                have p0 := hb5.cell 0
                have HRL2 := hide (HRL.out wc _ HQ.out)
                clear hb5 H1 z1 z2 q0 q1 hlk1 hlk2 HRL u0 u1 u2
                cases wb with
                | true =>
                  have hsk := HSK.out wc (own_drop1 HQ.out) rfl
                  have HF := hide hsk
                  clear hsk HSK HRE HRL2
                  go_wp2
                  go_roundg (snap.length - (j + 1))
                  case measure => omega
                  case rel => exact ⟨j + 1, b, by omega, by omega, rfl, by go_num, HF⟩
                | false =>
                  have HRE2 := hide (fun lc' W' vo => HRE.out lc' W' vo rfl)
                  clear HSK HRE
                  go_wp2_with (go_at_call 14; refine HRL2.out.mono ?_; rintro e w5 ⟨v5, l5, rfl, k1, -, k2, k3⟩; have HK := hide (And.intro k1 (And.intro k2 k3)); clear k1 k2 k3)
                  have HF := hide (HRE2.out l5 w5 v5 HK.out.1 HK.out.2.1 (own_drop2 HK.out.2.2))
                  go_roundg (snap.length - (j + 1))
                  case measure => omega
                  case rel => exact ⟨j + 1, true, by omega, by omega, rfl, by go_num, HF⟩
            · obtain rfl : j = snap.length := by omega
              have o1 : ¬ (snap.length : Int) < (snap.length : Int) := by omega
              go_wp2
              go_roundg cnt2
              case measure => exact hlt'
              case rel => exact ⟨_, b, rfl, hide (HS3.out.done HRR.out.1 HRR.out.2.1 HRR.out.2.2)⟩
end
end Go.Proofs.Ytcmiboipgngjaaa
