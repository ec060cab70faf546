/-
  The walk of copied. Conditions: lengths.
-/
import Derived.Test.YtcmiboipgngjaaaCp
namespace Go.Proofs.Ytcmiboipgngjaaa
set_option linter.unusedVariables false
set_option linter.unusedSimpArgs false
open Go.RowKit Go.Maps

section
variable {n g bt bw : Nat} {w W : World} {F : List Atom} {l : List Tm} {f : Int → Option Lk}
theorem copied_start (h : Own n w W (tParts g bt bw l f ++ F)) : ∃ es clock, (W.alloc (.map #[] 0)).heap[bw]? = some (.map es clock) ∧
    Own n w ((((W.alloc (.map #[] 0)).alloc (.map es clock))).alloc (.cells #[.map (some W.heap.size), .map (some (W.heap.size + 1))] 53))
      (mpA bt (locT l) :: (tParts (W.heap.size + 1 + 1) W.heap.size (W.heap.size + 1) [] f ++ (blkA g #[.map (some bt), .map (some bw)] 53 :: mpA bw (waitF f) :: (l.flatMap Tm.parts ++ F)))) := by
  have h1 := h.new (.map #[] 0) (mpA W.heap.size (locT [])) rfl ⟨0, OwnV.made W Try.prog 3⟩
  obtain ⟨-, -, -, ⟨s, hs⟩⟩ := tab_cells h1.tail
  obtain ⟨es, clock, hb, hown⟩ := hs.cloned
  have h2 := h1.new (.map es clock) (mpA (W.alloc (.map #[] 0)).heap.size (waitF f)) rfl ⟨s, hown⟩
  have e1 : (W.alloc (.map #[] 0)).heap.size = W.heap.size + 1 := by simp
  have e2 : ((W.alloc (.map #[] 0)).alloc (.map es clock)).heap.size = W.heap.size + 1 + 1 := by simp
  rw [e1] at h2
  have h3 := h2.newBlk #[.map (some W.heap.size), .map (some (W.heap.size + 1))] 53
  rw [e2] at h3
  refine ⟨es, clock, hb, h3.perm ?_⟩
  unfold tParts tPartsM
  generalize W.heap.size + 1 + 1 = g'
  generalize W.heap.size + 1 = bw'
  generalize W.heap.size = bt'
  simpa using permB [[blkA g' #[.map (some bt'), .map (some bw')] 53], [mpA bw' (waitF f)], [mpA bt' (locT [])], [blkA g #[.map (some bt), .map (some bw)] 53], [mpA bt (locT l)], [mpA bw (waitF f)], l.flatMap Tm.parts, F] [0, 1, 2, 3, 4, 5, 6, 7] [4, 0, 2, 1, 3, 5, 6, 7] (by decide)
set_option maxHeartbeats 4000000 in
set_option maxRecDepth 100000 in
theorem copied_c (h : Own n w W (tParts g bt bw l f ++ F)) (hll : l.length < 1099511627776) (hl : ∀ t ∈ l, t.h.length < 1099511627776 ∧ t.w.length < 1099511627776) :
    Calls Try.prog 28 #[.pointer (some ⟨g, 0, none⟩)] W fun e W' => ∃ g' bt' bw' l', e = .returned (.pointer (some ⟨g', 0, none⟩)) ∧ (∀ x, (atT l' x).map Tm.hw = (atT l x).map Tm.hw) ∧ (l'.map Tm.n).Nodup ∧ Own n w W' (tParts g' bt' bw' l' f ++ (tParts g bt bw l f ++ F)) := by
  obtain ⟨es, clock, hbm, h1⟩ := copied_start h
  have z1 : (W.alloc (.map #[] 0)).cell? ⟨g, 1, none⟩ = some (.map (some bw)) := (tab_cells (h.alloc _)).2.1
  have hmm := @run_makeMap Try.prog
  have HC := hide (clone40_c hbm)
  have HL := hide hl
  have hbg : Blk _ g #[.map (some bt), .map (some bw)] 53 := h1.hold (blkA g #[.map (some bt), .map (some bw)] 53) (by simp)
  have z0 := hbg.cell 0
  obtain ⟨sz, hsz⟩ : ∃ s, OwnV Try.prog 3 _ bt (locT l) s := h1.head
  have HSZ := hide hsz
  have H1 := hide h1
  clear h hbm hl h1 hbg hsz
  go_enter Try.func28, Try.ntmps28
  go_upto_region 2 with (go_at_call 40; refine HC.out.mono ?_; rintro e w2 ⟨rfl, rfl⟩)
  generalize W.heap.size + 1 + 1 = g' at H1 ⊢
  generalize W.heap.size + 1 = bw' at H1 HSZ z0 ⊢
  generalize W.heap.size = bt' at H1 HSZ z0 ⊢
  generalize ((W.alloc (.map #[] 0)).alloc (.map es clock)).alloc (.cells #[.map (some bt'), .map (some bw')] 53) = w3 at H1 z0 HSZ ⊢
  obtain ⟨Y, hY⟩ : ∃ Y, Y = blkA g #[.map (some bt), .map (some bw)] 53 :: mpA bw (waitF f) :: (l.flatMap Tm.parts ++ F) := ⟨_, rfl⟩
  rw [← hY] at H1
  have HY := hide hY
  clear hY z1 HC
  go_upto_region 3 with (at_range; refine wpList_rangeV rfl _ 50 rfl 3 _ Try.underlying3 Try.underlying50 bt sz (locT l) rfl HSZ.out ?_; intro W1 cnt1 hr1 hg1 hs1; have HCC := hide (CpP.start H1.out hr1 hg1); clear hr1 hg1 hs1)
  generalize w3.heap.size = it at HCC ⊢
  clear z0 HSZ H1
  simp only [Act.put, List.setIfInBounds_toArray, List.set_cons_zero, List.set_cons_succ]
  go_loopg [4, 5] cnt1 (fun m v4 v5 V => ∃ left : Int → Bool, Hid (CpP n w g' bt' bw' bt it l f Y left m V))
  case atStart => exact ⟨_, HCC⟩
  case round =>
    obtain ⟨left, HZ⟩ := hrel
    clear HCC
    obtain ⟨l', om, oi, hR, hom, hoi, hset, hnd, ho⟩ := HZ.out.ex
    have HR := hide hR
    have HST := hide (And.intro hset hnd)
    have HO := hide ho
    clear hR hom hoi hset hnd ho
    go_wp2_with (at_next; refine wpList_nextV rfl _ rfl 3 Try.underlying3 bt it (locT l) left gk rfl HR.out (fun HDN => ?_) (fun x v W2 cnt2 HB hen => ?_))
    · go_ret
      obtain ⟨l2, e1, e2, e3⟩ := HZ.out.done HDN.out
      refine ⟨g', bt', bw', l2, rfl, e1, e2, e3.perm ?_⟩
      rw [HY.out, show tParts g bt bw l f = blkA g #[.map (some bt), .map (some bw)] 53 :: mpA bt (locT l) :: mpA bw (waitF f) :: l.flatMap Tm.parts from rfl]
      simpa using permB [[mpA bt (locT l)], tParts g' bt' bw' l2 f, [blkA g #[.map (some bt), .map (some bw)] 53], [mpA bw (waitF f)], l.flatMap Tm.parts, F] [0, 1, 2, 3, 4, 5] [1, 2, 0, 3, 4, 5] (by decide)
    · obtain ⟨hwf, hlx, hfx, hrg, hlt, hgr, hsz⟩ := HB.out
      obtain ⟨t, ht, rfl⟩ : ∃ t, atT l x = some t ∧ v = .pointer (some ⟨t.x, 0, none⟩) := by
        have : (atT l x).map (fun t => Value.pointer (some ⟨t.x, 0, none⟩)) = some v := hfx
        obtain ⟨b0, h1, h2⟩ := Option.map_eq_some_iff.1 this
        exact ⟨b0, h1, h2.symm⟩
      obtain ⟨oi2, ho2⟩ := CpP.next HO.out hrg hgr
      obtain ⟨htm, htn⟩ := atT_mem ht
      have hpm : ∀ a ∈ t.parts, a ∈ Y := fun a ha => by rw [HY.out]; simp only [List.mem_cons, List.mem_append]; exact .inr (.inr (.inl (List.mem_flatMap.2 ⟨t, htm, ha⟩)))
      have m0 := hpm _ (show blkA t.x #[t.vh, t.vw] 59 ∈ t.parts by simp [Tm.parts])
      have m1 := hpm _ (show offA 3 t.vh t.h.length (cellsK t.h) ∈ t.parts by simp [Tm.parts])
      have m2 := hpm _ (show offA 3 t.vw t.w.length (cellsK t.w) ∈ t.parts by simp [Tm.parts])
      obtain ⟨Ah, ch, e1⟩ := off_slice (show offRow W2 3 t.vh t.h.length (cellsK t.h) from ho2.hold (offA 3 t.vh t.h.length (cellsK t.h)) (by simp [m1]))
      obtain ⟨Aw, cw, e2⟩ := off_slice (show offRow W2 3 t.vw t.w.length (cellsK t.w) from ho2.hold (offA 3 t.vw t.w.length (cellsK t.w)) (by simp [m2]))
      rw [e1] at m0 m1
      rw [e2] at m0 m2
      obtain ⟨lh, lw⟩ := HL.out t htm
      have HCEL := hide (fun (V : World) (R : List Atom) (lq : List Tm) (h : Own n w V (R ++ (objA it oi2 :: objA bt om :: (tParts g' bt' bw' lq f ++ Y)))) => show V.cell? ⟨g', 0, none⟩ = some (.map (some bt')) ∧ V.cell? ⟨t.x, 0, none⟩ = some (.slice Ah t.h.length ch) ∧ V.cell? ⟨t.x, 1, none⟩ = some (.slice Aw t.w.length cw) from by
        have b1 : Blk V g' #[.map (some bt'), .map (some bw')] 53 := h.hold (blkA g' #[.map (some bt'), .map (some bw')] 53) (by simp [tParts, tPartsM])
        have b2 : Blk V t.x #[.slice Ah t.h.length ch, .slice Aw t.w.length cw] 59 := h.hold (blkA t.x #[.slice Ah t.h.length ch, .slice Aw t.w.length cw] 59) (by simp [m0])
        exact ⟨b1.cell 0, b2.cell 0, b2.cell 1⟩)
      obtain ⟨z0, z1, z2⟩ := HCEL.out W2.drew [] _ ho2.drew
      have HKH := hide (fun (V : World) (R : List Atom) (h : Own n w V (R ++ (objA it oi2 :: objA bt om :: (tParts g' bt' bw' l' f ++ Y)))) => clone29_off (A := Ah) (c := ch) (l := t.h) h (by simp [m1]) lh)
      have HKW := hide (fun (V : World) (R : List Atom) (h : Own n w V (R ++ (objA it oi2 :: objA bt om :: (tParts g' bt' bw' l' f ++ Y)))) => clone29_off (A := Aw) (c := cw) (l := t.w) h (by simp [m2]) lw)
      have hnx : atT l' x = none := by
        have := HST.out.1 x
        rw [if_pos hlx] at this
        exact Option.map_eq_none_iff.1 this
      have HUP := hide (fun (V : World) (v1 v2 : Value) (h : Own n w V (offA 3 v2 t.w.length (cellsK t.w) :: offA 3 v1 t.h.length (cellsK t.h) :: ([objA it oi2, objA bt om] ++ (tParts g' bt' bw' l' f ++ Y)))) => CpP.put (m := l.map Tm.n) h hnx (fun y hy => by
        have h1 := HST.out.1 y
        obtain ⟨t1, ht1⟩ := Option.isSome_iff_exists.1 hy
        rw [ht1] at h1
        cases hl : left y with
        | true => rw [hl] at h1; cases h1
        | false =>
          rw [hl] at h1
          cases h2 : atT l y with
          | none => rw [h2] at h1; cases h1
          | some t2 => obtain ⟨q1, q2⟩ := atT_mem h2; exact List.mem_map.2 ⟨t2, q1, q2⟩) (by rw [List.length_map]; exact hll) hwf)
      have HO2 := hide ho2
      have HT := hide ht
      clear hwf hlx hfx hrg hlt hgr hsz ht ho2 hpm m0 m1 m2 e1 e2 htm lh lw hnx
      go_region_held3 (fun V => V.cell? ⟨g', 0, none⟩ = some (.map (some bt')) ∧ V.cell? ⟨t.x, 0, none⟩ = some (.slice Ah t.h.length ch) ∧ V.cell? ⟨t.x, 1, none⟩ = some (.slice Aw t.w.length cw)) (first | exact ⟨z0, z1, z2⟩ | exact ⟨d0, d1, d2⟩ | exact ⟨d3, d4, d5⟩ | exact ⟨d6, d7, d8⟩ | exact ⟨d9, da, db⟩) (first
        | (have hx := G1; clear hx; go_at_call 29; refine (HKW.out _ [_] G1.out).mono ?_; rintro e W4 ⟨v2, rfl, h4, -⟩; obtain ⟨A2, c2, rfl⟩ := off_slice h4.head; obtain ⟨W6, hrun, h6⟩ := HUP.out W4 _ _ h4; obtain ⟨d3, d4, d5⟩ := HCEL.out W4 [_, _] _ h4; obtain ⟨d6, d7, d8⟩ := HCEL.out (W4.alloc (.cells #[.slice A1 t.h.length c1, .slice A2 t.w.length c2] 59)) [_, _, _] _ (h4.newBlk _ _); obtain ⟨d9, da, db⟩ := HCEL.out W6 [] _ h6; have H6 := hide h6; clear h4 h6)
        | (have hx := G2; clear hx; go_at_call 29; refine (HKH.out _ [_] G2.out).mono ?_; rintro e W4 ⟨v2, rfl, h4, -⟩; obtain ⟨A2, c2, rfl⟩ := off_slice h4.head; obtain ⟨W6, hrun, h6⟩ := HUP.out W4 _ _ h4.swap; obtain ⟨d3, d4, d5⟩ := HCEL.out W4 [_, _] _ h4; obtain ⟨d6, d7, d8⟩ := HCEL.out (W4.alloc (.cells #[.slice A2 t.h.length c2, .slice A1 t.w.length c1] 59)) [_, _, _] _ (h4.newBlk _ _); obtain ⟨d9, da, db⟩ := HCEL.out W6 [] _ h6; have H6 := hide h6; clear h4 h6)
        | (go_at_call 29; refine (HKH.out _ [] HO2.out.drew).mono ?_; rintro e W3 ⟨v1, rfl, h3, -⟩; obtain ⟨A1, c1, rfl⟩ := off_slice h3.head; obtain ⟨d0, d1, d2⟩ := HCEL.out W3 [_] _ h3; have G1 := hide h3; clear h3)
        | (go_at_call 29; refine (HKW.out _ [] HO2.out.drew).mono ?_; rintro e W3 ⟨v1, rfl, h3, -⟩; obtain ⟨A1, c1, rfl⟩ := off_slice h3.head; obtain ⟨d0, d1, d2⟩ := HCEL.out W3 [_] _ h3; have G2 := hide h3; clear h3))
      all_goals
        go_wp2
        go_roundg cnt2
        case measure => exact HB.out.2.2.2.2.1
        case rel => exact ⟨_, hide (CpP.step (t1 := ⟨x, _, _, _, t.h, t.w⟩) HB.out.2.2.2.1 (HO2.out.hold (objA bt om) (by simp)) (HO2.out.hold (objA it oi2) (by simp)) HST.out.1 HST.out.2 HB.out.2.1 HT.out rfl rfl H6.out)⟩
end
end Go.Proofs.Ytcmiboipgngjaaa
