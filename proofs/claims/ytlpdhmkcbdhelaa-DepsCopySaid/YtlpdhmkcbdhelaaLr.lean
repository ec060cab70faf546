/-
  The law DepsDrain. No condition.
-/
import Derived.Test.YtlpdhmkcbdhelaaBt
import Derived.Test.YtlpdhmkcbdhelaaDr
namespace Go.Proofs.Ytlpdhmkcbdhelaa
set_option linter.unusedVariables false
set_option linter.unusedSimpArgs false
open Go.RowKit Go.Maps

section
variable {n g b : Nat} {w W : World} {F : List Atom} {r : List Rc}
theorem BP.left (h : BP n w g b r F W) : Calls Try.prog 18 #[.pointer (some ⟨g, 0, none⟩)] W fun e W' => e = .returned (.int .i64 (leftR r : Int)) ∧ W = W' := by
  obtain ⟨pg, pr, hg, hr, ho⟩ := h
  exact gleft_c hg ho
theorem BP.rleft (h : BP n w g b r F W) : Calls Try.prog 21 #[.pointer (some ⟨b, 0, none⟩)] W fun e W' => e = .returned (.int .i64 (leftR r : Int)) ∧ W = W' := by
  obtain ⟨pg, pr, hg, hr, ho⟩ := h
  exact rleft_c hr hg.sm (fun a ha => ho.hold a (List.mem_append_right _ (List.mem_append_left _ ha)))
theorem BP.ready (h : BP n w g b r F W) (h0 : 0 < leftR r) : Calls Try.prog 16 #[.pointer (some ⟨g, 0, none⟩)] W fun e W' => ∃ xs ga c, e = .returned (.slice (some ⟨ga, 0, none⟩) xs.length c) ∧ readyR r xs ∧ 0 < xs.length ∧ BP n w g b r (rowA 3 1 (.slice (some ⟨ga, 0, none⟩) xs.length c) xs.length (ints xs) :: F) W' := by
  obtain ⟨pg, pr, hg, hr, ho⟩ := h
  refine (gready_c hg ho).mono ?_
  rintro e W' ⟨v, xs, rfl, hx, ho'⟩
  have hp : 0 < xs.length := List.length_pos_iff.2 (ready_some hg.wf h0 hx)
  obtain ⟨A, c, rfl⟩ := own_slice ho'.row
  obtain ⟨ga, rfl⟩ := row_form ho'.row (by omega)
  exact ⟨xs, ga, c, rfl, hx, hp, pg, pr, hg, hr, ho'.push⟩
theorem BP.bufs (h : BP n w g b r F W) (h0 : leftR r = 0) : Calls Try.prog 22 #[.pointer (some ⟨g, 0, none⟩)] W fun e W' => ∃ A c, e = .returned (.slice A 0 c) ∧ Below n w W' := by
  obtain ⟨pg, pr, hg, hr, ho⟩ := h
  refine (gbufs_c hg ho).mono ?_
  rintro e W' ⟨v, xs, rfl, hx, ho'⟩
  obtain rfl := bufs_none h0 hx
  obtain ⟨A, c, rfl⟩ := own_slice ho'.row
  exact ⟨A, c, rfl, ho'.below⟩
theorem drewN3 (W : World) (a b c : Nat) : ((W.drewN a).drewN b).drewN c = W.drewN (a + b + c) := by simp [World.drewN_drewN, Nat.add_assoc]
theorem HP.drewN {rw r : List Rc} (h : HP n w g b rw r F W) (q : Nat) : HP n w g b rw r F (W.drewN q) := by
  obtain ⟨pg, pr, hg, hr, ho⟩ := h
  exact ⟨pg, pr, hg, hr, ho.drewN q⟩
theorem HP.setDone {rw r : List Rc} {out : List Int} {k i : Nat} (h : HP n w g b rw (setD r (out.take k)) F W) (hk : k < out.length) (hx : out[k] = (i : Int)) (hir : i < r.length) :
    ∃ gl cl dn, W.cell? ⟨b, 0, none⟩ = some (.slice (some ⟨gl, 0, none⟩) r.length cl) ∧ W.cell? ⟨gl, i * 3 + 2, none⟩ = some (.bool dn) ∧ W.frozen? ⟨gl, i * 3 + 2, none⟩ = false ∧
      HP n w g b rw (setD r (out.take (k + 1))) F (W.setCell ⟨gl, i * 3 + 2, none⟩ (.bool true)).drew := by
  obtain ⟨pg, pr, hg, ⟨vl, l, rfl, h1⟩, ho⟩ := h
  have ho := ho.swp
  have hTK := List.take_succ_eq_append_getElem hk
  rw [hx] at hTK
  have hlm : l.length = r.length := by rw [← List.length_map (f := Rg.c), h1, setD_len]
  have hil : i < l.length := by omega
  have hrl : W.ownsRow 0 45 3 vl l.length (cellsR l) := ho.hold (rowA 45 3 vl l.length (cellsR l)) (by simp [rParts])
  obtain ⟨Al, cl, rfl⟩ := own_slice hrl
  obtain ⟨gl, rfl⟩ := row_form hrl (by omega)
  have hbk : Blk W b #[.slice (some ⟨gl, 0, none⟩) l.length cl] 43 := ho.hold (blkA b #[.slice (some ⟨gl, 0, none⟩) l.length cl] 43) (by simp [rParts])
  refine ⟨gl, cl, l[i].c.done, by rw [← hlm]; exact hbk.cell 0, by rw [hrl.cellAt (i * 3 + 2) (by omega), cellsR_at hil (by omega)]; rfl, hrl.frozenAt _, pg, rParts b (.slice (some ⟨gl, 0, none⟩) l.length cl) (l.set i ⟨⟨l[i].c.buf, l[i].c.on, true⟩, l[i].von⟩), hg, ⟨_, _, rfl, ?_⟩, ?_⟩
  · rw [hTK, setD_snoc r _ i hir, ← h1, List.map_set]
    congr 1
    have e : (l.map Rg.c).getD i zr = l[i].c := by simp [hil]
    rw [e]
  · have hO1 := (Own.f1 ho).setRow (i * 3 + 2) (.bool true)
    rw [cellsR_set hil (by omega) (.bool true) ⟨⟨l[i].c.buf, l[i].c.on, true⟩, l[i].von⟩ rfl] at hO1
    have h := hO1.f1.drew
    unfold rParts
    rw [rg_set hil (⟨⟨l[i].c.buf, l[i].c.on, true⟩, l[i].von⟩ : Rg) rfl rfl, List.length_set]
    exact Own.swp (p := _ :: _ :: _) h
end
set_option maxHeartbeats 8000000 in
set_option maxRecDepth 100000 in
theorem DepsDrain_walk (w : World) (A0 : Option Addr) (len0 cap0 : Nat) (l : List Ac) (h1 : l.length = len0) (h2 : len0 ≤ cap0) (h3 : AcsOk l) (h4 : kAc.C w A0 l) (A1 : Option Addr) (len1 cap1 : Nat) (zs : List Int) (g1 : zs.length = len1) (g2 : len1 ≤ maxLen) (g3 : ∀ n ∈ zs, (Lit.int .i64 n).wf = true) (g4 : zs ≠ [] → ∃ x, A1 = some x ∧ x.block < w.heap.size ∧ ∀ j, j < zs.length → w.cell? (x.add j) = some (.int .i64 (zs.getD j 0))) :
    Calls Try.prog 5 #[.slice A0 len0 cap0, .slice A1 len1 cap1] w fun e w' => e = .returned (.bool true) ∧ Below w.heap.size w w' := by
  subst h1
  subst g1
  have HZ := hide (Ints.of_open (B := w.heap.size) g4)
  have HZW := hide g3
  have HA := hide (alive_c w)
  have HBG := hide (fun W hb => big_c (w := w) W A0 cap0 l h4 hb)
  have HBO := hide (fun W ho hf => both_c (w := w) (W := W) (F := []) ho A0 cap0 l h4 hf h3.1)
  have HRL := hide (rowsOf_le l l.length (Nat.le_refl _))
  rw [List.take_length] at HRL
  have HF2 := hide (fun (h : Few l) => h.1)
  clear h2 h3 h4 g2 g3 g4
  go_enter Try.func5, Try.ntmps5
  go_upto_region 3 with (first
    | (go_at_call 9; refine HA.out.mono ?_; rintro e W1 ⟨rfl, hb1⟩; have H1 := hide hb1; clear hb1)
    | (go_at_call 19; refine (HBG.out _ H1.out).mono ?_; rintro e w' ⟨⟨bb, rfl, hbb⟩, rfl⟩; have HBB := hide hbb; clear hbb))
  cases bb with
  | true =>
    go_wp2
    go_ret
    exact ⟨rfl, H1.out⟩
  | false =>
    by_cases hp : zs.length ≤ 500
    · have o1 : ¬ (500 : Int) < (zs.length : Int) := by omega
      have HB := hide (HBO.out W1 ((Own.start w).above H1.out) (HBB.out rfl))
      have HLE := hide (HF2.out (HBB.out rfl))
      clear H1 HBG HBO HA
      go_upto_region 8 with (go_at_call 20; refine HB.out.mono ?_; rintro e W2 ⟨g, b, rfl, h2⟩; have H2 := hide h2; clear h2)
      have HLR := hide (show leftR (rowsOf l) + 0 ≤ 150 from by have := leftR_le (rowsOf l); have := HRL.out.1; have := HLE.out; omega)
      have HR0 := hide (show (rowsOf l).length ≤ 150 from by have := HRL.out.1; have := HLE.out; omega)
      clear HB
      go_wp2
      generalize rowsOf l = r0 at H2 HLR HR0
      go_loopg [10] (leftR r0) (fun m i W => ∃ (k : Nat) (r : List Rc), i = .int .i64 k ∧ m = leftR r ∧ leftR r + k ≤ 150 ∧ r.length ≤ 150 ∧ Hid (BP w.heap.size w g b r [] W))
      case atStart => exact ⟨0, r0, rfl, rfl, HLR.out, HR0.out, H2⟩
      case round =>
        obtain ⟨k, r, rfl, rfl, hlk, hr150, HBP⟩ := hrel
        have HR150 := hide hr150
        clear hr150 HR0
        clear H2 HLR HRL HF2 HBB HLE
        by_cases h0 : 0 < leftR r
        · have HL := hide HBP.out.left
          have HRD := hide (HBP.out.ready h0)
          have p0 : (0 : Int) < (leftR r : Int) := by omega
          have p1 : ¬ (200 : Int) < (k : Int) := by omega
          have hk200 : k ≤ 150 := by omega
          have HLK := hide (And.intro h0 hlk)
          clear h0 hlk
          go_upto_region 15 with (first
            | (go_at_call 18; refine HL.out.mono ?_; rintro e w' ⟨rfl, rfl⟩)
            | (go_at_call 16; refine HRD.out.mono ?_; rintro e W3 ⟨xs, ga, c3, rfl, hx, hxl, h3⟩; have H3 := hide h3; have HX := hide hx; have p2 := (int_neb (show ¬ (xs.length : Int) = 0 by omega)).1; have hxm : xs.length ≤ maxLen := h3.hold (x := rowA 3 1 (.slice (some ⟨ga, 0, none⟩) xs.length c3) xs.length (ints xs)) List.mem_cons_self |>.2.elim (fun h => by cases h.1) (fun ⟨_, _, _, e, _, _, h4, h5, _⟩ => by cases e; omega); clear h3 hx))
          obtain ⟨bb, hbb⟩ : ∃ bb : Bool, bb = (decide (k < zs.length) && decide (0 < zs.getD k 0)) := ⟨_, rfl⟩
          have HBQ := hide hbb
          have q0 : (0 : Int) ≤ (k : Int) := by omega
          clear hbb
          go_cut [64] from 54 to 64 (fun v wx => v = .bool bb ∧ wx = W3)
          case first =>
            by_cases hkz : k < zs.length
            · have q1 : (k : Int) < (zs.length : Int) := by omega
              obtain ⟨za, zo, rfl, hzl, hzc⟩ := HZ.out (by intro e; rw [e] at hkz; simp at hkz)
              have y0 := (H3.out.below.cell (p := ⟨za, zo + k, none⟩) hzl).trans (hzc k hkz)
              have HQ2 := hide (show bb = decide (0 < zs.getD k 0) from by rw [HBQ.out, decide_eq_true hkz, Bool.true_and])
              clear hzc
              generalize zs.getD k 0 = zk at y0 HQ2
              by_cases hzp : 0 < zk
              · have HQ3 := hide (HQ2.out.trans (decide_eq_true hzp))
                go_wp2
                go_meet
                exact ⟨by rw [HQ3.out], rfl⟩
              · have HQ3 := hide (HQ2.out.trans (decide_eq_false hzp))
                go_wp2
                go_meet
                exact ⟨by rw [HQ3.out], rfl⟩
            · have q1 : ¬ (k : Int) < (zs.length : Int) := by omega
              have HQ3 := hide (show bb = false from by rw [HBQ.out, decide_eq_false hkz, Bool.false_and])
              go_wp2
              go_meet
              exact ⟨by rw [HQ3.out], rfl⟩
          case rest =>
            obtain ⟨rfl, rfl⟩ := hcut
            go_upto_if 64 with (fail)
            go_cut [12] from 65 to 71 (fun v wx => ∃ t : Nat, t < xs.length ∧ v = .int .i64 t ∧ wx = wc)
            case first =>
              cases bb with
              | false =>
                go_wp2
                go_meet
                exact ⟨0, hxl, rfl, rfl⟩
              | true =>
                have hq := HBQ.out.symm
                obtain ⟨hq1, hq2⟩ := Bool.and_eq_true_iff.1 hq
                have hkz : k < zs.length := of_decide_eq_true hq1
                have hzp : 0 < zs.getD k 0 := of_decide_eq_true hq2
                have q1 : (k : Int) < (zs.length : Int) := by omega
                obtain ⟨za, zo, rfl, hzl, hzc⟩ := HZ.out (by intro e; rw [e] at hkz; simp at hkz)
                have y0 := (H3.out.below.cell (p := ⟨za, zo + k, none⟩) hzl).trans (hzc k hkz)
                clear hzc hq hq1 hq2
                generalize zs.getD k 0 = zk at y0 hzp
                obtain ⟨zn, rfl⟩ := Int.eq_ofNat_of_zero_le (show 0 ≤ zk by omega)
                have e1 : (zn : Int).tmod (xs.length : Int) = ((zn % xs.length : Nat) : Int) := (Int.ofNat_tmod _ _).symm
                have p3 := (int_neb (show ¬ (xs.length : Int) = 0 by omega))
                have HT := hide (Nat.mod_lt zn hxl)
                clear hzp
                go_wp2
                go_meet
                exact ⟨zn % xs.length, HT.out, by first | rfl | (rw [Int.natCast_emod]; done) | (rw [Int.natCast_mod]; done) | simp, rfl⟩
            case rest =>
              obtain ⟨t, ht, rfl, rfl⟩ := hcut
              have hrow := H3.out.hold (x := rowA 3 1 (.slice (some ⟨ga, 0, none⟩) xs.length c3) xs.length (ints xs)) List.mem_cons_self
              have x0 : wc.cell? ⟨ga, t, none⟩ = some (.int .i64 xs[t]) := by
                have := World.ownsRow.cellAt hrow t (by omega)
                rw [ints_at ht] at this
                exact this
              have hne : nextR r xs[t] ≠ [] := (HX.out.2 xs[t]).1 (List.getElem_mem ht)
              generalize xs[t] = x at x0 hne
              have hbx : I64 x := by
                obtain ⟨pg, pr, hg, hr, ho⟩ := H3.out
                obtain ⟨y, hy⟩ := List.exists_mem_of_ne_nil _ hne
                obtain ⟨h1, h2, -, -⟩ := next_facts hy
                rw [← h2]
                exact hg.buf y.toNat (by omega)
              have HW := hide (H3.out.gwr x hbx)
              have HNE := hide hne
              have r1 : (0 : Int) ≤ (t : Int) := by omega
              have r2 : (t : Int) < (xs.length : Int) := by omega
              have HLN := hide (show (nextR r x).length ≤ 150 from by have h := HR150.out; have : (nextR r x).length ≤ r.length := (by unfold nextR castL; rw [List.length_map]; exact Nat.le_trans (List.length_filter_le _ _) (by simp)); omega)
              have hrow0 := hide hrow
              clear hrow hbx hne HL HRD HBQ
              go_upto_region 18 with (go_at_call 12; refine HW.out.mono ?_; rintro e W5 ⟨A5, c5, rfl, h5⟩; have H5 := hide h5; clear h5)
              generalize hout : nextR r x = out at H5 HLN HNE
              have HOUT := hide hout
              have hol := HLN.out
              have r3 : (0 : Int) < (out.length : Int) := by have := List.length_pos_iff.2 HNE.out; omega
              have r4 := (int_neb (show ¬ (out.length : Int) = 0 by omega)).1
              clear hout HW H3
              obtain ⟨pr, hr, hq⟩ : ∃ pr, IsR b r pr ∧ ∀ a ∈ pr, a.Q W5 := by
                obtain ⟨pg, pr, hg, hr, ho⟩ := H5.out
                exact ⟨pr, hr, fun a ha => ho.hold a (List.mem_append_right _ (List.mem_append_left _ ha))⟩
              have HWF := hide (show WfR r from by obtain ⟨pg, pr, hg, hr, ho⟩ := HBP.out; exact hg.wf)
              have HSM := hide (show Sm r from by obtain ⟨pg, pr, hg, hr, ho⟩ := HBP.out; exact hg.sm)
              have HRC := hide (fun (i : Nat) (hi : i < r.length) => hr.cellAt hq hi)
              have hro := H5.out.hold (x := rowA 3 1 (.slice A5 out.length c5) out.length (ints out)) List.mem_cons_self
              obtain ⟨g5, rfl⟩ := row_form hro (List.length_pos_iff.2 HNE.out)
              have HRO := hide (fun (j : Nat) (hj : j < out.length) => (World.ownsRow.cellAt hro j (by omega)).trans (ints_at hj))
              have hrx := H5.out.hold (x := rowA 3 1 (.slice (some ⟨ga, 0, none⟩) xs.length c3) xs.length (ints xs)) (by simp)
              have hxt : (ints xs)[t]? = some (.int .i64 x) := by
                have h1 := World.ownsRow.cellAt hrow0.out t (by omega)
                rw [x0] at h1
                exact h1.symm
              have x1 : W5.cell? ⟨ga, t, none⟩ = some (.int .i64 x) := (World.ownsRow.cellAt hrx t (by omega)).trans hxt
              have HNF := hide (fun (y : Int) (hy : y ∈ out) => next_facts (r := r) (b := x) (x := y) (by rw [HOUT.out]; exact hy))
              clear hr hq hro hrx hxt
              go_wp2
              go_loopg [14] out.length (fun m i W => ∃ j : Nat, j ≤ out.length ∧ m = out.length - j ∧ i = .int .i64 j ∧ ∃ q, W = W5.drewN q)
              case atStart => exact ⟨0, by omega, by omega, rfl, 0, rfl⟩
              case round =>
                obtain ⟨j, hj, rfl, rfl, q, rfl⟩ := hrel
                by_cases hjl : j < out.length
                · have y0 := HRO.out j hjl
                  obtain ⟨hy1, hy2, hy3, hy4⟩ := HNF.out _ (List.getElem_mem hjl)
                  generalize out[j] = y at y0 hy1 hy2 hy3 hy4
                  obtain ⟨i, rfl⟩ := Int.eq_ofNat_of_zero_le hy1.1
                  have hrd : rd r (i : Int) = r.getD i zr := by unfold rd; rw [Int.toNat_natCast]
                  obtain ⟨gl, cl, von, u0, u1, u2, u3, hon⟩ := HRC.out i (by omega)
                  obtain ⟨Ao, co, rfl⟩ := own_slice hon
                  have hxon := HWF.out.lt (i := i) (by omega)
                  have honl := HSM.out.on i (by omega)
                  rw [hrd] at hy2 hy3 hy4
                  rw [hy2] at u1
                  rw [hy3] at u3
                  have s1 : (0 : Int) ≤ (j : Int) := by omega
                  have s2 : (j : Int) < (out.length : Int) := by omega
                  have s3 : ¬ (i : Int) < 0 := by omega
                  have s4 : ¬ (r.length : Int) ≤ (i : Int) := by omega
                  have s5 : (i : Int) < (r.length : Int) := by omega
                  have s6 : (0 : Int) ≤ (i : Int) := by omega
                  have s7 : ¬ r.length ≤ i := by omega
                  have s8 : i < r.length := by omega
                  generalize (r.getD i zr).on = on at hy4 hon u2 hxon honl
                  have HI := hide (Ints.of_own (B := W5.heap.size) hon (Nat.le_refl _))
                  have HY4 := hide hy4
                  have HXO := hide hxon
                  clear hy1 hy2 hy3 hy4 hrd hon hxon
                  go_wp2
                  go_quiet (fail)
                  go_wp2
                  go_quiet (fail)
                  go_wp2
                  go_loopg [16] on.length (fun m i W => ∃ a : Nat, a ≤ on.length ∧ m = on.length - a ∧ i = .int .i64 a ∧ ∃ q, W = W5.drewN q)
                  case atStart => exact ⟨0, by omega, by omega, rfl, by first | exact ⟨_, drewN3 _ _ _ _⟩ | exact ⟨_, World.drewN_drewN _ _⟩ | exact ⟨_, rfl⟩⟩
                  case round =>
                    obtain ⟨a, ha, rfl, rfl, q2, rfl⟩ := hrel
                    clear u0 u1 u2 u3 y0 x1 s1 s2 s3 s4 s5 s6 s7 s8
                    by_cases hal : a < on.length
                    · obtain ⟨ba, oa, rfl, _, hc⟩ := HI.out (by intro e; rw [e] at hal; simp at hal)
                      have z0 := hc a hal
                      have hdn := HY4.out a hal
                      have hmem : on.getD a 0 ∈ on := by
                        have e : on.getD a 0 = on[a] := by simp [hal]
                        rw [e]; exact List.getElem_mem hal
                      have hx := HXO.out _ hmem
                      generalize on.getD a 0 = x2 at z0 hdn hx
                      obtain ⟨t2, rfl⟩ := Int.eq_ofNat_of_zero_le hx.1
                      obtain ⟨gl2, cl2, v2, w0, -, -, w3, -⟩ := HRC.out t2 (by omega)
                      have e2 : (r.getD t2 zr).done = true := by unfold rd at hdn; rw [Int.toNat_natCast] at hdn; exact hdn
                      rw [e2] at w3
                      have o1 : (0 : Int) ≤ (a : Int) := by omega
                      have o2 : (a : Int) < (on.length : Int) := by omega
                      have o3 : (0 : Int) ≤ (t2 : Int) := by omega
                      have o4 : (t2 : Int) < (r.length : Int) := by omega
                      clear hc hmem hx e2 hdn
                      go_wp2
                      go_quiet (fail)
                      go_wp2
                      go_roundg (on.length - (a + 1))
                      case measure => omega
                      case rel => exact ⟨a + 1, by omega, by omega, by go_num, by first | exact ⟨_, drewN3 _ _ _ _⟩ | exact ⟨_, World.drewN_drewN _ _⟩ | exact ⟨_, rfl⟩⟩
                    · obtain rfl : a = on.length := by omega
                      have o2 : ¬ (on.length : Int) < (on.length : Int) := by omega
                      go_wp2
                      go_roundg (out.length - (j + 1))
                      case measure => omega
                      case rel => exact ⟨j + 1, by omega, by omega, by go_num, _, rfl⟩
                · obtain rfl : j = out.length := by omega
                  have s2 : ¬ (out.length : Int) < (out.length : Int) := by omega
                  have HP0 := hide (show HP w.heap.size w g b (writtenR r x) (setD r (out.take 0)) [rowA 3 1 (.slice (some ⟨g5, 0, none⟩) out.length c5) out.length (ints out), rowA 3 1 (.slice (some ⟨ga, 0, none⟩) xs.length c3) xs.length (ints xs)] (W5.drewN q) from by rw [List.take_zero, setD_nil]; exact H5.out.drewN q)
                  have HMEM := hide (fun x hx => (HNF.out x hx).1)
                  have HWR := hide (show writtenR r x = setD r out from by rw [← HOUT.out]; rfl)
                  have HLW := hide (left_written (r := r) (b := x) (by rw [HOUT.out]; exact HNE.out))
                  clear H5 HRO HRC HNF x1 HX
                  go_wp2
                  go_loopg [17] out.length (fun m i W => ∃ k : Nat, k ≤ out.length ∧ m = out.length - k ∧ i = .int .i64 k ∧ Hid (HP w.heap.size w g b (writtenR r x) (setD r (out.take k)) [rowA 3 1 (.slice (some ⟨g5, 0, none⟩) out.length c5) out.length (ints out), rowA 3 1 (.slice (some ⟨ga, 0, none⟩) xs.length c3) xs.length (ints xs)] W))
                  case atStart => exact ⟨0, by omega, by omega, rfl, HP0⟩
                  case round =>
                    obtain ⟨kk, hkk, rfl, rfl, HQ⟩ := hrel
                    clear HP0
                    by_cases hlt : kk < out.length
                    · have hro := HQ.out.hold (x := rowA 3 1 (.slice (some ⟨g5, 0, none⟩) out.length c5) out.length (ints out)) (by simp)
                      have y0 := World.ownsRow.cellAt hro kk (by omega)
                      rw [ints_at hlt] at y0
                      have hx := HMEM.out _ (List.getElem_mem hlt)
                      obtain ⟨i, hi⟩ := Int.eq_ofNat_of_zero_le hx.1
                      have hir : i < r.length := by omega
                      obtain ⟨gl, cl, dn, x0, x2, f2, hn⟩ := HQ.out.setDone hlt hi hir
                      rw [hi] at y0
                      have HN := hide hn
                      have o1 : (0 : Int) ≤ (kk : Int) := by omega
                      have o2 : (kk : Int) < (out.length : Int) := by omega
                      have o3 : (0 : Int) ≤ (i : Int) := by omega
                      have o4 : (i : Int) < (r.length : Int) := by omega
                      clear hro hx hi hn HQ
                      go_wp2
                      go_region
                      generalize (wr.setCell ⟨gl, i * 3 + 2, none⟩ (.bool true)).drew = Wz at HN ⊢
                      clear x0 x2 f2 y0
                      go_wp2
                      go_roundg (out.length - (kk + 1))
                      case measure => omega
                      case rel => exact ⟨kk + 1, by omega, by omega, by go_num, HN⟩
                    · obtain rfl : kk = out.length := by omega
                      have o2 : ¬ (out.length : Int) < (out.length : Int) := by omega
                      have HZ2 := hide (show BP w.heap.size w g b (writtenR r x) [] wr from by
                        have h := HQ.out
                        rw [List.take_length, ← HWR.out] at h
                        exact (BP.tail (BP.tail h)))
                      clear HQ
                      go_wp2
                      go_roundg (leftR (writtenR r x))
                      case measure => exact HLW.out
                      case rel => exact ⟨k + 1, writtenR r x, by go_num, rfl, by have := HLW.out; have := HLK.out; omega, by rw [HWR.out, setD_len]; exact HR150.out, HZ2⟩
        · have hl0 : leftR r = 0 := by omega
          have HL := hide HBP.out.left
          have HRL := hide HBP.out.rleft
          rw [hl0] at HL HRL
          have HBF := hide (HBP.out.bufs hl0)
          clear h0 hlk hl0
          go_wp2_with (first
            | (go_at_call 18; refine HL.out.mono ?_; rintro e w' ⟨rfl, rfl⟩)
            | (go_at_call 21; refine HRL.out.mono ?_; rintro e w' ⟨rfl, rfl⟩)
            | (go_at_call 22; refine HBF.out.mono ?_; rintro e W3 ⟨A3, c3, rfl, h3⟩; have H3 := hide h3; clear h3))
          go_ret
          exact ⟨rfl, H3.out⟩
    · have o1 : (500 : Int) < (zs.length : Int) := by omega
      go_wp2
      go_ret
      exact ⟨rfl, H1.out⟩
end Go.Proofs.Ytlpdhmkcbdhelaa
