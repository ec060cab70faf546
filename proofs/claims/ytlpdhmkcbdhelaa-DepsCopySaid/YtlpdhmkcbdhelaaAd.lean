/-
  The walk of deps.Graph.Add. Conditions: the graph's numbers are in their bounds; what is added hangs on changes that are there.
-/
import Derived.Test.YtlpdhmkcbdhelaaF
import Derived.Test.YtlpdhmkcbdhelaaCo
import Derived.Deep.RegionHeld3
import Derived.Deep.AppendLies
import Derived.Deep.RegionLaw
import Derived.Deep.CutBlock
namespace Go.Proofs.Ytlpdhmkcbdhelaa
set_option linter.unusedVariables false
set_option linter.unusedSimpArgs false
open Go.RowKit Go.Maps

theorem info60 : (Try.prog.info? 60).map (fun i => (i.zero, i.size, i.bytes)) = some (some (.agg #[.int .i64 0, .slice none 0 0, .int .i64 0, .slice none 0 0, .bool false]), 5, 72) := by kernel_rfl
section
variable {n g : Nat} {w W : World} {F ps : List Atom} {st : St}
theorem add_no (hg : IsG g st ps) (hf : Fit st) (ho : Own n w W (ps ++ F)) (buf : Int) (A : Option Addr) (c : Nat) (on : List Int) (hl : on.length < 1099511627776) (hr : Reads n w F A on) (hon : ¬ ∀ x ∈ on, isB st x = true) :
    Calls Try.prog 11 #[.pointer (some ⟨g, 0, none⟩), .int .i64 buf, .slice A on.length c] W fun e W' => e = .returned (.tuple #[.int .i64 0, .int .i64 1]) ∧ W = W' := by
  have HI := hide (fun id => is_c (W := W) hg (fun a ha => ho.hold a (List.mem_append_left _ ha)) hf id)
  have HX := hide (hr W (ho.sub (List.sublist_append_right _ _)))
  have HON := hide hon
  clear hg hf ho hr hon
  go_enter Try.func11, Try.ntmps11
  go_wp2
  go_loop [16] (fun i => ∃ k : Nat, k ≤ on.length ∧ i = .int .i64 k ∧ Hid (∀ x ∈ on.take k, isB st x = true)) (fun i => on.length - (intOf i).toNat)
  case atStart => exact ⟨0, by omega, rfl, hide (by simp)⟩
  case round =>
    obtain ⟨k, hk, rfl, HK⟩ := hrel
    by_cases hlt : k < on.length
    · obtain ⟨b, off, rfl, _, hc⟩ := HX.out (by intro e; rw [e] at hlt; simp at hlt)
      have y0 := hc k hlt
      have hgd : on.getD k 0 = on[k] := by simp [hlt]
      rw [hgd] at y0
      have HS := hide (fun h : isB st on[k] = true => show ∀ x ∈ on.take (k + 1), isB st x = true from fun x hx => by
        rw [List.take_succ_eq_append_getElem hlt] at hx
        rcases List.mem_append.1 hx with hx | hx
        · exact HK.out x hx
        · rw [List.mem_singleton.1 hx]; exact h)
      have HC := hide (HI.out on[k])
      generalize on[k] = id at y0 HS HC
      have o1 : (0 : Int) ≤ (k : Int) := by omega
      have o2 : (k : Int) < (on.length : Int) := by omega
      clear hc hgd
      cases hb : isB st id with
      | true =>
        rw [hb] at HC HS
        clear hb
        go_wp2_with (go_at_call 30; refine HC.out.mono ?_; rintro e w' ⟨rfl, rfl⟩)
        go_round
        case rel => exact ⟨k + 1, by omega, by go_num, hide (HS.out (by simp))⟩
        case measure => simp [intOf]; omega
      | false =>
        rw [hb] at HC
        clear hb
        go_wp2_with (go_at_call 30; refine HC.out.mono ?_; rintro e w' ⟨rfl, rfl⟩)
        go_ret2
        exact ⟨rfl, rfl⟩
    · exact absurd (by have := HK.out; rwa [List.take_of_length_le (by omega)] at this) HON.out
/-- what lies in memory while the new change is hung on others -/
def AdP (n : Nat) (w : World) (g : Nat) (st : St) (F : List Atom) (buf : Int) (on : List Int) (bc : Nat) (vc vl : Value) (bb nb : Nat) (bs : List Bs) (k : Nat) (W : World) : Prop :=
  ∃ l : List Cg, l.map Cg.c = (on.take k).foldl (hangL (st.l.length : Int)) st.l ∧
    Own n w W (blkA bc #[.int .i64 buf, vc, .int .i64 (cntL st.l (on.take k) : Int), .slice none 0 0, .bool false] 60 :: rowA 3 1 vc on.length (ints on) :: (gParts g vl l bb nb st.opn bs st.next ++ F))
set_option maxHeartbeats 4000000 in
set_option maxRecDepth 100000 in
theorem add_yes (hg : IsG g st ps) (hf : Fit st) (ho : Own n w W (ps ++ F)) (buf : Int) (hw : (Lit.int .i64 buf).wf = true) (A : Option Addr) (c : Nat) (on : List Int) (hl : on.length < 1099511627776) (hr : Reads n w F A on) (hon : ∀ x ∈ on, isB st x = true) :
    Calls Try.prog 11 #[.pointer (some ⟨g, 0, none⟩), .int .i64 buf, .slice A on.length c] W fun e W' => ∃ ps', e = .returned (.tuple #[.int .i64 (st.l.length : Int), .int .i64 0]) ∧ IsG g (addS st buf on) ps' ∧ Own n w W' (ps' ++ F) := by
  have HI := hide (fun id => is_c (W := W) hg (fun a ha => ho.hold a (List.mem_append_left _ ha)) hf id)
  have hX := hr W (ho.sub (List.sublist_append_right _ _))
  have HCL := hide (clone31_c A on.length c (ints on) W (by rw [ints_len]; omega) hX.cells (by intro u hu; unfold ints at hu; obtain ⟨z, _, rfl⟩ := List.mem_map.1 hu; rfl) (by omega))
  have HX := hide hX
  have HON := hide hon
  have HR := hide hr
  have HF := hide hf
  obtain ⟨vl, l0, bb, nb, bs, rfl, h1, h2, h3⟩ := hg
  have hll : l0.length = st.l.length := by rw [← h1, List.length_map]
  have hlen := hf.len
  have HB := hide (And.intro h2 h3)
  have hrl : W.ownsRow 0 60 5 vl l0.length (cellsL l0) := ho.hold (rowA 60 5 vl l0.length (cellsL l0)) (by simp [gParts])
  rw [hll] at hrl
  obtain ⟨Al, cl, rfl⟩ := own_slice hrl
  have hbk : Blk W g #[.slice Al st.l.length cl, .map (some bb), .int .i64 st.opn, .map (some nb)] 58 := ho.hold (blkA g #[.slice Al st.l.length cl, .map (some bb), .int .i64 st.opn, .map (some nb)] 58) (by simp [gParts])
  have z0 : W.cell? ⟨g, 0, none⟩ = some (.slice Al st.l.length cl) := hbk.cell 0
  have HO := hide ho
  have H1 := hide h1
  clear hf ho hr hon h1 h2 h3 hX hrl hbk hll
  go_enter Try.func11, Try.ntmps11
  go_wp2
  go_loop [16] (fun i => ∃ k : Nat, k ≤ on.length ∧ i = .int .i64 k) (fun i => on.length - (intOf i).toNat)
  case atStart => exact ⟨0, by omega, rfl⟩
  case round =>
    obtain ⟨k, hk, rfl⟩ := hrel
    by_cases hlt : k < on.length
    · obtain ⟨b, off, rfl, _, hc⟩ := HX.out (by intro e; rw [e] at hlt; simp at hlt)
      have y0 := hc k hlt
      have hgd : on.getD k 0 = on[k] := by simp [hlt]
      rw [hgd] at y0
      have HC := hide (HI.out on[k])
      rw [HON.out _ (List.getElem_mem hlt)] at HC
      generalize on[k] = id at y0 HC
      have o1 : (0 : Int) ≤ (k : Int) := by omega
      have o2 : (k : Int) < (on.length : Int) := by omega
      clear hc hgd
      go_wp2_with (go_at_call 30; refine HC.out.mono ?_; rintro e w' ⟨rfl, rfl⟩)
      go_round
      case rel => exact ⟨k + 1, by omega, by go_num⟩
      case measure => simp [intOf]; omega
    · have hge : (on.length : Int) ≤ (k : Int) := by omega
      clear hlt
      go_upto_region 9 with (go_at_call 31; refine HCL.out.mono ?_; rintro e w1 ⟨vc, rfl, hvc, hb1⟩; obtain ⟨Ac, cc, rfl⟩ := own_slice hvc; have HVC := hide (And.intro hvc hb1); clear hvc hb1)
      have hP0 : AdP n w g st F buf on w1.heap.size (.slice Ac on.length cc) (.slice Al st.l.length cl) bb nb bs 0 (w1.alloc (.cells #[.int .i64 buf, .slice Ac on.length cc, .int .i64 0, .slice none 0 0, .bool false] 60)) :=
        ⟨l0, H1.out, (HO.out.moreRow HVC.out.2 HVC.out.1).newBlk _ _⟩
      have HP0 := hide hP0
      clear hP0
      generalize w1.alloc (.cells #[.int .i64 buf, .slice Ac on.length cc, .int .i64 0, .slice none 0 0, .bool false] 60) = W2 at HP0 ⊢
      generalize w1.heap.size = bc at HP0 ⊢
      clear HVC HCL HI HX z0 H1 HO hge
      go_wp2
      go_loopg [36] on.length (fun m i W => ∃ k : Nat, k ≤ on.length ∧ m = on.length - k ∧ i = .int .i64 k ∧ Hid (AdP n w g st F buf on bc (.slice Ac on.length cc) (.slice Al st.l.length cl) bb nb bs k W))
      case atStart => exact ⟨0, by omega, by omega, rfl, HP0⟩
      case round =>
        obtain ⟨k, hk, rfl, rfl, HP⟩ := hrel
        by_cases hlt : k < on.length
        · have p2 : (k : Int) < (on.length : Int) := by omega
          go_upto_block 3 with (fail)
          clear p2
          go_cut [] from 37 to 71 (fun wx => Hid (AdP n w g st F buf on bc (.slice Ac on.length cc) (.slice Al st.l.length cl) bb nb bs (k + 1) wx))
          case first =>
              obtain ⟨l, hl1, ho⟩ := HP.out
              have hlm : l.length = st.l.length := by rw [← List.length_map (f := Cg.c), hl1, hangF_len]
              obtain ⟨b, off, rfl, _, hc⟩ := HR.out wr (ho.tail.tail.sub (List.sublist_append_right _ _)) (by intro e; rw [e] at hlt; simp at hlt)
              have y0 := hc k hlt
              have hgd : on.getD k 0 = on[k] := by simp [hlt]
              rw [hgd] at y0
              have hib := HON.out _ (List.getElem_mem hlt)
              have hTK := List.take_succ_eq_append_getElem hlt
              have HTK := hide hTK
              generalize on[k] = id at y0 hib HTK
              have hb : 0 ≤ id ∧ id < st.l.length := by unfold isB at hib; simpa using hib
              obtain ⟨i, rfl⟩ := Int.eq_ofNat_of_zero_le hb.1
              have hil : i < l.length := by omega
              have o1 : (0 : Int) ≤ (k : Int) := by omega
              have o2 : (k : Int) < (on.length : Int) := by omega
              have o3 : (0 : Int) ≤ (i : Int) := by omega
              have o4 : (i : Int) < (st.l.length : Int) := by omega
              have hrow : wr.ownsRow 0 60 5 (.slice Al st.l.length cl) st.l.length (cellsL l) := by
                have := ho.hold (rowA 60 5 (.slice Al st.l.length cl) l.length (cellsL l)) (by simp [gParts])
                rw [hlm] at this; exact this
              obtain ⟨gl, rfl⟩ := row_form hrow (by omega)
              have hbk : Blk wr g #[.slice (some ⟨gl, 0, none⟩) st.l.length cl, .map (some bb), .int .i64 st.opn, .map (some nb)] 58 := ho.hold (blkA g #[.slice (some ⟨gl, 0, none⟩) st.l.length cl, .map (some bb), .int .i64 st.opn, .map (some nb)] 58) (by simp [gParts])
              have hcl : ∀ j, j < 5 → wr.cell? ⟨gl, i * 5 + j, none⟩ = (l[i].cells)[j]? := fun j hj => by rw [hrow.cellAt (i * 5 + j) (by omega), cellsL_at hil hj]
              have x0 : wr.cell? ⟨g, 0, none⟩ = some (.slice (some ⟨gl, 0, none⟩) st.l.length cl) := hbk.cell 0
              have x3 : wr.cell? ⟨gl, i * 5 + 3, none⟩ = some l[i].vto := hcl 3 (by omega)
              have x4 : wr.cell? ⟨gl, i * 5 + 4, none⟩ = some (.bool l[i].c.done) := hcl 4 (by omega)
              have hdn : l[i].c.done = (at_ st (i : Int)).done := by
                have := hangF_done (st.l.length : Int) (on.take k) st.l i
                rw [← hl1] at this
                unfold at_
                simpa [hil] using this
              have HLI := hide (show (at_ st (i : Int)).done = l[i].c.done from hdn.symm)
              clear hc hgd hib hTK hb hdn hcl hbk hrow
              by_cases hd : l[i].c.done = true
              · have HN := hide (show AdP n w g st F buf on bc (.slice Ac on.length cc) (.slice (some ⟨gl, 0, none⟩) st.l.length cl) bb nb bs (k + 1) wr from ⟨l, by
                  rw [HTK.out, List.foldl_append, ← hl1]
                  show _ = hangL _ _ _
                  unfold hangL
                  rw [if_pos (by rw [Int.toNat_natCast]; simpa [hil] using hd)], by
                  have e : cntL st.l (on.take (k + 1)) = cntL st.l (on.take k) := by
                    rw [HTK.out, cntL_snoc, if_pos (show (st.l.getD (i : Int).toNat zc).done = true from HLI.out.trans hd), Nat.add_zero]
                  rw [e]; exact ho⟩)
                rw [hd] at x4
                clear ho hl1 hd
                go_wp2
                go_meet
                exact HN
              · have hd' : l[i].c.done = false := by simpa using hd
                have HN := hide (show ∀ (c' : Cg) W', c'.c = (⟨l[i].c.buf, l[i].c.on, l[i].c.left, l[i].c.to ++ [(st.l.length : Int)], l[i].c.done⟩ : Chg) → Own n w W' (blkA bc #[.int .i64 buf, .slice Ac on.length cc, .int .i64 ((cntL st.l (on.take k) : Int) + 1), .slice none 0 0, .bool false] 60 :: rowA 3 1 (.slice Ac on.length cc) on.length (ints on) :: (gParts g (.slice (some ⟨gl, 0, none⟩) st.l.length cl) (l.set i c') bb nb st.opn bs st.next ++ F)) →
                    AdP n w g st F buf on bc (.slice Ac on.length cc) (.slice (some ⟨gl, 0, none⟩) st.l.length cl) bb nb bs (k + 1) W' from fun c' W' hc' ho' => ⟨l.set i c', by
                  rw [HTK.out, List.foldl_append, ← hl1]
                  show _ = hangL _ _ _
                  unfold hangL
                  rw [if_neg (by rw [Int.toNat_natCast]; simpa [hil] using hd), Int.toNat_natCast, map_set_c hil, hc', modify_eq_set (by simpa using hil)]
                  simp, by
                  have e : (cntL st.l (on.take (k + 1)) : Int) = (cntL st.l (on.take k) : Int) + 1 := by
                    rw [HTK.out, cntL_snoc, if_neg (show ¬ (st.l.getD (i : Int).toNat zc).done = true from fun h => hd (HLI.out.symm.trans h))]
                    omega
                  rw [e]; exact ho'⟩)
                have hbc := ho.head
                have z2 : wr.cell? ⟨bc, 2, none⟩ = some (.int .i64 (cntL st.l (on.take k) : Int)) := hbc.cell 2
                have f2 : wr.frozen? ⟨bc, 2, none⟩ = false := hbc.frozen 2
                have hcb : (cntL st.l (on.take k) : Int) < 1099511627776 := by
                  have h1 := cntL_le st.l (on.take k)
                  have h2 := List.length_take_le k on
                  omega
                have hcb0 : (0 : Int) ≤ (cntL st.l (on.take k) : Int) := by omega
                have HO1 := hide (ho.setBlk 2 (.int .i64 ((cntL st.l (on.take k) : Int) + 1)))
                have htl : l[i].c.to.length < 2199023255552 := by
                  have h1 := hangF_to (st.l.length : Int) (on.take k) st.l i
                  rw [← hl1] at h1
                  have h2 := List.length_take_le k on
                  have h3 := (HF.out.chg _ (List.getElem_mem (show i < st.l.length by omega))).2.2.1
                  have e1 : ((l.map Cg.c).getD i zc) = l[i].c := by simp [hil]
                  have e2 : st.l.getD i zc = st.l[i]'(by omega) := by simp [show i < st.l.length by omega]
                  rw [e1, e2] at h1
                  omega
                have HSET := hide (fun c' (hc : onA c' = onA l[i]) => gParts_to_set g (.slice (some ⟨gl, 0, none⟩) st.l.length cl) l bb nb st.opn bs st.next i hil c' hc)
                have HGET := hide (gParts_to g (.slice (some ⟨gl, 0, none⟩) st.l.length cl) l bb nb st.opn bs st.next i hil)
                rw [hd'] at x4
                clear hd hd' ho hl1 hbc
                generalize (cntL st.l (on.take k) : Int) = q at z2 hcb hcb0 HO1 HN
                go_upto_region 14 with (fail)
                clear f2 z2 x0 x3 x4 y0 hcb hcb0
                rw [hlm] at HGET HSET
                have hG := (HO1.out.perm (((HGET.out.append_right F).cons _).cons _)).f4.f4.f4
                generalize wr.setCell ⟨bc, 2, none⟩ (.int .i64 (q + 1)) = W3 at hG ⊢
                have hbk : Blk W3 g #[.slice (some ⟨gl, 0, none⟩) st.l.length cl, .map (some bb), .int .i64 st.opn, .map (some nb)] 58 := hG.tail.head
                have hrow : W3.ownsRow n 60 5 (.slice (some ⟨gl, 0, none⟩) st.l.length cl) st.l.length (cellsL l) := hG.tail.tail.row
                have hvt : W3.ownsRow n 3 1 l[i].vto l[i].c.to.length (ints l[i].c.to) := hG.row
                have z0 : W3.cell? ⟨g, 0, none⟩ = some (.slice (some ⟨gl, 0, none⟩) st.l.length cl) := hbk.cell 0
                have z3 : W3.cell? ⟨gl, i * 5 + 3, none⟩ = some l[i].vto := by rw [hrow.cellAt (i * 5 + 3) (by omega), cellsL_at hil (by omega)]; rfl
                have fz : W3.frozen? ⟨gl, i * 5 + 3, none⟩ = false := hrow.frozenAt _
                have lg : g < W3.heap.size := hbk.lt
                have fzA : (W3.alloc (.cells #[.int .i64 (st.l.length : Int)] 3)).frozen? ⟨gl, i * 5 + 3, none⟩ = false := (hrow.alloc _).frozenAt _
                have z0A : (W3.alloc (.cells #[.int .i64 (st.l.length : Int)] 3)).cell? ⟨g, 0, none⟩ = some (.slice (some ⟨gl, 0, none⟩) st.l.length cl) := (hbk.alloc _).cell 0
                have z3A : (W3.alloc (.cells #[.int .i64 (st.l.length : Int)] 3)).cell? ⟨gl, i * 5 + 3, none⟩ = some l[i].vto := by rw [(hrow.alloc _).cellAt (i * 5 + 3) (by omega), cellsL_at hil (by omega)]; rfl
                have ll : gl < W3.heap.size := (hrow.lt gl rfl).2
                have ng : l[i].vto.ownBlock ≠ some g := fun e => hG.far (a' := blkA g #[.slice (some ⟨gl, 0, none⟩) st.l.length cl, .map (some bb), .int .i64 st.opn, .map (some nb)] 58) (by simp) g e rfl
                have nl : l[i].vto.ownBlock ≠ some gl := fun e => hG.far (a' := rowA 60 5 (.slice (some ⟨gl, 0, none⟩) st.l.length cl) st.l.length (cellsL l)) (by simp) gl e rfl
                have hsz := hG.sz
                have HGG := hide hG
                obtain ⟨i0, hi, hz0, hz1, hz2⟩ := info_parts info3
                clear hG hbk hrow HO1
                go_region_law ((refine step_append_lies _ (by rfl) _ _ _ (by rfl) n 3 i0 _ 1 8 Try.underlying25 hi hz0 hz1 hz2 rfl (by omega) l[i].vto l[i].c.to.length (ints l[i].c.to) (by rfl) ((hvt.alloc _).drew) ⟨W3.heap.size, 0, none⟩ 1 1 [.int .i64 (st.l.length : Int)] (by rfl) (by rfl) (World.news_of_block (cs := #[.int .i64 (st.l.length : Int)]) (t := 3) (fr := (0, 0)) (heap_alloc_new W3 _)) (by simp [Value.oneCell']) (by omega) (by unfold maxLen; omega) (by omega) (by simp; omega) (W3.heap.size + 1) (by simp) ?_; intro gg cap w4 hown1 hgrow hat hlt4; have q0 : w4.cell? ⟨g, 0, none⟩ = some (.slice (some ⟨gl, 0, none⟩) st.l.length cl) := (hgrow.cell_far _ (by simp; omega) (Ne.symm ng)).trans z0A; have q3 : w4.cell? ⟨gl, i * 5 + 3, none⟩ = some l[i].vto := (hgrow.cell_far _ (by simp; omega) (Ne.symm nl)).trans z3A; have qf : w4.frozen? ⟨gl, i * 5 + 3, none⟩ = false := (World.frozen?_of_block (hgrow.block gl (by simp; omega) (Ne.symm nl))).trans fzA; have HH := hide (And.intro hown1 (And.intro hgrow hat)); clear hown1 hgrow hat hlt4))
                all_goals
                  go_wp2
                  go_meet
                  have h5 := (show Own n w W3 (rowA 3 1 l[i].vto l[i].c.to.length (ints l[i].c.to) :: _) from HGG.out).alloc (.cells #[.int .i64 (st.l.length : Int)] 3) |>.drew.growRow HH.out.1 HH.out.2.1 (HH.out.2.2.elim (fun e => .inl e.symm) (fun e => .inr (by rw [e]; simp [Value.ownBlock])))
                  have h6 := h5.f2.setRow (i * 5 + 3) (.slice (some ⟨gg, 0, none⟩) (l[i].c.to.length + 1) cap)
                  rw [cellsL_set hil (by omega) _ ⟨⟨l[i].c.buf, l[i].c.on, l[i].c.left, l[i].c.to ++ [(st.l.length : Int)], l[i].c.done⟩, l[i].von, .slice (some ⟨gg, 0, none⟩) (l[i].c.to.length + 1) cap⟩ rfl] at h6
                  refine HN.out ⟨⟨l[i].c.buf, l[i].c.on, l[i].c.left, l[i].c.to ++ [(st.l.length : Int)], l[i].c.done⟩, l[i].von, .slice (some ⟨gg, 0, none⟩) (l[i].c.to.length + 1) cap⟩ _ rfl ?_
                  refine Own.perm ?_ ((((HSET.out ⟨⟨l[i].c.buf, l[i].c.on, l[i].c.left, l[i].c.to ++ [(st.l.length : Int)], l[i].c.done⟩, l[i].von, .slice (some ⟨gg, 0, none⟩) (l[i].c.to.length + 1) cap⟩ rfl).symm.append_right F).cons _).cons _)
                  have h7 := h6.f2.f2.f3.f4.f1
                  simpa [toA, ints] using h7
          case rest =>
            go_wp2
            go_roundg (on.length - (k + 1))
            case measure => omega
            case rel => exact ⟨k + 1, by omega, rfl, by go_num, hcut⟩
        · have hge : (on.length : Int) ≤ (k : Int) := by omega
          have hke : on.take k = on := List.take_of_length_le (by omega)
          obtain ⟨l, hl1, ho⟩ := HP.out
          rw [hke] at hl1 ho
          have hlm : l.length = st.l.length := by rw [← List.length_map (f := Cg.c), hl1, hangF_len]
          rw [show gParts g (.slice Al st.l.length cl) l bb nb st.opn bs st.next = blkA g #[.slice Al st.l.length cl, .map (some bb), .int .i64 st.opn, .map (some nb)] 58 :: rowA 60 5 (.slice Al st.l.length cl) l.length (cellsL l) :: mpA bb (locF bs) :: mpA nb (intF st.next) :: (l.map onA ++ (l.map toA ++ bs.map Bs.a)) from rfl, hlm] at ho
          have hbk := ho.head
          have hgk : Blk wr g #[.slice Al st.l.length cl, .map (some bb), .int .i64 st.opn, .map (some nb)] 58 := ho.tail.tail.head
          have hrow : wr.ownsRow n 60 5 (.slice Al st.l.length cl) st.l.length (cellsL l) := ho.tail.tail.tail.row
          generalize hqe : (cntL st.l on : Int) = q at ho hbk
          have HQ := hide hqe
          clear hqe
          have z0 : wr.cell? ⟨g, 0, none⟩ = some (.slice Al st.l.length cl) := hgk.cell 0
          have fz : wr.frozen? ⟨g, 0, none⟩ = false := hgk.frozen 0
          have c0 : wr.cell? ⟨bc, 0, none⟩ = some (.int .i64 buf) := hbk.cell 0
          have c1 : wr.cell? ⟨bc, 1, none⟩ = some (.slice Ac on.length cc) := hbk.cell 1
          have c2 : wr.cell? ⟨bc, 2, none⟩ = some (.int .i64 q) := hbk.cell 2
          have c3 : wr.cell? ⟨bc, 3, none⟩ = some (.slice none 0 0) := hbk.cell 3
          have c4 : wr.cell? ⟨bc, 4, none⟩ = some (.bool false) := hbk.cell 4
          have ng : (Value.slice Al st.l.length cl).ownBlock ≠ some g := fun e => ho.tail.tail.tail.perm (bs := rowA 60 5 (.slice Al st.l.length cl) st.l.length (cellsL l) :: _) (List.Perm.refl _) |>.base _ List.mem_cons_self _ e |> fun _ => ho.tail.tail.far (a' := rowA 60 5 (.slice Al st.l.length cl) st.l.length (cellsL l)) (by simp) g rfl e
          have lg : g < wr.heap.size := hgk.lt
          have hsz := ho.sz
          have hla := hrow.alloc (.cells #[.int .i64 buf, .slice Ac on.length cc, .int .i64 q, .slice none 0 0, .bool false] 60)
          have z0A : (wr.alloc (.cells #[.int .i64 buf, .slice Ac on.length cc, .int .i64 q, .slice none 0 0, .bool false] 60)).cell? ⟨g, 0, none⟩ = some (.slice Al st.l.length cl) := (hgk.alloc _).cell 0
          have fzA : (wr.alloc (.cells #[.int .i64 buf, .slice Ac on.length cc, .int .i64 q, .slice none 0 0, .bool false] 60)).frozen? ⟨g, 0, none⟩ = false := (hgk.alloc _).frozen 0
          have HOW := hide ho
          have HL1 := hide hl1
          obtain ⟨i0, hi, hz0, hz1, hz2⟩ := info_parts info60
          clear hke hl1 ho hbk hgk HP0 HP
          go_upto_region 16 with (fail)
          go_cut [] from 72 to 81 (fun wx => ∃ A' c', Hid (Own n w wx (blkA bc #[.int .i64 buf, .slice Ac on.length cc, .int .i64 q, .slice none 0 0, .bool false] 60 :: (gParts g (.slice A' (st.l.length + 1) c') (l ++ [⟨⟨buf, on, q, [], false⟩, .slice Ac on.length cc, .slice none 0 0⟩]) bb nb st.opn bs st.next ++ F))))
          case first =>
            go_region_law ((refine step_append_lies _ (by rfl) _ _ _ (by rfl) n 60 i0 _ 5 72 Try.underlying56 hi hz0 hz1 hz2 rfl (by omega) (.slice Al st.l.length cl) st.l.length (cellsL l) (by rfl) (hla.drew) ⟨wr.heap.size, 0, none⟩ 1 1 [.int .i64 buf, .slice Ac on.length cc, .int .i64 q, .slice none 0 0, .bool false] (by rfl) (by rfl) (World.news_of_block (cs := #[.int .i64 buf, .slice Ac on.length cc, .int .i64 q, .slice none 0 0, .bool false]) (t := 60) (fr := (0, 0)) (heap_alloc_new wr _)) (by simp [Value.oneCell']) (by omega) (by unfold maxLen; omega) (by omega) (by simp; omega) (wr.heap.size + 1) (by simp) ?_; intro gg cap w4 hown1 hgrow hat hlt4; have q0 : w4.cell? ⟨g, 0, none⟩ = some (.slice Al st.l.length cl) := (hgrow.cell_far _ (by simp; omega) (Ne.symm ng)).trans z0A; have qf : w4.frozen? ⟨g, 0, none⟩ = false := (World.frozen?_of_block (hgrow.block g (by simp; omega) (Ne.symm ng))).trans fzA; have HH := hide (And.intro hown1 (And.intro hgrow hat)); clear hown1 hgrow hat hlt4))
            all_goals
              go_wp2
              go_meet
              have h1 := HOW.out.f3.alloc (.cells #[.int .i64 buf, .slice Ac on.length cc, .int .i64 q, .slice none 0 0, .bool false] 60) |>.drew.growRow HH.out.1 HH.out.2.1 (HH.out.2.2.elim (fun e => .inl e.symm) (fun e => .inr (by rw [e]; simp [Value.ownBlock])))
              have h2 := (h1.f3.setBlk 0 (.slice (some ⟨gg, 0, none⟩) (st.l.length + 1) cap)).nilRow 3 1
              have hsn := gParts_snoc g (.slice (some ⟨gg, 0, none⟩) (st.l.length + 1) cap) l ⟨⟨buf, on, q, [], false⟩, .slice Ac on.length cc, .slice none 0 0⟩ bb nb st.opn bs st.next
              rw [hlm] at hsn
              refine ⟨some ⟨gg, 0, none⟩, cap, hide (Own.perm ?_ ((hsn.symm.append_right F).cons _))⟩
              exact h2.f4.f3.f3.f4
          case rest =>
            obtain ⟨A', c', HC⟩ := hcut
            have HL2 := hide (show (l ++ [(⟨⟨buf, on, q, [], false⟩, .slice Ac on.length cc, .slice none 0 0⟩ : Cg)]).map Cg.c = on.foldl (hangL (st.l.length : Int)) st.l ++ [⟨buf, on, q, [], false⟩] by rw [List.map_append, HL1.out]; rfl)
            clear c0 c1 c2 c3 c4 z0 fz z0A fzA hla hrow ng lg hsz HOW HL1 hi hz0 hz1 hz2
            generalize l ++ [(⟨⟨buf, on, q, [], false⟩, .slice Ac on.length cc, .slice none 0 0⟩ : Cg)] = l2 at HC HL2
            generalize hvl : (Value.slice A' (st.l.length + 1) c') = vl2 at HC
            clear hvl hlm
            have hgk : Blk wc g #[vl2, .map (some bb), .int .i64 st.opn, .map (some nb)] 58 := HC.out.hold (blkA g #[vl2, .map (some bb), .int .i64 st.opn, .map (some nb)] 58) (by simp [gParts])
            obtain ⟨sb, hbm⟩ : ∃ s, OwnV Try.prog 3 wc bb (locF bs) s := HC.out.hold (mpA bb (locF bs)) (by simp [gParts])
            have hsb := HF.out.bufsSize HB.out.1 hbm
            have x1 : wc.cell? ⟨g, 1, none⟩ = some (.map (some bb)) := hgk.cell 1
            have hlk := hbm.look0 Try.underlying3 Try.underlying54 (zero62 _) buf hw
            obtain ⟨mb, hmb⟩ : ∃ mb, mb = (bsAt bs buf).map Bs.loc := ⟨_, rfl⟩
            have hlv : ((locF bs) buf).getD (.map none) = .map mb := by rw [hmb]; unfold locF; cases bsAt bs buf <;> rfl
            rw [hlv] at hlk
            have hq := run_eql_map_nil (P := Try.prog) wc 62 3 4 mb Try.underlying62
            have HBM := hide hbm
            have HMB := hide hmb
            clear hmb
            have hmm := @run_makeMap Try.prog
            clear hbm hlv hgk
            go_upto_if 88 with (fail)
            go_cut [] from 89 to 94 (fun wx => ∃ (b1 b2 : List Bs) (b0 : Bs), Hid (Own n w wx (blkA bc #[.int .i64 buf, .slice Ac on.length cc, .int .i64 q, .slice none 0 0, .bool false] 60 :: (gParts g vl2 l2 bb nb st.opn (b1 ++ b0 :: b2) st.next ++ F)) ∧ b0.key = buf ∧ ((b1 ++ b0 :: b2).map Bs.key).Nodup ∧ (∀ x, b0.set x = setOr (st.bufs buf) x) ∧ (∀ x, x ≠ buf → (bsAt (b1 ++ b0 :: b2) x).map Bs.set = st.bufs x)))
            case first =>
              cases mb with
              | none =>
                have hbs : bsAt bs buf = none := by have := HMB.out; cases hq2 : bsAt bs buf with | none => rfl | some _ => rw [hq2] at this; cases this
                have HBS := hide hbs
                clear hbs
                go_wp2_with (with_reducible refine wpList_putV rfl _ _ _ 54 (.inl rfl) 3 62 Try.underlying3 Try.underlying54 bb sb (locF bs) rfl (HBM.out.alloc _) (by unfold maxLen; omega) buf (.map (some wc.heap.size)) rfl rfl hw ?_; intro w5 hown5 hg5; have HG5 := hide (And.intro hown5 hg5); clear hown5 hg5)
                go_meet
                have h1 := HC.out.new (.map #[] 0) (mpA wc.heap.size (setF (fun _ => false))) rfl ⟨0, OwnV.made wc Try.prog 3⟩
                have h2 := h1.f4.grow (a' := mpA bb (locF (bs ++ [⟨buf, wc.heap.size, fun _ => false⟩]))) HG5.out.2 (fun k hk => .inl hk) ⟨_, by rw [locF_snoc (b := ⟨buf, wc.heap.size, fun _ => false⟩) HBS.out]; exact HG5.out.1⟩
                refine ⟨bs, [], ⟨buf, wc.heap.size, fun _ => false⟩, hide ⟨?_, rfl, keys_snoc HBS.out HB.out.2, fun x => by rw [HB.out.1, HBS.out]; rfl, fun x hx => by rw [bsAt_snoc (b := ⟨buf, wc.heap.size, fun _ => false⟩) HBS.out, if_neg hx, HB.out.1]⟩⟩
                exact Own.perm h2.f2 (((gParts_bsnoc g vl2 l2 bb nb st.opn bs ⟨buf, wc.heap.size, fun _ => false⟩ st.next).symm.append_right F).cons _)
              | some lc =>
                obtain ⟨b0, hbs⟩ : ∃ b0, bsAt bs buf = some b0 := by have := HMB.out; cases hq2 : bsAt bs buf with | none => rw [hq2] at this; cases this | some b => exact ⟨b, rfl⟩
                obtain ⟨b1, b2, hbe, hb1, hk0⟩ := bsAt_split hbs
                have HN := hide (show Own n w wc (blkA bc #[.int .i64 buf, .slice Ac on.length cc, .int .i64 q, .slice none 0 0, .bool false] 60 :: (gParts g vl2 l2 bb nb st.opn (b1 ++ b0 :: b2) st.next ++ F)) ∧ b0.key = buf ∧ ((b1 ++ b0 :: b2).map Bs.key).Nodup ∧ (∀ x, b0.set x = setOr (st.bufs buf) x) ∧ (∀ x, x ≠ buf → (bsAt (b1 ++ b0 :: b2) x).map Bs.set = st.bufs x) from
                  ⟨by rw [← hbe]; exact HC.out, hk0, by rw [← hbe]; exact HB.out.2, fun x => by rw [HB.out.1, hbs]; rfl, fun x _ => by rw [← hbe]; exact (HB.out.1 x).symm⟩)
                clear hbs hb1 hk0 hbe
                go_wp2
                go_meet
                exact ⟨b1, b2, b0, HN⟩
            case rest =>
              clear hlk x1 hq HBM HMB hmm hsb HC
              obtain ⟨b1, b2, b0, HD⟩ := hcut
              have hk0 := HD.out.2.1
              have hfar := keys_far HD.out.2.2.1
              have hgk : Blk wc g #[vl2, .map (some bb), .int .i64 st.opn, .map (some nb)] 58 := HD.out.1.hold (blkA g #[vl2, .map (some bb), .int .i64 st.opn, .map (some nb)] 58) (by simp [gParts])
              obtain ⟨sb2, hbm⟩ : ∃ s, OwnV Try.prog 3 wc bb (locF (b1 ++ b0 :: b2)) s := HD.out.1.hold (mpA bb (locF (b1 ++ b0 :: b2))) (by simp [gParts])
              have hO1 := (HD.out.1.perm (((gParts_bs g vl2 l2 bb nb st.opn b1 b2 b0 st.next).append_right F).cons _)).f1
              obtain ⟨z, hz⟩ : ∃ s, OwnV Try.prog 3 wc b0.loc (setF b0.set) s := hO1.head
              have hzl := hz.size_le ((List.range st.l.length).map (fun i : Nat => (i : Int))) (fun x hx => by
                rw [setF_isSome, HD.out.2.2.2.1] at hx
                cases hb : st.bufs buf with
                | none => rw [hb] at hx; cases hx
                | some s => rw [hb] at hx; exact mem_rangeI (HF.out.set buf s hb x hx))
              rw [List.length_map, List.length_range] at hzl
              have x1 : wc.cell? ⟨g, 1, none⟩ = some (.map (some bb)) := hgk.cell 1
              have hlk := hbm.look0 Try.underlying3 Try.underlying54 (zero62 _) buf hw
              have hlv : ((locF (b1 ++ b0 :: b2)) buf).getD (.map none) = .map (some b0.loc) := by
                unfold locF
                rw [bsAt_mid (b' := b0) (fun c hc => hfar c (List.mem_append_left _ hc)) rfl, if_pos hk0.symm]; rfl
              rw [hlv] at hlk
              have hwn := wfN hlen
              have HZ := hide hz
              have HO1 := hide hO1
              have HFAR := hide hfar
              have HK0 := hide hk0
              clear hz hO1 hfar hk0 hbm hlv
              go_upto_region 20 with (with_reducible refine wpList_putV rfl _ _ _ 62 (.inl rfl) 3 4 Try.underlying3 Try.underlying62 b0.loc z (setF b0.set) rfl HZ.out (by unfold maxLen; omega) (st.l.length : Int) (.bool true) rfl rfl hwn ?_; intro w6 hown6 hg6; have HG6 := hide (And.intro hown6 hg6); clear hown6 hg6)
              have h3 := HO1.out.grow (a' := Bs.a ⟨b0.key, b0.loc, fun x => if x = (st.l.length : Int) then true else b0.set x⟩) HG6.out.2 (fun k hk => .inl hk) ⟨_, by rw [← setF_put]; exact HG6.out.1⟩
              have h4 := h3.f2
              have hgk6 : Blk w6 g #[vl2, .map (some bb), .int .i64 st.opn, .map (some nb)] 58 := h4.head
              have x2 : w6.cell? ⟨g, 2, none⟩ = some (.int .i64 st.opn) := hgk6.cell 2
              have f2 : w6.frozen? ⟨g, 2, none⟩ = false := hgk6.frozen 2
              have hop := HF.out.opn
              have hop1 := hop.1
              have hop2 := hop.2
              have H4 := hide h4
              clear x1 hlk h3 h4 hop hgk hgk6
              go_upto_region 21 with (fail)
              have h5 := H4.out.setBlk 2 (.int .i64 (st.opn + 1))
              generalize w6.setCell ⟨g, 2, none⟩ (.int .i64 (st.opn + 1)) = W7 at h5 ⊢
              have z2 : W7.cell? ⟨bc, 2, none⟩ = some (.int .i64 q) := h5.tail.tail.head.cell 2
              have hgk7 : Blk W7 g #[vl2, .map (some bb), .int .i64 (st.opn + 1), .map (some nb)] 58 := h5.head
              have x3 : W7.cell? ⟨g, 3, none⟩ = some (.map (some nb)) := hgk7.cell 3
              obtain ⟨sN, hnb⟩ : ∃ s, OwnV Try.prog 3 W7 nb (intF st.next) s := h5.hold (mpA nb (intF st.next)) (by simp)
              have hsN := HF.out.nextSize hnb
              have HEND := hide (show ∀ (nx : Int → Option Int) (V : World), nx = (addS st buf on).next → Own n w V (mpA nb (intF nx) :: blkA g #[vl2, .map (some bb), .int .i64 (st.opn + 1), .map (some nb)] 58 :: Bs.a ⟨b0.key, b0.loc, fun x => if x = (st.l.length : Int) then true else b0.set x⟩ :: blkA bc #[.int .i64 buf, .slice Ac on.length cc, .int .i64 q, .slice none 0 0, .bool false] 60 :: rowA 60 5 vl2 l2.length (cellsL l2) :: mpA bb (locF (b1 ++ b0 :: b2)) :: ((l2.map onA ++ (l2.map toA ++ (b1 ++ b2).map Bs.a)) ++ F)) →
                  ∃ ps', IsG g (addS st buf on) ps' ∧ Own n w V (ps' ++ F) from fun nx V hnx hV => by
                have hk0 := HK0.out
                have hf1 : ∀ c ∈ b1, c.key ≠ b0.key := fun c hc => HFAR.out c (List.mem_append_left _ hc)
                have e := locF_mid (l2 := b2) (b := b0) (b' := ⟨b0.key, b0.loc, fun x => if x = (st.l.length : Int) then true else b0.set x⟩) hf1 rfl rfl
                refine ⟨gParts g vl2 l2 bb nb (st.opn + 1) (b1 ++ ⟨b0.key, b0.loc, fun x => if x = (st.l.length : Int) then true else b0.set x⟩ :: b2) nx, ⟨vl2, l2, bb, nb, b1 ++ ⟨b0.key, b0.loc, fun x => if x = (st.l.length : Int) then true else b0.set x⟩ :: b2, by rw [hnx]; rfl, by rw [HL2.out, ← HQ.out]; rfl, fun x => ?_, keys_mid (b := b0) rfl HD.out.2.2.1⟩, ?_⟩
                · rw [bsAt_mid (b := b0) (b' := ⟨b0.key, b0.loc, fun x => if x = (st.l.length : Int) then true else b0.set x⟩) hf1 rfl, hk0]
                  show upd st.bufs buf _ x = _
                  unfold upd
                  by_cases ex : x = buf
                  · rw [if_pos ex, if_pos ex]
                    show some _ = some _
                    congr 1
                    funext y
                    by_cases ey : y = (st.l.length : Int)
                    · simp [ey]
                    · simp only [ey, if_false]; exact (HD.out.2.2.2.1 y).symm
                  · rw [if_neg ex, if_neg ex]; exact (HD.out.2.2.2.2 x ex).symm
                · refine Own.perm ?_ ((gParts_bs g vl2 l2 bb nb (st.opn + 1) b1 b2 ⟨b0.key, b0.loc, fun x => if x = (st.l.length : Int) then true else b0.set x⟩ nx).symm.append_right F)
                  rw [e]
                  have h6 := hV.f3.tail
                  exact h6.f4.f4.f3.f4)
              have H5 := hide h5
              clear hgk7 h5 H4 HO1 HZ
              by_cases hq0 : q = 0
              · have e1 : (q == 0) = true := by rw [hq0]; rfl
                have hlk2 := hnb.look0 Try.underlying3 Try.underlying55 (zero3 _) buf hw
                have hlv : ((intF st.next) buf).getD (.int .i64 0) = .int .i64 ((st.next buf).getD 0) := by unfold intF; cases st.next buf <;> rfl
                rw [hlv] at hlk2
                have hvb : -1099511627776 < (st.next buf).getD 0 ∧ (st.next buf).getD 0 < 1099511627776 := by
                  cases hv : st.next buf with
                  | none => exact ⟨by decide, by decide⟩
                  | some v => exact HF.out.next buf v hv
                have hv1 := hvb.1
                have hv2 := hvb.2
                have HNX := hide (show upd st.next buf (some ((st.next buf).getD 0 + 1)) = (addS st buf on).next by
                  show _ = (if cntL st.l on = 0 then _ else _)
                  rw [if_pos (by have := HQ.out; omega)])
                have HNB := hide hnb
                generalize (st.next buf).getD 0 = v at hlk2 hv1 hv2 HNX
                clear hvb hlv hnb hq0
                go_wp2_with (with_reducible refine wpList_putV rfl _ _ _ 55 (.inl rfl) 3 3 Try.underlying3 Try.underlying55 nb sN (intF st.next) rfl HNB.out (by unfold maxLen; omega) buf (.int .i64 (v + 1)) rfl rfl hw ?_; intro w8 hown8 hg8; have HG8 := hide (And.intro hown8 hg8); clear hown8 hg8)
                go_ret2
                have h6 := H5.out.f5.grow (a' := mpA nb (intF (upd st.next buf (some (v + 1))))) HG8.out.2 (fun k hk => .inl hk) ⟨_, by rw [← intF_put]; exact HG8.out.1⟩
                obtain ⟨ps', h7, h8⟩ := HEND.out _ _ HNX.out h6
                exact ⟨ps', rfl, h7, h8⟩
              · have e1 : (q == 0) = false := by rw [beq_eq_false_iff_ne]; exact hq0
                have HNX := hide (show st.next = (addS st buf on).next by
                  show _ = (if cntL st.l on = 0 then _ else _)
                  rw [if_neg (by have := HQ.out; omega)])
                clear hnb hq0
                go_wp2
                go_ret2
                obtain ⟨ps', h7, h8⟩ := HEND.out _ _ HNX.out H5.out.f5
                exact ⟨ps', rfl, h7, h8⟩
end
end Go.Proofs.Ytlpdhmkcbdhelaa
