/-
  The walk of deps.Graph.Add. Conditions: the graph's numbers are in their bounds; what is added hangs on changes that are there.
  SameInts, num, and the contracts of a graph by its rows. Conditions: the rows are few.
  The contracts of a graph by its rows. Conditions: the rows are few.
  The document's own graph in memory; its may and Left. Conditions: the rows are few.
-/
import Derived.Test.YtjfejimghbohdaaMB4
import Derived.Deep.RegionHeld3
import Derived.Deep.AppendLies
import Derived.Deep.RegionLaw
import Derived.Deep.CutBlock
namespace Go.Proofs.Ytjfejimghbohdaa
set_option linter.unusedVariables false
set_option linter.unusedSimpArgs false
open Go.RowKit Go.Maps

theorem info60 : (Try.prog.info? 64).map (fun i => (i.zero, i.size, i.bytes)) = some (some (.agg #[.int .i64 0, .slice none 0 0, .int .i64 0, .slice none 0 0, .bool false]), 5, 72) := by kernel_rfl
section
variable {n g : Nat} {w W : World} {F ps : List Atom} {st : St}
theorem add_no (hg : IsG g st ps) (hf : Fit st) (ho : Own n w W (ps ++ F)) (buf : Int) (A : Option Addr) (c : Nat) (on : List Int) (hl : on.length < 1099511627776) (hr : Reads n w F A on) (hon : ¬ ∀ x ∈ on, isB st x = true) :
    Calls Try.prog 16 #[.pointer (some ⟨g, 0, none⟩), .int .i64 buf, .slice A on.length c] W fun e W' => e = .returned (.tuple #[.int .i64 0, .int .i64 1]) ∧ W = W' := by
  have HI := hide (fun id => is_c (W := W) hg (fun a ha => ho.hold a (List.mem_append_left _ ha)) hf id)
  have HX := hide (hr W (ho.sub (List.sublist_append_right _ _)))
  have HON := hide hon
  clear hg hf ho hr hon
  go_enter Try.func16, Try.ntmps16
  go_wp2
  go_loop [16] (fun i => ∃ k : Nat, k ≤ on.length ∧ i = .int .i64 k ∧ Hid (∀ x ∈ on.take k, isB st x = true)) (fun i => on.length - (intOf i).toNat)
  case atStart => exact ⟨0, by omega, rfl, hide (by simp)⟩
  case round =>
    obtain ⟨k, hk, rfl, HK⟩ := hrel
    by_cases hlt : k < on.length
    · obtain ⟨b, off, rfl, _, hc⟩ := HX.out (by intro e; rw [e] at hlt; simp at hlt)
      have y0 := hc k hlt
      have hgd : on.getD k 0 = on[k] := by simp [hlt]
      rw [hgd] at y0
      have HS := hide (fun h : isB st on[k] = true => show ∀ x ∈ on.take (k + 1), isB st x = true from fun x hx => by
        rw [List.take_succ_eq_append_getElem hlt] at hx
        rcases List.mem_append.1 hx with hx | hx
        · exact HK.out x hx
        · rw [List.mem_singleton.1 hx]; exact h)
      have HC := hide (HI.out on[k])
      generalize on[k] = id at y0 HS HC
      have o1 : (0 : Int) ≤ (k : Int) := by omega
      have o2 : (k : Int) < (on.length : Int) := by omega
      clear hc hgd
      cases hb : isB st id with
      | true =>
        rw [hb] at HC HS
        clear hb
        go_wp2_with (go_at_call 32; refine HC.out.mono ?_; rintro e w' ⟨rfl, rfl⟩)
        go_round
        case rel => exact ⟨k + 1, by omega, by go_num, hide (HS.out (by simp))⟩
        case measure => simp [intOf]; omega
      | false =>
        rw [hb] at HC
        clear hb
        go_wp2_with (go_at_call 32; refine HC.out.mono ?_; rintro e w' ⟨rfl, rfl⟩)
        go_ret2
        exact ⟨rfl, rfl⟩
    · exact absurd (by have := HK.out; rwa [List.take_of_length_le (by omega)] at this) HON.out
/-- what lies in memory while the new change is hung on others -/
def AdP (n : Nat) (w : World) (g : Nat) (st : St) (F : List Atom) (buf : Int) (on : List Int) (bc : Nat) (vc vl : Value) (bb nb : Nat) (bs : List Bs) (k : Nat) (W : World) : Prop :=
  ∃ l : List Cg, l.map Cg.c = (on.take k).foldl (hangL (st.l.length : Int)) st.l ∧
    Own n w W (blkA bc #[.int .i64 buf, vc, .int .i64 (cntL st.l (on.take k) : Int), .slice none 0 0, .bool false] 64 :: rowA 3 1 vc on.length (ints on) :: (gParts g vl l bb nb st.opn bs st.next ++ F))
set_option maxHeartbeats 4000000 in
set_option maxRecDepth 100000 in
theorem add_yes (hg : IsG g st ps) (hf : Fit st) (ho : Own n w W (ps ++ F)) (buf : Int) (hw : (Lit.int .i64 buf).wf = true) (A : Option Addr) (c : Nat) (on : List Int) (hl : on.length < 1099511627776) (hr : Reads n w F A on) (hon : ∀ x ∈ on, isB st x = true) :
    Calls Try.prog 16 #[.pointer (some ⟨g, 0, none⟩), .int .i64 buf, .slice A on.length c] W fun e W' => ∃ ps', e = .returned (.tuple #[.int .i64 (st.l.length : Int), .int .i64 0]) ∧ IsG g (addS st buf on) ps' ∧ Own n w W' (ps' ++ F) := by
  have HI := hide (fun id => is_c (W := W) hg (fun a ha => ho.hold a (List.mem_append_left _ ha)) hf id)
  have hX := hr W (ho.sub (List.sublist_append_right _ _))
  have HCL := hide (clone31_c A on.length c (ints on) W (by rw [ints_len]; omega) hX.cells (by intro u hu; unfold ints at hu; obtain ⟨z, _, rfl⟩ := List.mem_map.1 hu; rfl) (by omega))
  have HX := hide hX
  have HON := hide hon
  have HR := hide hr
  have HF := hide hf
  obtain ⟨vl, l0, bb, nb, bs, rfl, h1, h2, h3⟩ := hg
  have hll : l0.length = st.l.length := by rw [← h1, List.length_map]
  have hlen := hf.len
  have HB := hide (And.intro h2 h3)
  have hrl : W.ownsRow 0 64 5 vl l0.length (cellsL l0) := ho.hold (rowA 64 5 vl l0.length (cellsL l0)) (by simp [gParts])
  rw [hll] at hrl
  obtain ⟨Al, cl, rfl⟩ := own_slice hrl
  have hbk : Blk W g #[.slice Al st.l.length cl, .map (some bb), .int .i64 st.opn, .map (some nb)] 69 := ho.hold (blkA g #[.slice Al st.l.length cl, .map (some bb), .int .i64 st.opn, .map (some nb)] 69) (by simp [gParts])
  have z0 : W.cell? ⟨g, 0, none⟩ = some (.slice Al st.l.length cl) := hbk.cell 0
  have HO := hide ho
  have H1 := hide h1
  clear hf ho hr hon h1 h2 h3 hX hrl hbk hll
  go_enter Try.func16, Try.ntmps16
  go_wp2
  go_loop [16] (fun i => ∃ k : Nat, k ≤ on.length ∧ i = .int .i64 k) (fun i => on.length - (intOf i).toNat)
  case atStart => exact ⟨0, by omega, rfl⟩
  case round =>
    obtain ⟨k, hk, rfl⟩ := hrel
    by_cases hlt : k < on.length
    · obtain ⟨b, off, rfl, _, hc⟩ := HX.out (by intro e; rw [e] at hlt; simp at hlt)
      have y0 := hc k hlt
      have hgd : on.getD k 0 = on[k] := by simp [hlt]
      rw [hgd] at y0
      have HC := hide (HI.out on[k])
      rw [HON.out _ (List.getElem_mem hlt)] at HC
      generalize on[k] = id at y0 HC
      have o1 : (0 : Int) ≤ (k : Int) := by omega
      have o2 : (k : Int) < (on.length : Int) := by omega
      clear hc hgd
      go_wp2_with (go_at_call 32; refine HC.out.mono ?_; rintro e w' ⟨rfl, rfl⟩)
      go_round
      case rel => exact ⟨k + 1, by omega, by go_num⟩
      case measure => simp [intOf]; omega
    · have hge : (on.length : Int) ≤ (k : Int) := by omega
      clear hlt
      go_upto_region 9 with (go_at_call 33; refine HCL.out.mono ?_; rintro e w1 ⟨vc, rfl, hvc, hb1⟩; obtain ⟨Ac, cc, rfl⟩ := own_slice hvc; have HVC := hide (And.intro hvc hb1); clear hvc hb1)
      have hP0 : AdP n w g st F buf on w1.heap.size (.slice Ac on.length cc) (.slice Al st.l.length cl) bb nb bs 0 (w1.alloc (.cells #[.int .i64 buf, .slice Ac on.length cc, .int .i64 0, .slice none 0 0, .bool false] 64)) :=
        ⟨l0, H1.out, (HO.out.moreRow HVC.out.2 HVC.out.1).newBlk _ _⟩
      have HP0 := hide hP0
      clear hP0
      generalize w1.alloc (.cells #[.int .i64 buf, .slice Ac on.length cc, .int .i64 0, .slice none 0 0, .bool false] 64) = W2 at HP0 ⊢
      generalize w1.heap.size = bc at HP0 ⊢
      clear HVC HCL HI HX z0 H1 HO hge
      go_wp2
      go_loopg [36] on.length (fun m i W => ∃ k : Nat, k ≤ on.length ∧ m = on.length - k ∧ i = .int .i64 k ∧ Hid (AdP n w g st F buf on bc (.slice Ac on.length cc) (.slice Al st.l.length cl) bb nb bs k W))
      case atStart => exact ⟨0, by omega, by omega, rfl, HP0⟩
      case round =>
        obtain ⟨k, hk, rfl, rfl, HP⟩ := hrel
        by_cases hlt : k < on.length
        · have p2 : (k : Int) < (on.length : Int) := by omega
          go_upto_block 3 with (fail)
          clear p2
          go_cut [] from 37 to 71 (fun wx => Hid (AdP n w g st F buf on bc (.slice Ac on.length cc) (.slice Al st.l.length cl) bb nb bs (k + 1) wx))
          case first =>
              obtain ⟨l, hl1, ho⟩ := HP.out
              have hlm : l.length = st.l.length := by rw [← List.length_map (f := Cg.c), hl1, hangF_len]
              obtain ⟨b, off, rfl, _, hc⟩ := HR.out wr (ho.tail.tail.sub (List.sublist_append_right _ _)) (by intro e; rw [e] at hlt; simp at hlt)
              have y0 := hc k hlt
              have hgd : on.getD k 0 = on[k] := by simp [hlt]
              rw [hgd] at y0
              have hib := HON.out _ (List.getElem_mem hlt)
              have hTK := List.take_succ_eq_append_getElem hlt
              have HTK := hide hTK
              generalize on[k] = id at y0 hib HTK
              have hb : 0 ≤ id ∧ id < st.l.length := by unfold isB at hib; simpa using hib
              obtain ⟨i, rfl⟩ := Int.eq_ofNat_of_zero_le hb.1
              have hil : i < l.length := by omega
              have o1 : (0 : Int) ≤ (k : Int) := by omega
              have o2 : (k : Int) < (on.length : Int) := by omega
              have o3 : (0 : Int) ≤ (i : Int) := by omega
              have o4 : (i : Int) < (st.l.length : Int) := by omega
              have hrow : wr.ownsRow 0 64 5 (.slice Al st.l.length cl) st.l.length (cellsL l) := by
                have := ho.hold (rowA 64 5 (.slice Al st.l.length cl) l.length (cellsL l)) (by simp [gParts])
                rw [hlm] at this; exact this
              obtain ⟨gl, rfl⟩ := row_form hrow (by omega)
              have hbk : Blk wr g #[.slice (some ⟨gl, 0, none⟩) st.l.length cl, .map (some bb), .int .i64 st.opn, .map (some nb)] 69 := ho.hold (blkA g #[.slice (some ⟨gl, 0, none⟩) st.l.length cl, .map (some bb), .int .i64 st.opn, .map (some nb)] 69) (by simp [gParts])
              have hcl : ∀ j, j < 5 → wr.cell? ⟨gl, i * 5 + j, none⟩ = (l[i].cells)[j]? := fun j hj => by rw [hrow.cellAt (i * 5 + j) (by omega), cellsL_at hil hj]
              have x0 : wr.cell? ⟨g, 0, none⟩ = some (.slice (some ⟨gl, 0, none⟩) st.l.length cl) := hbk.cell 0
              have x3 : wr.cell? ⟨gl, i * 5 + 3, none⟩ = some l[i].vto := hcl 3 (by omega)
              have x4 : wr.cell? ⟨gl, i * 5 + 4, none⟩ = some (.bool l[i].c.done) := hcl 4 (by omega)
              have hdn : l[i].c.done = (at_ st (i : Int)).done := by
                have := hangF_done (st.l.length : Int) (on.take k) st.l i
                rw [← hl1] at this
                unfold at_
                simpa [hil] using this
              have HLI := hide (show (at_ st (i : Int)).done = l[i].c.done from hdn.symm)
              clear hc hgd hib hTK hb hdn hcl hbk hrow
              by_cases hd : l[i].c.done = true
              · have HN := hide (show AdP n w g st F buf on bc (.slice Ac on.length cc) (.slice (some ⟨gl, 0, none⟩) st.l.length cl) bb nb bs (k + 1) wr from ⟨l, by
                  rw [HTK.out, List.foldl_append, ← hl1]
                  show _ = hangL _ _ _
                  unfold hangL
                  rw [if_pos (by rw [Int.toNat_natCast]; simpa [hil] using hd)], by
                  have e : cntL st.l (on.take (k + 1)) = cntL st.l (on.take k) := by
                    rw [HTK.out, cntL_snoc, if_pos (show (st.l.getD (i : Int).toNat zc).done = true from HLI.out.trans hd), Nat.add_zero]
                  rw [e]; exact ho⟩)
                rw [hd] at x4
                clear ho hl1 hd
                go_wp2
                go_meet
                exact HN
              · have hd' : l[i].c.done = false := by simpa using hd
                have HN := hide (show ∀ (c' : Cg) W', c'.c = (⟨l[i].c.buf, l[i].c.on, l[i].c.left, l[i].c.to ++ [(st.l.length : Int)], l[i].c.done⟩ : Chg) → Own n w W' (blkA bc #[.int .i64 buf, .slice Ac on.length cc, .int .i64 ((cntL st.l (on.take k) : Int) + 1), .slice none 0 0, .bool false] 64 :: rowA 3 1 (.slice Ac on.length cc) on.length (ints on) :: (gParts g (.slice (some ⟨gl, 0, none⟩) st.l.length cl) (l.set i c') bb nb st.opn bs st.next ++ F)) →
                    AdP n w g st F buf on bc (.slice Ac on.length cc) (.slice (some ⟨gl, 0, none⟩) st.l.length cl) bb nb bs (k + 1) W' from fun c' W' hc' ho' => ⟨l.set i c', by
                  rw [HTK.out, List.foldl_append, ← hl1]
                  show _ = hangL _ _ _
                  unfold hangL
                  rw [if_neg (by rw [Int.toNat_natCast]; simpa [hil] using hd), Int.toNat_natCast, map_set_c hil, hc', modify_eq_set (by simpa using hil)]
                  simp, by
                  have e : (cntL st.l (on.take (k + 1)) : Int) = (cntL st.l (on.take k) : Int) + 1 := by
                    rw [HTK.out, cntL_snoc, if_neg (show ¬ (st.l.getD (i : Int).toNat zc).done = true from fun h => hd (HLI.out.symm.trans h))]
                    omega
                  rw [e]; exact ho'⟩)
                have hbc := ho.head
                have z2 : wr.cell? ⟨bc, 2, none⟩ = some (.int .i64 (cntL st.l (on.take k) : Int)) := hbc.cell 2
                have f2 : wr.frozen? ⟨bc, 2, none⟩ = false := hbc.frozen 2
                have hcb : (cntL st.l (on.take k) : Int) < 1099511627776 := by
                  have h1 := cntL_le st.l (on.take k)
                  have h2 := List.length_take_le k on
                  omega
                have hcb0 : (0 : Int) ≤ (cntL st.l (on.take k) : Int) := by omega
                have HO1 := hide (ho.setBlk 2 (.int .i64 ((cntL st.l (on.take k) : Int) + 1)))
                have htl : l[i].c.to.length < 2199023255552 := by
                  have h1 := hangF_to (st.l.length : Int) (on.take k) st.l i
                  rw [← hl1] at h1
                  have h2 := List.length_take_le k on
                  have h3 := (HF.out.chg _ (List.getElem_mem (show i < st.l.length by omega))).2.2.1
                  have e1 : ((l.map Cg.c).getD i zc) = l[i].c := by simp [hil]
                  have e2 : st.l.getD i zc = st.l[i]'(by omega) := by simp [show i < st.l.length by omega]
                  rw [e1, e2] at h1
                  omega
                have HSET := hide (fun c' (hc : onA c' = onA l[i]) => gParts_to_set g (.slice (some ⟨gl, 0, none⟩) st.l.length cl) l bb nb st.opn bs st.next i hil c' hc)
                have HGET := hide (gParts_to g (.slice (some ⟨gl, 0, none⟩) st.l.length cl) l bb nb st.opn bs st.next i hil)
                rw [hd'] at x4
                clear hd hd' ho hl1 hbc
                generalize (cntL st.l (on.take k) : Int) = q at z2 hcb hcb0 HO1 HN
                go_upto_region 14 with (fail)
                clear f2 z2 x0 x3 x4 y0 hcb hcb0
                rw [hlm] at HGET HSET
                have hG := (HO1.out.perm (((HGET.out.append_right F).cons _).cons _)).f4.f4.f4
                generalize wr.setCell ⟨bc, 2, none⟩ (.int .i64 (q + 1)) = W3 at hG ⊢
                have hbk : Blk W3 g #[.slice (some ⟨gl, 0, none⟩) st.l.length cl, .map (some bb), .int .i64 st.opn, .map (some nb)] 69 := hG.tail.head
                have hrow : W3.ownsRow n 64 5 (.slice (some ⟨gl, 0, none⟩) st.l.length cl) st.l.length (cellsL l) := hG.tail.tail.row
                have hvt : W3.ownsRow n 3 1 l[i].vto l[i].c.to.length (ints l[i].c.to) := hG.row
                have z0 : W3.cell? ⟨g, 0, none⟩ = some (.slice (some ⟨gl, 0, none⟩) st.l.length cl) := hbk.cell 0
                have z3 : W3.cell? ⟨gl, i * 5 + 3, none⟩ = some l[i].vto := by rw [hrow.cellAt (i * 5 + 3) (by omega), cellsL_at hil (by omega)]; rfl
                have fz : W3.frozen? ⟨gl, i * 5 + 3, none⟩ = false := hrow.frozenAt _
                have lg : g < W3.heap.size := hbk.lt
                have fzA : (W3.alloc (.cells #[.int .i64 (st.l.length : Int)] 3)).frozen? ⟨gl, i * 5 + 3, none⟩ = false := (hrow.alloc _).frozenAt _
                have z0A : (W3.alloc (.cells #[.int .i64 (st.l.length : Int)] 3)).cell? ⟨g, 0, none⟩ = some (.slice (some ⟨gl, 0, none⟩) st.l.length cl) := (hbk.alloc _).cell 0
                have z3A : (W3.alloc (.cells #[.int .i64 (st.l.length : Int)] 3)).cell? ⟨gl, i * 5 + 3, none⟩ = some l[i].vto := by rw [(hrow.alloc _).cellAt (i * 5 + 3) (by omega), cellsL_at hil (by omega)]; rfl
                have ll : gl < W3.heap.size := (hrow.lt gl rfl).2
                have ng : l[i].vto.ownBlock ≠ some g := fun e => hG.far (a' := blkA g #[.slice (some ⟨gl, 0, none⟩) st.l.length cl, .map (some bb), .int .i64 st.opn, .map (some nb)] 69) (by simp) g e rfl
                have nl : l[i].vto.ownBlock ≠ some gl := fun e => hG.far (a' := rowA 64 5 (.slice (some ⟨gl, 0, none⟩) st.l.length cl) st.l.length (cellsL l)) (by simp) gl e rfl
                have hsz := hG.sz
                have HGG := hide hG
                obtain ⟨i0, hi, hz0, hz1, hz2⟩ := info_parts info3
                clear hG hbk hrow HO1
                go_region_law ((refine step_append_lies _ (by rfl) _ _ _ (by rfl) n 3 i0 _ 1 8 Try.underlying23 hi hz0 hz1 hz2 rfl (by omega) l[i].vto l[i].c.to.length (ints l[i].c.to) (by rfl) ((hvt.alloc _).drew) ⟨W3.heap.size, 0, none⟩ 1 1 [.int .i64 (st.l.length : Int)] (by rfl) (by rfl) (World.news_of_block (cs := #[.int .i64 (st.l.length : Int)]) (t := 3) (fr := (0, 0)) (heap_alloc_new W3 _)) (by simp [Value.oneCell']) (by omega) (by unfold maxLen; omega) (by omega) (by simp; omega) (W3.heap.size + 1) (by simp) ?_; intro gg cap w4 hown1 hgrow hat hlt4; have q0 : w4.cell? ⟨g, 0, none⟩ = some (.slice (some ⟨gl, 0, none⟩) st.l.length cl) := (hgrow.cell_far _ (by simp; omega) (Ne.symm ng)).trans z0A; have q3 : w4.cell? ⟨gl, i * 5 + 3, none⟩ = some l[i].vto := (hgrow.cell_far _ (by simp; omega) (Ne.symm nl)).trans z3A; have qf : w4.frozen? ⟨gl, i * 5 + 3, none⟩ = false := (World.frozen?_of_block (hgrow.block gl (by simp; omega) (Ne.symm nl))).trans fzA; have HH := hide (And.intro hown1 (And.intro hgrow hat)); clear hown1 hgrow hat hlt4))
                all_goals
                  go_wp2
                  go_meet
                  have h5 := (show Own n w W3 (rowA 3 1 l[i].vto l[i].c.to.length (ints l[i].c.to) :: _) from HGG.out).alloc (.cells #[.int .i64 (st.l.length : Int)] 3) |>.drew.growRow HH.out.1 HH.out.2.1 (HH.out.2.2.elim (fun e => .inl e.symm) (fun e => .inr (by rw [e]; simp [Value.ownBlock])))
                  have h6 := h5.f2.setRow (i * 5 + 3) (.slice (some ⟨gg, 0, none⟩) (l[i].c.to.length + 1) cap)
                  rw [cellsL_set hil (by omega) _ ⟨⟨l[i].c.buf, l[i].c.on, l[i].c.left, l[i].c.to ++ [(st.l.length : Int)], l[i].c.done⟩, l[i].von, .slice (some ⟨gg, 0, none⟩) (l[i].c.to.length + 1) cap⟩ rfl] at h6
                  refine HN.out ⟨⟨l[i].c.buf, l[i].c.on, l[i].c.left, l[i].c.to ++ [(st.l.length : Int)], l[i].c.done⟩, l[i].von, .slice (some ⟨gg, 0, none⟩) (l[i].c.to.length + 1) cap⟩ _ rfl ?_
                  refine Own.perm ?_ ((((HSET.out ⟨⟨l[i].c.buf, l[i].c.on, l[i].c.left, l[i].c.to ++ [(st.l.length : Int)], l[i].c.done⟩, l[i].von, .slice (some ⟨gg, 0, none⟩) (l[i].c.to.length + 1) cap⟩ rfl).symm.append_right F).cons _).cons _)
                  have h7 := h6.f2.f2.f3.f4.f1
                  simpa [toA, ints] using h7
          case rest =>
            go_wp2
            go_roundg (on.length - (k + 1))
            case measure => omega
            case rel => exact ⟨k + 1, by omega, rfl, by go_num, hcut⟩
        · have hge : (on.length : Int) ≤ (k : Int) := by omega
          have hke : on.take k = on := List.take_of_length_le (by omega)
          obtain ⟨l, hl1, ho⟩ := HP.out
          rw [hke] at hl1 ho
          have hlm : l.length = st.l.length := by rw [← List.length_map (f := Cg.c), hl1, hangF_len]
          rw [show gParts g (.slice Al st.l.length cl) l bb nb st.opn bs st.next = blkA g #[.slice Al st.l.length cl, .map (some bb), .int .i64 st.opn, .map (some nb)] 69 :: rowA 64 5 (.slice Al st.l.length cl) l.length (cellsL l) :: mpA bb (locF bs) :: mpA nb (intF st.next) :: (l.map onA ++ (l.map toA ++ bs.map Bs.a)) from rfl, hlm] at ho
          have hbk := ho.head
          have hgk : Blk wr g #[.slice Al st.l.length cl, .map (some bb), .int .i64 st.opn, .map (some nb)] 69 := ho.tail.tail.head
          have hrow : wr.ownsRow n 64 5 (.slice Al st.l.length cl) st.l.length (cellsL l) := ho.tail.tail.tail.row
          generalize hqe : (cntL st.l on : Int) = q at ho hbk
          have HQ := hide hqe
          clear hqe
          have z0 : wr.cell? ⟨g, 0, none⟩ = some (.slice Al st.l.length cl) := hgk.cell 0
          have fz : wr.frozen? ⟨g, 0, none⟩ = false := hgk.frozen 0
          have c0 : wr.cell? ⟨bc, 0, none⟩ = some (.int .i64 buf) := hbk.cell 0
          have c1 : wr.cell? ⟨bc, 1, none⟩ = some (.slice Ac on.length cc) := hbk.cell 1
          have c2 : wr.cell? ⟨bc, 2, none⟩ = some (.int .i64 q) := hbk.cell 2
          have c3 : wr.cell? ⟨bc, 3, none⟩ = some (.slice none 0 0) := hbk.cell 3
          have c4 : wr.cell? ⟨bc, 4, none⟩ = some (.bool false) := hbk.cell 4
          have ng : (Value.slice Al st.l.length cl).ownBlock ≠ some g := fun e => ho.tail.tail.tail.perm (bs := rowA 64 5 (.slice Al st.l.length cl) st.l.length (cellsL l) :: _) (List.Perm.refl _) |>.base _ List.mem_cons_self _ e |> fun _ => ho.tail.tail.far (a' := rowA 64 5 (.slice Al st.l.length cl) st.l.length (cellsL l)) (by simp) g rfl e
          have lg : g < wr.heap.size := hgk.lt
          have hsz := ho.sz
          have hla := hrow.alloc (.cells #[.int .i64 buf, .slice Ac on.length cc, .int .i64 q, .slice none 0 0, .bool false] 64)
          have z0A : (wr.alloc (.cells #[.int .i64 buf, .slice Ac on.length cc, .int .i64 q, .slice none 0 0, .bool false] 64)).cell? ⟨g, 0, none⟩ = some (.slice Al st.l.length cl) := (hgk.alloc _).cell 0
          have fzA : (wr.alloc (.cells #[.int .i64 buf, .slice Ac on.length cc, .int .i64 q, .slice none 0 0, .bool false] 64)).frozen? ⟨g, 0, none⟩ = false := (hgk.alloc _).frozen 0
          have HOW := hide ho
          have HL1 := hide hl1
          obtain ⟨i0, hi, hz0, hz1, hz2⟩ := info_parts info60
          clear hke hl1 ho hbk hgk HP0 HP
          go_upto_region 16 with (fail)
          go_cut [] from 72 to 81 (fun wx => ∃ A' c', Hid (Own n w wx (blkA bc #[.int .i64 buf, .slice Ac on.length cc, .int .i64 q, .slice none 0 0, .bool false] 64 :: (gParts g (.slice A' (st.l.length + 1) c') (l ++ [⟨⟨buf, on, q, [], false⟩, .slice Ac on.length cc, .slice none 0 0⟩]) bb nb st.opn bs st.next ++ F))))
          case first =>
            go_region_law ((refine step_append_lies _ (by rfl) _ _ _ (by rfl) n 64 i0 _ 5 72 Try.underlying65 hi hz0 hz1 hz2 rfl (by omega) (.slice Al st.l.length cl) st.l.length (cellsL l) (by rfl) (hla.drew) ⟨wr.heap.size, 0, none⟩ 1 1 [.int .i64 buf, .slice Ac on.length cc, .int .i64 q, .slice none 0 0, .bool false] (by rfl) (by rfl) (World.news_of_block (cs := #[.int .i64 buf, .slice Ac on.length cc, .int .i64 q, .slice none 0 0, .bool false]) (t := 64) (fr := (0, 0)) (heap_alloc_new wr _)) (by simp [Value.oneCell']) (by omega) (by unfold maxLen; omega) (by omega) (by simp; omega) (wr.heap.size + 1) (by simp) ?_; intro gg cap w4 hown1 hgrow hat hlt4; have q0 : w4.cell? ⟨g, 0, none⟩ = some (.slice Al st.l.length cl) := (hgrow.cell_far _ (by simp; omega) (Ne.symm ng)).trans z0A; have qf : w4.frozen? ⟨g, 0, none⟩ = false := (World.frozen?_of_block (hgrow.block g (by simp; omega) (Ne.symm ng))).trans fzA; have HH := hide (And.intro hown1 (And.intro hgrow hat)); clear hown1 hgrow hat hlt4))
            all_goals
              go_wp2
              go_meet
              have h1 := HOW.out.f3.alloc (.cells #[.int .i64 buf, .slice Ac on.length cc, .int .i64 q, .slice none 0 0, .bool false] 64) |>.drew.growRow HH.out.1 HH.out.2.1 (HH.out.2.2.elim (fun e => .inl e.symm) (fun e => .inr (by rw [e]; simp [Value.ownBlock])))
              have h2 := (h1.f3.setBlk 0 (.slice (some ⟨gg, 0, none⟩) (st.l.length + 1) cap)).nilRow 3 1
              have hsn := gParts_snoc g (.slice (some ⟨gg, 0, none⟩) (st.l.length + 1) cap) l ⟨⟨buf, on, q, [], false⟩, .slice Ac on.length cc, .slice none 0 0⟩ bb nb st.opn bs st.next
              rw [hlm] at hsn
              refine ⟨some ⟨gg, 0, none⟩, cap, hide (Own.perm ?_ ((hsn.symm.append_right F).cons _))⟩
              exact h2.f4.f3.f3.f4
          case rest =>
            obtain ⟨A', c', HC⟩ := hcut
            have HL2 := hide (show (l ++ [(⟨⟨buf, on, q, [], false⟩, .slice Ac on.length cc, .slice none 0 0⟩ : Cg)]).map Cg.c = on.foldl (hangL (st.l.length : Int)) st.l ++ [⟨buf, on, q, [], false⟩] by rw [List.map_append, HL1.out]; rfl)
            clear c0 c1 c2 c3 c4 z0 fz z0A fzA hla hrow ng lg hsz HOW HL1 hi hz0 hz1 hz2
            generalize l ++ [(⟨⟨buf, on, q, [], false⟩, .slice Ac on.length cc, .slice none 0 0⟩ : Cg)] = l2 at HC HL2
            generalize hvl : (Value.slice A' (st.l.length + 1) c') = vl2 at HC
            clear hvl hlm
            have hgk : Blk wc g #[vl2, .map (some bb), .int .i64 st.opn, .map (some nb)] 69 := HC.out.hold (blkA g #[vl2, .map (some bb), .int .i64 st.opn, .map (some nb)] 69) (by simp [gParts])
            obtain ⟨sb, hbm⟩ : ∃ s, OwnV Try.prog 3 wc bb (locF bs) s := HC.out.hold (mpA bb (locF bs)) (by simp [gParts])
            have hsb := HF.out.bufsSize HB.out.1 hbm
            have x1 : wc.cell? ⟨g, 1, none⟩ = some (.map (some bb)) := hgk.cell 1
            have hlk := hbm.look0 Try.underlying3 Try.underlying66 (zero62 _) buf hw
            obtain ⟨mb, hmb⟩ : ∃ mb, mb = (bsAt bs buf).map Bs.loc := ⟨_, rfl⟩
            have hlv : ((locF bs) buf).getD (.map none) = .map mb := by rw [hmb]; unfold locF; cases bsAt bs buf <;> rfl
            rw [hlv] at hlk
            have hq := run_eql_map_nil (P := Try.prog) wc 71 3 4 mb Try.underlying71
            have HBM := hide hbm
            have HMB := hide hmb
            clear hmb
            have hmm := @run_makeMap Try.prog
            clear hbm hlv hgk
            go_upto_if 88 with (fail)
            go_cut [] from 89 to 94 (fun wx => ∃ (b1 b2 : List Bs) (b0 : Bs), Hid (Own n w wx (blkA bc #[.int .i64 buf, .slice Ac on.length cc, .int .i64 q, .slice none 0 0, .bool false] 64 :: (gParts g vl2 l2 bb nb st.opn (b1 ++ b0 :: b2) st.next ++ F)) ∧ b0.key = buf ∧ ((b1 ++ b0 :: b2).map Bs.key).Nodup ∧ (∀ x, b0.set x = setOr (st.bufs buf) x) ∧ (∀ x, x ≠ buf → (bsAt (b1 ++ b0 :: b2) x).map Bs.set = st.bufs x)))
            case first =>
              cases mb with
              | none =>
                have hbs : bsAt bs buf = none := by have := HMB.out; cases hq2 : bsAt bs buf with | none => rfl | some _ => rw [hq2] at this; cases this
                have HBS := hide hbs
                clear hbs
                go_wp2_with (with_reducible refine wpList_putV rfl _ _ _ 66 (.inl rfl) 3 71 Try.underlying3 Try.underlying66 bb sb (locF bs) rfl (HBM.out.alloc _) (by unfold maxLen; omega) buf (.map (some wc.heap.size)) rfl rfl hw ?_; intro w5 hown5 hg5; have HG5 := hide (And.intro hown5 hg5); clear hown5 hg5)
                go_meet
                have h1 := HC.out.new (.map #[] 0) (mpA wc.heap.size (setF (fun _ => false))) rfl ⟨0, OwnV.made wc Try.prog 3⟩
                have h2 := h1.f4.grow (a' := mpA bb (locF (bs ++ [⟨buf, wc.heap.size, fun _ => false⟩]))) HG5.out.2 (fun k hk => .inl hk) ⟨_, by rw [locF_snoc (b := ⟨buf, wc.heap.size, fun _ => false⟩) HBS.out]; exact HG5.out.1⟩
                refine ⟨bs, [], ⟨buf, wc.heap.size, fun _ => false⟩, hide ⟨?_, rfl, keys_snoc HBS.out HB.out.2, fun x => by rw [HB.out.1, HBS.out]; rfl, fun x hx => by rw [bsAt_snoc (b := ⟨buf, wc.heap.size, fun _ => false⟩) HBS.out, if_neg hx, HB.out.1]⟩⟩
                exact Own.perm h2.f2 (((gParts_bsnoc g vl2 l2 bb nb st.opn bs ⟨buf, wc.heap.size, fun _ => false⟩ st.next).symm.append_right F).cons _)
              | some lc =>
                obtain ⟨b0, hbs⟩ : ∃ b0, bsAt bs buf = some b0 := by have := HMB.out; cases hq2 : bsAt bs buf with | none => rw [hq2] at this; cases this | some b => exact ⟨b, rfl⟩
                obtain ⟨b1, b2, hbe, hb1, hk0⟩ := bsAt_split hbs
                have HN := hide (show Own n w wc (blkA bc #[.int .i64 buf, .slice Ac on.length cc, .int .i64 q, .slice none 0 0, .bool false] 64 :: (gParts g vl2 l2 bb nb st.opn (b1 ++ b0 :: b2) st.next ++ F)) ∧ b0.key = buf ∧ ((b1 ++ b0 :: b2).map Bs.key).Nodup ∧ (∀ x, b0.set x = setOr (st.bufs buf) x) ∧ (∀ x, x ≠ buf → (bsAt (b1 ++ b0 :: b2) x).map Bs.set = st.bufs x) from
                  ⟨by rw [← hbe]; exact HC.out, hk0, by rw [← hbe]; exact HB.out.2, fun x => by rw [HB.out.1, hbs]; rfl, fun x _ => by rw [← hbe]; exact (HB.out.1 x).symm⟩)
                clear hbs hb1 hk0 hbe
                go_wp2
                go_meet
                exact ⟨b1, b2, b0, HN⟩
            case rest =>
              clear hlk x1 hq HBM HMB hmm hsb HC
              obtain ⟨b1, b2, b0, HD⟩ := hcut
              have hk0 := HD.out.2.1
              have hfar := keys_far HD.out.2.2.1
              have hgk : Blk wc g #[vl2, .map (some bb), .int .i64 st.opn, .map (some nb)] 69 := HD.out.1.hold (blkA g #[vl2, .map (some bb), .int .i64 st.opn, .map (some nb)] 69) (by simp [gParts])
              obtain ⟨sb2, hbm⟩ : ∃ s, OwnV Try.prog 3 wc bb (locF (b1 ++ b0 :: b2)) s := HD.out.1.hold (mpA bb (locF (b1 ++ b0 :: b2))) (by simp [gParts])
              have hO1 := (HD.out.1.perm (((gParts_bs g vl2 l2 bb nb st.opn b1 b2 b0 st.next).append_right F).cons _)).f1
              obtain ⟨z, hz⟩ : ∃ s, OwnV Try.prog 3 wc b0.loc (setF b0.set) s := hO1.head
              have hzl := hz.size_le ((List.range st.l.length).map (fun i : Nat => (i : Int))) (fun x hx => by
                rw [setF_isSome, HD.out.2.2.2.1] at hx
                cases hb : st.bufs buf with
                | none => rw [hb] at hx; cases hx
                | some s => rw [hb] at hx; exact mem_rangeI (HF.out.set buf s hb x hx))
              rw [List.length_map, List.length_range] at hzl
              have x1 : wc.cell? ⟨g, 1, none⟩ = some (.map (some bb)) := hgk.cell 1
              have hlk := hbm.look0 Try.underlying3 Try.underlying66 (zero62 _) buf hw
              have hlv : ((locF (b1 ++ b0 :: b2)) buf).getD (.map none) = .map (some b0.loc) := by
                unfold locF
                rw [bsAt_mid (b' := b0) (fun c hc => hfar c (List.mem_append_left _ hc)) rfl, if_pos hk0.symm]; rfl
              rw [hlv] at hlk
              have hwn := wfN hlen
              have HZ := hide hz
              have HO1 := hide hO1
              have HFAR := hide hfar
              have HK0 := hide hk0
              clear hz hO1 hfar hk0 hbm hlv
              go_upto_region 20 with (with_reducible refine wpList_putV rfl _ _ _ 71 (.inl rfl) 3 4 Try.underlying3 Try.underlying71 b0.loc z (setF b0.set) rfl HZ.out (by unfold maxLen; omega) (st.l.length : Int) (.bool true) rfl rfl hwn ?_; intro w6 hown6 hg6; have HG6 := hide (And.intro hown6 hg6); clear hown6 hg6)
              have h3 := HO1.out.grow (a' := Bs.a ⟨b0.key, b0.loc, fun x => if x = (st.l.length : Int) then true else b0.set x⟩) HG6.out.2 (fun k hk => .inl hk) ⟨_, by rw [← setF_put]; exact HG6.out.1⟩
              have h4 := h3.f2
              have hgk6 : Blk w6 g #[vl2, .map (some bb), .int .i64 st.opn, .map (some nb)] 69 := h4.head
              have x2 : w6.cell? ⟨g, 2, none⟩ = some (.int .i64 st.opn) := hgk6.cell 2
              have f2 : w6.frozen? ⟨g, 2, none⟩ = false := hgk6.frozen 2
              have hop := HF.out.opn
              have hop1 := hop.1
              have hop2 := hop.2
              have H4 := hide h4
              clear x1 hlk h3 h4 hop hgk hgk6
              go_upto_region 21 with (fail)
              have h5 := H4.out.setBlk 2 (.int .i64 (st.opn + 1))
              generalize w6.setCell ⟨g, 2, none⟩ (.int .i64 (st.opn + 1)) = W7 at h5 ⊢
              have z2 : W7.cell? ⟨bc, 2, none⟩ = some (.int .i64 q) := h5.tail.tail.head.cell 2
              have hgk7 : Blk W7 g #[vl2, .map (some bb), .int .i64 (st.opn + 1), .map (some nb)] 69 := h5.head
              have x3 : W7.cell? ⟨g, 3, none⟩ = some (.map (some nb)) := hgk7.cell 3
              obtain ⟨sN, hnb⟩ : ∃ s, OwnV Try.prog 3 W7 nb (intF st.next) s := h5.hold (mpA nb (intF st.next)) (by simp)
              have hsN := HF.out.nextSize hnb
              have HEND := hide (show ∀ (nx : Int → Option Int) (V : World), nx = (addS st buf on).next → Own n w V (mpA nb (intF nx) :: blkA g #[vl2, .map (some bb), .int .i64 (st.opn + 1), .map (some nb)] 69 :: Bs.a ⟨b0.key, b0.loc, fun x => if x = (st.l.length : Int) then true else b0.set x⟩ :: blkA bc #[.int .i64 buf, .slice Ac on.length cc, .int .i64 q, .slice none 0 0, .bool false] 64 :: rowA 64 5 vl2 l2.length (cellsL l2) :: mpA bb (locF (b1 ++ b0 :: b2)) :: ((l2.map onA ++ (l2.map toA ++ (b1 ++ b2).map Bs.a)) ++ F)) →
                  ∃ ps', IsG g (addS st buf on) ps' ∧ Own n w V (ps' ++ F) from fun nx V hnx hV => by
                have hk0 := HK0.out
                have hf1 : ∀ c ∈ b1, c.key ≠ b0.key := fun c hc => HFAR.out c (List.mem_append_left _ hc)
                have e := locF_mid (l2 := b2) (b := b0) (b' := ⟨b0.key, b0.loc, fun x => if x = (st.l.length : Int) then true else b0.set x⟩) hf1 rfl rfl
                refine ⟨gParts g vl2 l2 bb nb (st.opn + 1) (b1 ++ ⟨b0.key, b0.loc, fun x => if x = (st.l.length : Int) then true else b0.set x⟩ :: b2) nx, ⟨vl2, l2, bb, nb, b1 ++ ⟨b0.key, b0.loc, fun x => if x = (st.l.length : Int) then true else b0.set x⟩ :: b2, by rw [hnx]; rfl, by rw [HL2.out, ← HQ.out]; rfl, fun x => ?_, keys_mid (b := b0) rfl HD.out.2.2.1⟩, ?_⟩
                · rw [bsAt_mid (b := b0) (b' := ⟨b0.key, b0.loc, fun x => if x = (st.l.length : Int) then true else b0.set x⟩) hf1 rfl, hk0]
                  show upd st.bufs buf _ x = _
                  unfold upd
                  by_cases ex : x = buf
                  · rw [if_pos ex, if_pos ex]
                    show some _ = some _
                    congr 1
                    funext y
                    by_cases ey : y = (st.l.length : Int)
                    · simp [ey]
                    · simp only [ey, if_false]; exact (HD.out.2.2.2.1 y).symm
                  · rw [if_neg ex, if_neg ex]; exact (HD.out.2.2.2.2 x ex).symm
                · refine Own.perm ?_ ((gParts_bs g vl2 l2 bb nb (st.opn + 1) b1 b2 ⟨b0.key, b0.loc, fun x => if x = (st.l.length : Int) then true else b0.set x⟩ nx).symm.append_right F)
                  rw [e]
                  have h6 := hV.f3.tail
                  exact h6.f4.f4.f3.f4)
              have H5 := hide h5
              clear hgk7 h5 H4 HO1 HZ
              by_cases hq0 : q = 0
              · have e1 : (q == 0) = true := by rw [hq0]; rfl
                have hlk2 := hnb.look0 Try.underlying3 Try.underlying67 (zero3 _) buf hw
                have hlv : ((intF st.next) buf).getD (.int .i64 0) = .int .i64 ((st.next buf).getD 0) := by unfold intF; cases st.next buf <;> rfl
                rw [hlv] at hlk2
                have hvb : -1099511627776 < (st.next buf).getD 0 ∧ (st.next buf).getD 0 < 1099511627776 := by
                  cases hv : st.next buf with
                  | none => exact ⟨by decide, by decide⟩
                  | some v => exact HF.out.next buf v hv
                have hv1 := hvb.1
                have hv2 := hvb.2
                have HNX := hide (show upd st.next buf (some ((st.next buf).getD 0 + 1)) = (addS st buf on).next by
                  show _ = (if cntL st.l on = 0 then _ else _)
                  rw [if_pos (by have := HQ.out; omega)])
                have HNB := hide hnb
                generalize (st.next buf).getD 0 = v at hlk2 hv1 hv2 HNX
                clear hvb hlv hnb hq0
                go_wp2_with (with_reducible refine wpList_putV rfl _ _ _ 67 (.inl rfl) 3 3 Try.underlying3 Try.underlying67 nb sN (intF st.next) rfl HNB.out (by unfold maxLen; omega) buf (.int .i64 (v + 1)) rfl rfl hw ?_; intro w8 hown8 hg8; have HG8 := hide (And.intro hown8 hg8); clear hown8 hg8)
                go_ret2
                have h6 := H5.out.f5.grow (a' := mpA nb (intF (upd st.next buf (some (v + 1))))) HG8.out.2 (fun k hk => .inl hk) ⟨_, by rw [← intF_put]; exact HG8.out.1⟩
                obtain ⟨ps', h7, h8⟩ := HEND.out _ _ HNX.out h6
                exact ⟨ps', rfl, h7, h8⟩
              · have e1 : (q == 0) = false := by rw [beq_eq_false_iff_ne]; exact hq0
                have HNX := hide (show st.next = (addS st buf on).next by
                  show _ = (if cntL st.l on = 0 then _ else _)
                  rw [if_neg (by have := HQ.out; omega)])
                clear hnb hq0
                go_wp2
                go_ret2
                obtain ⟨ps', h7, h8⟩ := HEND.out _ _ HNX.out H5.out.f5
                exact ⟨ps', rfl, h7, h8⟩
end
end Go.Proofs.Ytjfejimghbohdaa
namespace Go.Proofs.Ytjfejimghbohdaa
set_option linter.unusedVariables false
set_option linter.unusedSimpArgs false
open Go.RowKit Go.Maps

def sameI (a b : List Int) : Bool := decide (a = b)
theorem sameI_good {a b : List Int} (h : a.length = b.length) (he : ∀ j, j < a.length → a.getD j 0 = b.getD j 0) : sameI a b = true := by
  unfold sameI
  refine decide_eq_true (List.ext_getElem h fun i h1 h2 => ?_)
  have := he i h1
  simpa [h1, h2] using this
theorem sameI_bad {a b : List Int} (j : Nat) (he : a.getD j 0 ≠ b.getD j 0) : sameI a b = false := by
  unfold sameI
  exact decide_eq_false fun e => he (by rw [e])
theorem sameI_len {a b : List Int} (h : a.length ≠ b.length) : sameI a b = false := by
  unfold sameI
  exact decide_eq_false fun e => h (by rw [e])
theorem int_eqb {a b : Int} (h : a = b) : (a == b) = true ∧ (a != b) = false := by subst h; simp
theorem int_neb {a b : Int} (h : a ≠ b) : (a == b) = false ∧ (a != b) = true := by simp [h]
section
variable {n g : Nat} {w W : World} {F ps : List Atom} {r : List Rc}
theorem same_w (W : World) (A : Option Addr) (c : Nat) (l1 : List Int) (B : Option Addr) (d : Nat) (l2 : List Int) (hl1 : l1.length < 1099511627776) (hl2 : l2.length < 1099511627776) (B1 B2 : Nat) (h1 : Ints B1 W A l1) (h2 : Ints B2 W B l2) :
    Calls Try.prog 18 #[.slice A l1.length c, .slice B l2.length d] W fun e W' => e = .returned (.bool (sameI l1 l2)) ∧ ∃ q, W' = W.drewN q := by
  have H1 := hide h1
  have H2 := hide h2
  clear h1 h2
  go_enter Try.func18, Try.ntmps18
  by_cases hn : (l1.length : Int) = (l2.length : Int)
  · obtain ⟨k0, k1⟩ := int_eqb hn
    have HN := hide hn
    clear hn
    go_wp2
    go_loopw [5] (fun i wr => ∃ k : Nat, k ≤ l1.length ∧ i = .int .i64 k ∧ (∃ q, wr = W.drewN q) ∧ Hid (∀ j, j < k → l1.getD j 0 = l2.getD j 0)) (fun i _ => l1.length - (intOf i).toNat)
    case atStart => exact ⟨0, by omega, rfl, ⟨0, rfl⟩, hide (by intro j hj; omega)⟩
    case round =>
      obtain ⟨k, hk, rfl, ⟨q, rfl⟩, HK⟩ := hrel
      by_cases hlt : k < l1.length
      · have hlt2 : k < l2.length := by have := HN.out; omega
        obtain ⟨a, oa, rfl, _, hc1⟩ := H1.out (by intro e; rw [e] at hlt; simp at hlt)
        obtain ⟨b, ob, rfl, _, hc2⟩ := H2.out (by intro e; rw [e] at hlt2; simp at hlt2)
        have y1 := hc1 k hlt
        have y2 := hc2 k hlt2
        clear hc1 hc2
        have HS := hide (fun h : l1.getD k 0 = l2.getD k 0 => show ∀ j, j < k + 1 → l1.getD j 0 = l2.getD j 0 from fun j hj => by
          by_cases e : j = k
          · subst e; exact h
          · exact HK.out j (by omega))
        have HB := hide (fun h : l1.getD k 0 ≠ l2.getD k 0 => sameI_bad k h)
        generalize l1.getD k 0 = u at y1 HS HB
        generalize l2.getD k 0 = v at y2 HS HB
        have o1 : (0 : Int) ≤ (k : Int) := by omega
        have o2 : (k : Int) < (l1.length : Int) := by omega
        have o3 : (k : Int) < (l2.length : Int) := by omega
        clear hlt2
        by_cases he : u = v
        · obtain ⟨m0, m1⟩ := int_eqb he
          have HT := hide (HS.out he)
          clear he
          go_wp2
          go_quiet (fail)
          go_wp2
          go_roundw
          case rel => exact ⟨k + 1, by omega, by go_num, ⟨_, by first | rfl | (rw [World.drewN_drewN]; done)⟩, HT⟩
          case measure => simp [intOf]; omega
        · obtain ⟨m0, m1⟩ := int_neb he
          have HT := hide (HB.out he)
          clear he
          go_wp2
          go_quiet (fail)
          go_wp2
          go_ret
          exact ⟨by rw [HT.out]; rfl, ⟨_, by first | rfl | (rw [World.drewN_drewN]; done)⟩⟩
      · have HT := hide (sameI_good (a := l1) (b := l2) (by have := HN.out; omega) (fun j hj => HK.out j (by omega)))
        have o3 : ¬ (k : Int) < (l1.length : Int) := by omega
        go_wp2
        go_ret
        exact ⟨by rw [HT.out]; rfl, ⟨q, rfl⟩⟩
  · obtain ⟨k0, k1⟩ := int_neb hn
    have HN := hide (sameI_len (a := l1) (b := l2) (by omega))
    clear hn
    go_wp2
    go_ret
    exact ⟨by rw [HN.out]; rfl, ⟨0, rfl⟩⟩
theorem num_c (W : World) (z : Int) : Calls Try.prog 26 #[.int .i64 z] W fun e W' => e = .returned (.int .i64 z) ∧ W = W' := by
  go_enter Try.func26, Try.ntmps26
  go_wp2
  go_ret
  exact ⟨rfl, rfl⟩
end
end Go.Proofs.Ytjfejimghbohdaa
namespace Go.Proofs.Ytjfejimghbohdaa
set_option linter.unusedVariables false
set_option linter.unusedSimpArgs false
open Go.RowKit Go.Maps

/-- the graph of the rows r lies behind g as the parts ps -/
structure Gr (g : Nat) (r : List Rc) (ps : List Atom) : Prop where
  is : IsG g (Of r) ps
  wf : WfR r
  buf : ∀ i, i < r.length → I64 (r.getD i zr).buf
  len : r.length < 274877906944
  tot : tot r < 274877906944
section
variable {n g : Nat} {w W : World} {F ps : List Atom} {r : List Rc}
theorem Gr.sm (h : Gr g r ps) : Sm r := sm_of_tot h.len h.tot h.buf
theorem Gr.fit (h : Gr g r ps) : Fit (Of r) := fit_of h.sm
theorem isB_of (r : List Rc) (id : Int) : isB (Of r) id = (decide (0 ≤ id) && decide (id < (r.length : Int))) := by
  unfold isB; rw [Of_len]
theorem same_c (A : Option Addr) (c : Nat) (l1 : List Int) (B : Option Addr) (d : Nat) (l2 : List Int) (hl1 : l1.length < 1099511627776) (hl2 : l2.length < 1099511627776) (h1 : Reads n w F A l1) (h2 : Reads n w F B l2) (ho : Own n w W F) :
    Calls Try.prog 18 #[.slice A l1.length c, .slice B l2.length d] W fun e W' => e = .returned (.bool (sameI l1 l2)) ∧ Own n w W' F :=
  (same_w W A c l1 B d l2 hl1 hl2 _ _ (h1 W ho) (h2 W ho)).mono fun e W' ⟨he, q, hq⟩ => ⟨he, by rw [hq]; exact ho.drewN q⟩
theorem gnew_c (h : Own n w W F) : Calls Try.prog 15 #[] W fun e W' => ∃ g ps, e = .returned (.pointer (some ⟨g, 0, none⟩)) ∧ Gr g [] ps ∧ Own n w W' (ps ++ F) :=
  (new_c h).mono fun e W' ⟨g, ps, he, hg, ho⟩ => ⟨g, ps, he, ⟨by rw [Of_nil]; exact hg, ⟨by intro i hi; simp at hi, by intro i hi; simp at hi⟩, by intro i hi; simp at hi, by simp, by simp [Go.Proofs.Ytjfejimghbohdaa.tot]⟩, ho⟩
theorem gleft_c (hg : Gr g r ps) (h : Own n w W (ps ++ F)) : Calls Try.prog 20 #[.pointer (some ⟨g, 0, none⟩)] W fun e W' => e = .returned (.int .i64 (Of r).opn) ∧ W = W' := left_c hg.is h
theorem gadd_c (hg : Gr g r ps) (ho : Own n w W (ps ++ F)) (buf : Int) (hb : I64 buf) (A : Option Addr) (c : Nat) (on : List Int) (hl : r.length + 1 < 274877906944) (ht : tot r + on.length < 274877906944) (hr : Reads n w F A on) (hon : ∀ x ∈ on, 0 ≤ x ∧ x < (r.length : Int)) :
    Calls Try.prog 16 #[.pointer (some ⟨g, 0, none⟩), .int .i64 buf, .slice A on.length c] W fun e W' => ∃ ps', e = .returned (.tuple #[.int .i64 (r.length : Int), .int .i64 0]) ∧ Gr g (r ++ [⟨buf, on, false⟩]) ps' ∧ Own n w W' (ps' ++ F) := by
  refine (add_yes hg.is hg.fit ho buf (wf64 hb) A c on (by omega) hr (fun x hx => by rw [isB_of]; simpa using hon x hx)).mono ?_
  rintro e W' ⟨ps', he, hg', ho'⟩
  rw [add_of hg.wf buf on hon] at hg'
  rw [Of_len] at he
  refine ⟨ps', he, ⟨hg', wf_add hg.wf buf hon, fun i hi => ?_, by simpa using hl, by rw [tot_snoc]; exact ht⟩, ho'⟩
  by_cases h : i < r.length
  · rw [getD_snoc h]; exact hg.buf i h
  · rw [List.length_append, List.length_singleton] at hi
    obtain rfl : i = r.length := by omega
    rw [getD_last]; exact hb
theorem gadd_no (hg : Gr g r ps) (ho : Own n w W (ps ++ F)) (buf : Int) (A : Option Addr) (c : Nat) (on : List Int) (hl : on.length < 1099511627776) (hr : Reads n w F A on) (hon : ¬ ∀ x ∈ on, 0 ≤ x ∧ x < (r.length : Int)) :
    Calls Try.prog 16 #[.pointer (some ⟨g, 0, none⟩), .int .i64 buf, .slice A on.length c] W fun e W' => e = .returned (.tuple #[.int .i64 0, .int .i64 1]) ∧ W = W' :=
  add_no hg.is hg.fit ho buf A c on hl hr (fun h => hon fun x hx => by have := h x hx; rw [isB_of] at this; simpa using this)
theorem gnext_c (hg : Gr g r ps) (buf : Int) (hb : I64 buf) (ho : Own n w W (ps ++ F)) :
    Calls Try.prog 31 #[.pointer (some ⟨g, 0, none⟩), .int .i64 buf] W fun e W' => ∃ v, e = .returned v ∧ Own n w W' (rowA 3 1 v (nextR r buf).length (ints (nextR r buf)) :: (ps ++ F)) := by
  have := next_c hg.is hg.fit buf (wf64 hb) W ho
  rwa [next_of] at this
theorem gwritten_c (hg : Gr g r ps) (buf : Int) (hb : I64 buf) (ho : Own n w W (ps ++ F)) :
    Calls Try.prog 12 #[.pointer (some ⟨g, 0, none⟩), .int .i64 buf] W fun e W' => ∃ v ps', e = .returned v ∧ Gr g (writtenR r buf) ps' ∧ Own n w W' (rowA 3 1 v (nextR r buf).length (ints (nextR r buf)) :: (ps' ++ F)) := by
  refine (written_c buf hg.is hg.fit (fitAll_of hg.wf hg.sm buf) ho (wf64 hb)).mono ?_
  rintro e W' ⟨v, ps', he, hg', ho'⟩
  rw [written_of hg.wf] at hg'
  rw [next_of] at ho'
  exact ⟨v, ps', he, ⟨hg', wf_written hg.wf buf, (sm_written hg.sm buf).buf, by rw [writtenR, setD_len]; exact hg.len, by rw [writtenR, tot_setD]; exact hg.tot⟩, ho'⟩
def doneR (r : List Rc) (id : Int) : Bool := (decide (0 ≤ id) && decide (id < (r.length : Int))) && (rd r id).done
theorem gdone_c (hg : Gr g r ps) (ho : ∀ a ∈ ps, a.Q W) (id : Int) : Calls Try.prog 13 #[.pointer (some ⟨g, 0, none⟩), .int .i64 id] W fun e W' => e = .returned (.bool (doneR r id)) ∧ W = W' := by
  refine (done_c hg.is ho hg.fit id).mono ?_
  rintro e W' ⟨he, hw⟩
  refine ⟨?_, hw⟩
  rw [he]
  unfold doneS doneR
  rw [isB_of]
  by_cases h : 0 ≤ id ∧ id < (r.length : Int)
  · have : at_ (Of r) id = ofC r id.toNat := Of_at (by omega)
    rw [this]; rfl
  · by_cases h1 : 0 ≤ id
    · have : ¬ id < (r.length : Int) := fun h2 => h ⟨h1, h2⟩
      simp [this]
    · simp [h1]
theorem Rising.nodup {xs : List Int} (h : Rising xs) : xs.Nodup := h.imp (fun {a b} hab => by omega)
/-- the buffers in which one is not done, or may be written, rising -/
def bufsR (r : List Rc) (xs : List Int) : Prop := Rising xs ∧ ∀ x, x ∈ xs ↔ (List.range r.length).any (openAt r x) = true
def readyR (r : List Rc) (xs : List Int) : Prop := Rising xs ∧ ∀ x, x ∈ xs ↔ nextR r x ≠ []
theorem gready_c (hg : Gr g r ps) (ho : Own n w W (ps ++ F)) : Calls Try.prog 23 #[.pointer (some ⟨g, 0, none⟩)] W fun e W' => ∃ v xs, e = .returned v ∧ readyR r xs ∧ Own n w W' (rowA 3 1 v xs.length (ints xs) :: (ps ++ F)) := by
  refine (ready_c hg.is ho hg.fit).mono ?_
  rintro e W' ⟨v, xs, he, hr, hx, ho'⟩
  refine ⟨v, xs, he, ⟨hr, fun x => (hx x).trans ?_⟩, ho'⟩
  show ((if mayN r x = 0 then none else some (mayN r x : Int) : Option Int)).isSome = true ↔ _
  have e : mayN r x = (nextR r x).length := by simp [mayN, nextR, castL]
  by_cases h : mayN r x = 0
  · rw [if_pos h]
    rw [e] at h
    simp [List.length_eq_zero_iff.1 h]
  · rw [if_neg h]
    rw [e] at h
    simp only [Option.isSome_some, true_iff]
    exact fun h2 => h (by rw [h2]; rfl)
end
end Go.Proofs.Ytjfejimghbohdaa
namespace Go.Proofs.Ytjfejimghbohdaa
set_option linter.unusedVariables false
set_option linter.unusedSimpArgs false
open Go.RowKit Go.Maps

/-- a change of the document's graph, with the slice of its row -/
structure Rg where
  c : Rc
  von : Value
def Rg.cells (x : Rg) : List Value := [.int .i64 x.c.buf, x.von, .bool x.c.done]
def cellsR (l : List Rg) : List Value := l.flatMap Rg.cells
theorem cellsR_len (l : List Rg) : (cellsR l).length = l.length * 3 := by
  unfold cellsR
  induction l with
  | nil => rfl
  | cons c l ih => rw [List.flatMap_cons, List.length_append, ih]; simp [Rg.cells]; omega
theorem cellsR_append (a b : List Rg) : cellsR (a ++ b) = cellsR a ++ cellsR b := by unfold cellsR; rw [List.flatMap_append]
theorem cellsR_at {l : List Rg} {k : Nat} (h : k < l.length) {i : Nat} (hi : i < 3) : (cellsR l)[k * 3 + i]? = (l[k].cells)[i]? := by
  have e : l = l.take k ++ l[k] :: l.drop (k + 1) := by rw [List.getElem_cons_drop, List.take_append_drop]
  conv => lhs; rw [e]
  rw [cellsR_append, List.getElem?_append_right (by rw [cellsR_len, List.length_take]; omega), cellsR_len, List.length_take, Nat.min_eq_left (by omega), Nat.add_sub_cancel_left]
  show (l[k].cells ++ cellsR _)[i]? = _
  rw [List.getElem?_append_left (by simp [Rg.cells]; omega)]
theorem cellsR_set {l : List Rg} {k : Nat} (h : k < l.length) {i : Nat} (hi : i < 3) (u : Value) (c : Rg) (hc : c.cells = (l[k].cells).set i u) : (cellsR l).set (k * 3 + i) u = cellsR (l.set k c) := by
  have e : l = l.take k ++ l[k] :: l.drop (k + 1) := by rw [List.getElem_cons_drop, List.take_append_drop]
  have e2 : l.set k c = l.take k ++ c :: l.drop (k + 1) := by
    rw [List.set_eq_take_append_cons_drop, if_pos h]
  rw [e2]
  conv => lhs; rw [e]
  rw [cellsR_append, cellsR_append, List.set_append, if_neg (by rw [cellsR_len, List.length_take]; omega), cellsR_len, List.length_take, Nat.min_eq_left (by omega), Nat.add_sub_cancel_left]
  congr 1
  show (l[k].cells ++ cellsR _).set i u = c.cells ++ cellsR _
  rw [List.set_append, if_pos (by simp [Rg.cells]; omega), hc]
def rgA (x : Rg) : Atom := rowA 3 1 x.von x.c.on.length (ints x.c.on)
def rParts (b : Nat) (vl : Value) (l : List Rg) : List Atom := blkA b #[vl] 37 :: rowA 39 3 vl l.length (cellsR l) :: l.map rgA
/-- these parts are the document's graph of the rows r behind pointer b -/
def IsR (b : Nat) (r : List Rc) (ps : List Atom) : Prop := ∃ vl l, ps = rParts b vl l ∧ l.map Rg.c = r
theorem IsR.cellAt {W : World} {ps : List Atom} {r : List Rc} {b : Nat} (hg : IsR b r ps) (ho : ∀ a ∈ ps, a.Q W) {k : Nat} (hk : k < r.length) : ∃ gl c von, W.cell? ⟨b, 0, none⟩ = some (.slice (some ⟨gl, 0, none⟩) r.length c) ∧
    W.cell? ⟨gl, k * 3, none⟩ = some (.int .i64 (r.getD k zr).buf) ∧ W.cell? ⟨gl, k * 3 + 1, none⟩ = some von ∧ W.cell? ⟨gl, k * 3 + 2, none⟩ = some (.bool (r.getD k zr).done) ∧ W.ownsRow 0 3 1 von (r.getD k zr).on.length (ints (r.getD k zr).on) := by
  obtain ⟨vl, l, rfl, h1⟩ := hg
  have hl : l.length = r.length := by rw [← h1, List.length_map]
  have hr : W.ownsRow 0 39 3 vl l.length (cellsR l) := ho (rowA 39 3 vl l.length (cellsR l)) (by simp [rParts])
  have hb : Blk W b #[vl] 37 := ho (blkA b #[vl] 37) (by simp [rParts])
  obtain ⟨A, c, rfl⟩ := own_slice hr
  obtain ⟨gl, rfl⟩ := row_form hr (by omega)
  have hk' : k < l.length := by omega
  have e : r.getD k zr = (l[k]).c := by simp [← h1, hk']
  have hc : ∀ i, i < 3 → W.cell? ⟨gl, k * 3 + i, none⟩ = (l[k].cells)[i]? := fun i hi => by rw [hr.cellAt (k * 3 + i) (by omega), cellsR_at hk' hi]
  have hon : W.ownsRow 0 3 1 l[k].von l[k].c.on.length (ints l[k].c.on) := ho (rgA l[k]) (by simp only [rParts, List.mem_cons, List.mem_map]; exact .inr (.inr ⟨_, List.getElem_mem hk', rfl⟩))
  rw [e]
  refine ⟨gl, c, l[k].von, by rw [← hl]; exact hb.cell 0, hc 0 (by omega), hc 1 (by omega), hc 2 (by omega), hon⟩
theorem IsR.slice {W : World} {ps : List Atom} {r : List Rc} {b : Nat} (hg : IsR b r ps) (ho : ∀ a ∈ ps, a.Q W) : ∃ A c, W.cell? ⟨b, 0, none⟩ = some (.slice A r.length c) := by
  obtain ⟨vl, l, rfl, h1⟩ := hg
  have hl : l.length = r.length := by rw [← h1, List.length_map]
  have hr : W.ownsRow 0 39 3 vl l.length (cellsR l) := ho (rowA 39 3 vl l.length (cellsR l)) (by simp [rParts])
  have hb : Blk W b #[vl] 37 := ho (blkA b #[vl] 37) (by simp [rParts])
  obtain ⟨A, c, rfl⟩ := own_slice hr
  exact ⟨A, c, by rw [← hl]; exact hb.cell 0⟩
def mayR (r : List Rc) (i : Nat) : Bool := mayAt r i && !(r.getD i zr).done
theorem cnt_zero {r : List Rc} {on : List Int} : cnt r on = 0 ↔ ∀ j, j < on.length → (rd r (on.getD j 0)).done = true := by
  unfold cnt
  rw [List.length_eq_zero_iff, List.filter_eq_nil_iff]
  constructor
  · intro h j hj
    have := h on[j] (List.getElem_mem hj)
    have e : on.getD j 0 = on[j] := by simp [hj]
    rw [e]; simpa using this
  · intro h x hx
    obtain ⟨j, hj, rfl⟩ := List.getElem_of_mem hx
    have := h j hj
    have e : on.getD j 0 = on[j] := by simp [hj]
    rw [e] at this; simp [this]
theorem mayR_no {r : List Rc} {i : Nat} (j : Nat) (hj : j < (r.getD i zr).on.length) (h : (rd r ((r.getD i zr).on.getD j 0)).done = false) : mayR r i = false := by
  unfold mayR mayAt
  rw [decide_eq_false (fun h0 => by rw [cnt_zero.1 h0 j hj] at h; cases h)]; rfl
theorem mayR_yes {r : List Rc} {i : Nat} (h : ∀ j, j < (r.getD i zr).on.length → (rd r ((r.getD i zr).on.getD j 0)).done = true) : mayR r i = !(r.getD i zr).done := by
  unfold mayR mayAt
  rw [decide_eq_true (cnt_zero.2 h)]; rfl
section
variable {n b : Nat} {w W : World} {F ps : List Atom} {r : List Rc}
set_option maxHeartbeats 4000000 in
theorem rmay_c (hg : IsR b r ps) (hw : WfR r) (hs : Sm r) (ho : Own n w W (ps ++ F)) (i : Nat) (hi : i < r.length) :
    Calls Try.prog 38 #[.pointer (some ⟨b, 0, none⟩), .int .i64 (i : Int)] W fun e W' => e = .returned (.bool (mayR r i)) ∧ Own n w W' (ps ++ F) := by
  obtain ⟨gl, c, von, x0, x1, x2, x3, hon⟩ := hg.cellAt (fun a ha => ho.hold a (List.mem_append_left _ ha)) hi
  obtain ⟨Ao, co, rfl⟩ := own_slice hon
  have HG := hide hg
  have HW := hide hw
  have hxon := hw.lt hi
  have honl := hs.on i hi
  have HNO := hide (fun j hj h => mayR_no (r := r) (i := i) j hj h)
  have HYES := hide (fun h => mayR_yes (r := r) (i := i) h)
  have p0 : (0 : Int) ≤ (i : Int) := by omega
  have p1 : (i : Int) < (r.length : Int) := by omega
  generalize (r.getD i zr).buf = bf at x1
  generalize (r.getD i zr).done = dn at x3 HYES
  generalize (r.getD i zr).on = on at x2 hon hxon honl HNO HYES
  have HO := hide (ho.newBlk #[.int .i64 bf, .slice Ao on.length co, .bool dn] 39)
  have HON := hide hon
  have HXO := hide hxon
  have HLEN := hide hs.len
  clear hg hw hs ho hon hxon
  go_enter Try.func38, Try.ntmps38
  go_upto_region 2 with (fail)
  have HB := hide (Ints.of_own (B := W.heap.size) HON.out (Nat.le_refl _))
  have HI1 := hide (HB.out.below ((Below.refl W.heap.size W).alloc (Nat.le_refl _) (.cells #[.int .i64 bf, .slice Ao on.length co, .bool dn] 39)) (Nat.le_refl _))
  generalize W.alloc (.cells #[.int .i64 bf, .slice Ao on.length co, .bool dn] 39) = W1 at HO HI1 ⊢
  generalize W.heap.size = cb at HO HI1 ⊢
  have HR1 := hide (fun (k : Nat) (hk : k < r.length) => HG.out.cellAt (W := W1) (fun a ha => HO.out.hold a (List.mem_cons_of_mem _ (List.mem_append_left _ ha))) hk)
  have hblk : Blk W1 cb #[.int .i64 bf, .slice Ao on.length co, .bool dn] 39 := HO.out.head
  have y1 : W1.cell? ⟨cb, 1, none⟩ = some (.slice Ao on.length co) := hblk.cell 1
  have y2 : W1.cell? ⟨cb, 2, none⟩ = some (.bool dn) := hblk.cell 2
  clear hblk HON HB x0 x1 x2 x3 p0 p1
  go_wp2
  go_loopw [6] (fun i wr => ∃ k : Nat, k ≤ on.length ∧ i = .int .i64 k ∧ (∃ q, wr = W1.drewN q) ∧ Hid (∀ j, j < k → (rd r (on.getD j 0)).done = true)) (fun i _ => on.length - (intOf i).toNat)
  case atStart => exact ⟨0, by omega, rfl, ⟨0, rfl⟩, hide (by intro j hj; omega)⟩
  case round =>
    obtain ⟨k, hk, rfl, ⟨q, rfl⟩, HK⟩ := hrel
    by_cases hlt : k < on.length
    · have hne : on ≠ [] := by intro e; rw [e] at hlt; simp at hlt
      obtain ⟨ba, oa, rfl, _, hc⟩ := HI1.out hne
      have z0 := hc k hlt
      have hmem : on.getD k 0 ∈ on := by
        have e : on.getD k 0 = on[k] := by simp [hlt]
        rw [e]; exact List.getElem_mem hlt
      have hx := HXO.out _ hmem
      have HS := hide (fun h : (rd r (on.getD k 0)).done = true => show ∀ j, j < k + 1 → (rd r (on.getD j 0)).done = true from fun j hj => by
        by_cases e : j = k
        · subst e; exact h
        · exact HK.out j (by omega))
      have HN := hide (fun h : (rd r (on.getD k 0)).done = false => HNO.out k hlt h)
      generalize on.getD k 0 = x at z0 hx HS HN
      obtain ⟨t, rfl⟩ := Int.eq_ofNat_of_zero_le hx.1
      obtain ⟨gl1, c1, v1, u0, -, -, u2, -⟩ := HR1.out t (by omega)
      have e2 : (r.getD t zr).done = (rd r (t : Int)).done := by unfold rd; rw [Int.toNat_natCast]
      rw [e2] at u2
      have o1 : (0 : Int) ≤ (k : Int) := by omega
      have o2 : (k : Int) < (on.length : Int) := by omega
      have o3 : (0 : Int) ≤ (t : Int) := by omega
      have o4 : (t : Int) < (r.length : Int) := by omega
      clear hc hne hmem hx e2
      cases hd : (rd r (t : Int)).done with
      | true =>
        rw [hd] at u2
        have HT := hide (HS.out hd)
        clear hd
        go_wp2
        go_quiet (fail)
        go_wp2
        go_roundw
        case rel => exact ⟨k + 1, by omega, by go_num, ⟨_, by first | rfl | (rw [World.drewN_drewN]; done)⟩, HT⟩
        case measure => simp [intOf]; omega
      | false =>
        rw [hd] at u2
        have HT := hide (HN.out hd)
        clear hd
        go_wp2
        go_quiet (fail)
        go_wp2
        go_ret
        exact ⟨by rw [HT.out]; rfl, by have := HO.out.tail.drewN q; have := this.drew; first | exact this | exact HO.out.tail.drewN _ | (rw [World.drewN_drewN]; exact HO.out.tail.drewN _)⟩
    · have HT := hide (HYES.out (fun j hj => HK.out j (by omega)))
      have o3 : ¬ (k : Int) < (on.length : Int) := by omega
      go_wp2
      go_ret
      exact ⟨by rw [HT.out]; rfl, HO.out.tail.drewN q⟩
end
end Go.Proofs.Ytjfejimghbohdaa
