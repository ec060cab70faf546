/-
  The walk of deps.Graph.Written. Conditions: the graph and all on the way are in their bounds.
  Contracts of slices.Clone: a row of the call's own with the same cells. Conditions: none but memory's bound.
-/
import Derived.Test.YtjfejimghbohdaaMB3
import Derived.Deep.RegionHeld3
import Derived.Deep.CutBlock
import Derived.IntWalk
import Derived.StillTailTactics
import Derived.WalkSpells
import Derived.Test.YtjfejimghbohdaaProg
import Derived.KernelRfl
namespace Go.Proofs.Ytjfejimghbohdaa
set_option linter.unusedVariables false
set_option linter.unusedSimpArgs false
open Go.RowKit Go.Maps

def WrP (n : Nat) (w : World) (g : Nat) (F : List Atom) (v : Value) (out : List Int) (st : St) (W : World) : Prop :=
  ∃ ps, IsG g st ps ∧ Own n w W (rowA 3 1 v out.length (ints out) :: (ps ++ F))
def WrI (n : Nat) (w : World) (g : Nat) (F : List Atom) (v : Value) (out : List Int) (i : Nat) (vt vl : Value) (bb nb : Nat) (bs : List Bs) (st : St) (W : World) : Prop :=
  ∃ l : List Cg, l.map Cg.c = st.l ∧ (∀ h : i < l.length, l[i].vto = vt) ∧ Own n w W (rowA 3 1 v out.length (ints out) :: (gParts g vl l bb nb st.opn bs st.next ++ F))
section
variable {n g : Nat} {w W : World} {F ps : List Atom} {st : St}
set_option maxHeartbeats 8000000 in
set_option maxRecDepth 100000 in
theorem written_c (buf : Int) (hg : IsG g st ps) (hf : Fit st) (hA : FitAll st buf (nextS st buf)) (ho : Own n w W (ps ++ F)) (hw : (Lit.int .i64 buf).wf = true) :
    Calls Try.prog 12 #[.pointer (some ⟨g, 0, none⟩), .int .i64 buf] W fun e W' => ∃ v ps', e = .returned v ∧ IsG g (writtenS st buf) ps' ∧ Own n w W' (rowA 3 1 v (nextS st buf).length (ints (nextS st buf)) :: (ps' ++ F)) := by
  have HN := hide (next_c hg hf buf hw W ho)
  have HG := hide hg
  have hmem := fun x (hx : x ∈ nextS st buf) => mem_someS hx
  have hlen := hf.len
  have hol : (nextS st buf).length ≤ st.l.length := by
    unfold nextS someS
    refine Nat.le_trans (List.length_filter_le _ _) ?_
    simp
  unfold writtenS
  generalize nextS st buf = out at HN hmem hol hA ⊢
  have HA1 := hide hA.1
  have HA2 := hide hA.2.1
  have HA3 := hide hA.2.2
  have HMEM := hide hmem
  clear hA hmem hf ho hg
  go_enter Try.func12, Try.ntmps12
  go_upto_region 2 with (go_at_call 31; refine HN.out.mono ?_; rintro e W1 ⟨v, rfl, h1⟩; obtain ⟨Av, cv, rfl⟩ := own_slice h1.row; have H1 := hide h1; clear h1)
  have HP0 := hide (show WrP n w g F (.slice Av out.length cv) out ((out.take 0).foldl (doneOne buf) st) W1 from ⟨ps, HG.out, H1.out⟩)
  clear H1 HN
  go_wp2
  go_loopg [17] out.length (fun m i W => ∃ k : Nat, k ≤ out.length ∧ m = out.length - k ∧ i = .int .i64 k ∧ Hid (WrP n w g F (.slice Av out.length cv) out ((out.take k).foldl (doneOne buf) st) W))
  case atStart => exact ⟨0, by omega, by omega, rfl, HP0⟩
  case round =>
    obtain ⟨k, hk, rfl, rfl, HP⟩ := hrel
    by_cases hlt : k < out.length
    · obtain ⟨ps, ⟨vl, l, bb, nb, bs, rfl, h1, h2, h3⟩, ho⟩ := HP.out
      have hrv : wr.ownsRow n 3 1 (.slice Av out.length cv) out.length (ints out) := ho.row
      obtain ⟨gv, rfl⟩ := row_form hrv (by omega)
      have y0 := hrv.cellAt k (by omega)
      rw [ints_at hlt] at y0
      obtain ⟨i, s0, hid, hil, hs0, _⟩ := HMEM.out _ (List.getElem_mem hlt)
      obtain ⟨s, hs⟩ := done_bufs buf (out.take k) st hs0
      have hDl := done_len buf (out.take k) st
      have HFD := hide (HA1.out k hk)
      have HTK := hide (show (out.take (k + 1)).foldl (doneOne buf) st = doneOne buf ((out.take k).foldl (doneOne buf) st) (i : Int) by rw [List.take_succ_eq_append_getElem hlt, List.foldl_append, hid]; rfl)
      rw [hid] at y0
      generalize (out.take k).foldl (doneOne buf) st = D at h1 h2 ho hs hDl HFD HTK HP
      have hlm : l.length = st.l.length := by rw [← hDl, ← h1, List.length_map]
      have hil' : i < l.length := by omega
      have hrl : wr.ownsRow 0 64 5 vl l.length (cellsL l) := ho.hold (rowA 64 5 vl l.length (cellsL l)) (by simp [gParts])
      obtain ⟨Al, cl, rfl⟩ := own_slice hrl
      obtain ⟨gl, rfl⟩ := row_form hrl (by omega)
      have hbk : Blk wr g #[.slice (some ⟨gl, 0, none⟩) l.length cl, .map (some bb), .int .i64 D.opn, .map (some nb)] 69 := ho.hold (blkA g #[.slice (some ⟨gl, 0, none⟩) l.length cl, .map (some bb), .int .i64 D.opn, .map (some nb)] 69) (by simp [gParts])
      have x0 : wr.cell? ⟨g, 0, none⟩ = some (.slice (some ⟨gl, 0, none⟩) l.length cl) := hbk.cell 0
      have x4 : wr.cell? ⟨gl, i * 5 + 4, none⟩ = some (.bool l[i].c.done) := by rw [hrl.cellAt (i * 5 + 4) (by omega), cellsL_at hil' (by omega)]; rfl
      have f4 : wr.frozen? ⟨gl, i * 5 + 4, none⟩ = false := hrl.frozenAt _
      have o1 : (0 : Int) ≤ (k : Int) := by omega
      have o2 : (k : Int) < (out.length : Int) := by omega
      have o3 : (0 : Int) ≤ (i : Int) := by omega
      have o4 : (i : Int) < (l.length : Int) := by omega
      have HLM := hide hlm
      have hwi := wfN (k := i) (by omega)
      have hO1 := ho.f2.setRow (i * 5 + 4) (.bool true)
      rw [cellsL_set hil' (by omega) (.bool true) ⟨⟨l[i].c.buf, l[i].c.on, l[i].c.left, l[i].c.to, true⟩, l[i].von, l[i].vto⟩ rfl] at hO1
      have HO1 := hide hO1
      have H1 := hide h1
      have H2 := hide h2
      have H3 := hide h3
      have HS := hide hs
      clear hO1 ho hrv hid hs0 h1 h2 h3 hbk hrl HP hDl hs hlm
      go_upto_region 6 with (fail)
      clear x0 x4 f4 y0
      have hO2 := HO1.out
      generalize wr.setCell ⟨gl, i * 5 + 4, none⟩ (.bool true) = W2 at hO2 ⊢
      have hO3 : Own n w W2 (rowA 3 1 (.slice (some ⟨gv, 0, none⟩) out.length cv) out.length (ints out) :: (gParts g (.slice (some ⟨gl, 0, none⟩) l.length cl) (l.set i ⟨⟨l[i].c.buf, l[i].c.on, l[i].c.left, l[i].c.to, true⟩, l[i].von, l[i].vto⟩) bb nb D.opn bs D.next ++ F)) := by
        rw [gParts_set_eq _ _ _ _ _ _ _ _ i hil' ⟨⟨l[i].c.buf, l[i].c.on, l[i].c.left, l[i].c.to, true⟩, l[i].von, l[i].vto⟩ rfl rfl]; exact hO2.f2.f2
      have HL := hide (show (l.set i (⟨⟨l[i].c.buf, l[i].c.on, l[i].c.left, l[i].c.to, true⟩, l[i].von, l[i].vto⟩ : Cg)).map Cg.c = (doneOne buf D (i : Int)).l by
        rw [map_set_c hil']
        show _ = D.l.modify _ _
        rw [Int.toNat_natCast, ← H1.out, modify_eq_set (by simpa using hil')]
        simp)
      generalize l.set i (⟨⟨l[i].c.buf, l[i].c.on, l[i].c.left, l[i].c.to, true⟩, l[i].von, l[i].vto⟩ : Cg) = l' at hO3 HL
      generalize hvl : (Value.slice (some ⟨gl, 0, none⟩) l.length cl) = vl at hO3
      clear hO2 HO1 hvl
      obtain ⟨b0, hb0⟩ : ∃ b0, bsAt bs buf = some b0 := by
        have := H2.out buf
        rw [HS.out] at this
        cases hq : bsAt bs buf with
        | none => rw [hq] at this; cases this
        | some b => exact ⟨b, rfl⟩
      have hbset : b0.set = s := by have := H2.out buf; rw [HS.out, hb0] at this; exact (Option.some.inj this).symm
      obtain ⟨b1, b2, hbe, hb1, hk0⟩ := bsAt_split hb0
      have hgk : Blk W2 g #[vl, .map (some bb), .int .i64 D.opn, .map (some nb)] 69 := hO3.hold (blkA g #[vl, .map (some bb), .int .i64 D.opn, .map (some nb)] 69) (by simp [gParts])
      obtain ⟨sb, hbm⟩ : ∃ s, OwnV Try.prog 3 W2 bb (locF bs) s := hO3.hold (mpA bb (locF bs)) (by simp [gParts])
      have x1 : W2.cell? ⟨g, 1, none⟩ = some (.map (some bb)) := hgk.cell 1
      have hlk := hbm.look0 Try.underlying3 Try.underlying66 (zero62 _) buf hw
      have hlv : ((locF bs) buf).getD (.map none) = .map (some b0.loc) := by unfold locF; rw [hb0]; rfl
      rw [hlv] at hlk
      rw [hbe] at hO3
      have hO4 := (hO3.perm (((gParts_bs g vl l' bb nb D.opn b1 b2 b0 D.next).append_right F).cons _)).f1
      obtain ⟨z, hz⟩ : ∃ s, OwnV Try.prog 3 W2 b0.loc (setF b0.set) s := hO4.head
      have HZ := hide hz
      have HO4 := hide hO4
      have HB := hide (And.intro hbset (And.intro hbe (And.intro hb1 hk0)))
      have hop1 := HFD.out.opn.1
      have hop2 := HFD.out.opn.2
      clear hbset hbe hb1 hk0 hgk hbm hlv hO3 hO4 hz hb0
      go_upto_region 7 with (with_reducible refine wpList_delV rfl _ _ 71 3 rfl 4 Try.underlying3 Try.underlying71 b0.loc z (setF b0.set) rfl HZ.out (i : Int) rfl hwi ?_; intro w6 hown6 hg6; have HG6 := hide (And.intro hown6 hg6); clear hown6 hg6)
      have h3 := HO4.out.grow (a' := Bs.a ⟨b0.key, b0.loc, fun x => if x = (i : Int) then false else b0.set x⟩) HG6.out.2 (fun k hk => .inl hk) ⟨_, by rw [← setF_del]; exact HG6.out.1⟩
      have h4 := h3.f2
      have hgk6 : Blk w6 g #[vl, .map (some bb), .int .i64 D.opn, .map (some nb)] 69 := h4.head
      have z2 : w6.cell? ⟨g, 2, none⟩ = some (.int .i64 D.opn) := hgk6.cell 2
      have f2 : w6.frozen? ⟨g, 2, none⟩ = false := hgk6.frozen 2
      have H4 := hide h4
      clear x1 hlk h3 h4 hgk6
      go_wp2
      go_roundg (out.length - (k + 1))
      case measure => omega
      case rel =>
        refine ⟨k + 1, by omega, rfl, by go_num, hide ?_⟩
        rw [HTK.out]
        obtain ⟨hbset, hbe, hb1, hk0⟩ := HB.out
        have h5 := H4.out.setBlk 2 (.int .i64 (D.opn - 1))
        have hf1 : ∀ c ∈ b1, c.key ≠ b0.key := fun c hc => by rw [hk0]; exact hb1 c hc
        have e := locF_mid (l2 := b2) (b := b0) (b' := ⟨b0.key, b0.loc, fun x => if x = (i : Int) then false else b0.set x⟩) hf1 rfl rfl
        refine ⟨gParts g vl l' bb nb (D.opn - 1) (b1 ++ ⟨b0.key, b0.loc, fun x => if x = (i : Int) then false else b0.set x⟩ :: b2) D.next, ⟨vl, l', bb, nb, b1 ++ ⟨b0.key, b0.loc, fun x => if x = (i : Int) then false else b0.set x⟩ :: b2, rfl, HL.out, fun x => ?_, keys_mid (b := b0) rfl (by rw [← hbe]; exact H3.out)⟩, ?_⟩
        · rw [bsAt_mid (b := b0) (b' := ⟨b0.key, b0.loc, fun x => if x = (i : Int) then false else b0.set x⟩) hf1 rfl, hk0]
          show upd D.bufs buf _ x = _
          unfold upd
          by_cases ex : x = buf
          · rw [if_pos ex, if_pos ex, HS.out, hbset]; rfl
          · rw [if_neg ex, if_neg ex, H2.out, hbe]
        · refine Own.perm ?_ (((gParts_bs g vl l' bb nb (D.opn - 1) b1 b2 ⟨b0.key, b0.loc, fun x => if x = (i : Int) then false else b0.set x⟩ D.next).symm.append_right F).cons _)
          rw [e]
          exact h5.f1.f2
    · have hke : out.take k = out := List.take_of_length_le (by omega)
      have hge : (out.length : Int) ≤ (k : Int) := by omega
      rw [hke] at HP
      have HFD := hide (show Fit (out.foldl (doneOne buf) st) by have := HA1.out out.length (Nat.le_refl _); rwa [List.take_length] at this)
      have hDl := done_len buf out st
      have HWG := hide (show writtenG st buf out = out.foldl freeAll (midS (out.foldl (doneOne buf) st) buf) from rfl)
      generalize out.foldl (doneOne buf) st = D at HP HFD hDl HA2 HA3 HWG
      obtain ⟨ps, ⟨vl, l, bb, nb, bs, rfl, h1, h2, h3⟩, ho⟩ := HP.out
      have hgk : Blk wr g #[vl, .map (some bb), .int .i64 D.opn, .map (some nb)] 69 := ho.hold (blkA g #[vl, .map (some bb), .int .i64 D.opn, .map (some nb)] 69) (by simp [gParts])
      obtain ⟨sN, hnb⟩ : ∃ s, OwnV Try.prog 3 wr nb (intF D.next) s := ho.hold (mpA nb (intF D.next)) (by simp [gParts])
      have x3 : wr.cell? ⟨g, 3, none⟩ = some (.map (some nb)) := hgk.cell 3
      have HO := hide ho
      have H1 := hide h1
      have H2 := hide h2
      have H3 := hide h3
      have HNB := hide hnb
      have HDL := hide hDl
      clear ho h1 h2 h3 hgk hnb hke HP HP0 hDl
      go_upto_region 10 with (with_reducible refine wpList_delV rfl _ _ 67 3 rfl 3 Try.underlying3 Try.underlying67 nb sN (intF D.next) rfl HNB.out buf rfl hw ?_; intro w6 hown6 hg6; have HG6 := hide (And.intro hown6 hg6); clear hown6 hg6)
      have hO1 : Own n w w6 (rowA 3 1 (.slice Av out.length cv) out.length (ints out) :: (gParts g vl l bb nb D.opn bs (upd D.next buf none) ++ F)) := by
        have h4 := (show Own n w wr (rowA 3 1 (.slice Av out.length cv) out.length (ints out) :: blkA g #[vl, .map (some bb), .int .i64 D.opn, .map (some nb)] 69 :: rowA 64 5 vl l.length (cellsL l) :: mpA bb (locF bs) :: mpA nb (intF D.next) :: _) from HO.out).f4.grow (a' := mpA nb (intF (upd D.next buf none))) HG6.out.2 (fun k hk => .inl hk) ⟨_, by rw [← intF_del]; exact HG6.out.1⟩
        exact h4.f4.f4.f4.f4
      clear x3 HNB HO
      have hgk : Blk w6 g #[vl, .map (some bb), .int .i64 D.opn, .map (some nb)] 69 := hO1.hold (blkA g #[vl, .map (some bb), .int .i64 D.opn, .map (some nb)] 69) (by simp [gParts])
      obtain ⟨sb, hbm⟩ : ∃ s, OwnV Try.prog 3 w6 bb (locF bs) s := hO1.hold (mpA bb (locF bs)) (by simp [gParts])
      have x1 : w6.cell? ⟨g, 1, none⟩ = some (.map (some bb)) := hgk.cell 1
      have hlk := hbm.look0 Try.underlying3 Try.underlying66 (zero62 _) buf hw
      obtain ⟨mb, hmb⟩ : ∃ mb, mb = (bsAt bs buf).map Bs.loc := ⟨_, rfl⟩
      have hlv : ((locF bs) buf).getD (.map none) = .map mb := by rw [hmb]; unfold locF; cases bsAt bs buf <;> rfl
      rw [hlv] at hlk
      obtain ⟨zz, hzz, hzs⟩ : ∃ zz : Nat, (∀ ty, (Builtin.len_ #[71] ty #[.map mb]).run Try.prog w6 = .ok (.int .i64 zz) w6) ∧ ((zz = 0 ∧ (bsAt bs buf = none ∨ ∃ b0, bsAt bs buf = some b0 ∧ (List.range D.l.length).any (fun i => b0.set (i : Int)) = false)) ∨ (zz ≠ 0 ∧ ∃ b0, bsAt bs buf = some b0 ∧ (List.range D.l.length).any (fun i => b0.set (i : Int)) = true)) := by
        cases hb : bsAt bs buf with
        | none =>
          rw [hb] at hmb
          exact ⟨0, fun ty => by rw [hmb]; exact Maps.len_nil Try.underlying71 ty, .inl ⟨rfl, .inl rfl⟩⟩
        | some b0 =>
          rw [hb] at hmb
          obtain ⟨hm, _⟩ := bsAt_mem hb
          obtain ⟨z, hz⟩ : ∃ s, OwnV Try.prog 3 w6 b0.loc (setF b0.set) s := hO1.hold b0.a (by
            unfold gParts
            refine List.mem_cons_of_mem _ (List.mem_append_left _ ?_)
            repeat (first | exact List.mem_append_right _ (List.mem_append_right _ (List.mem_map.2 ⟨b0, hm, rfl⟩)) | apply List.mem_cons_of_mem))
          have ha := set_any HFD.out (buf := buf) (s := b0.set) (by rw [H2.out, hb]; rfl) hz
          refine ⟨z, fun ty => by rw [hmb]; exact hz.len Try.underlying71 ty, ?_⟩
          by_cases h0 : z = 0
          · exact .inl ⟨h0, .inr ⟨b0, rfl, ha.1 h0⟩⟩
          · refine .inr ⟨h0, b0, rfl, ?_⟩
            cases hany : (List.range D.l.length).any (fun i => b0.set (i : Int)) with
            | true => rfl
            | false => exact absurd (ha.2 hany) h0
      have HZS := hide hzs
      have HZZ := hide hzz
      have HBM := hide hbm
      have HO1 := hide hO1
      have hwz : zz < 1099511627776 ∨ True := .inr trivial
      clear hzs hzz hbm hO1 hmb hlv hgk hwz
      go_upto_if 55 with (with_reducible refine wpList_len rfl _ 71 rfl (.map mb) (.int .i64 zz) rfl HZZ.out ?_)
      go_cut [] from 56 to 60 (fun wx => Hid (WrP n w g F (.slice Av out.length cv) out (midS D buf) wx))
      case first =>
        rcases HZS.out with ⟨h0, hcase⟩ | ⟨h0, b0, hb0, hany⟩
        · have e1 : ((zz : Int) == 0) = true := by rw [h0]; rfl
          have HCA := hide hcase
          clear hcase h0
          go_wp2_with (with_reducible refine wpList_delV rfl _ _ 66 3 rfl 71 Try.underlying3 Try.underlying66 bb sb (locF bs) rfl HBM.out buf rfl hw ?_; intro w8 hown8 hg8; have HG8 := hide (And.intro hown8 hg8); clear hown8 hg8)
          go_meet
          rcases HCA.out with hbn | ⟨b0, hb0, hany⟩
          · refine hide ⟨gParts g vl l bb nb D.opn bs (upd D.next buf none), ⟨vl, l, bb, nb, bs, rfl, H1.out, fun x => ?_, H3.out⟩, ?_⟩
            · show (if x = buf then _ else D.bufs x) = _
              by_cases ex : x = buf
              · subst ex
                have := H2.out x
                rw [hbn] at this
                rw [if_pos rfl, this, hbn]
                rfl
              · rw [if_neg ex, H2.out]
            · have h5 := HO1.out.f3.grow (a' := mpA bb (locF bs)) HG8.out.2 (fun k hk => .inl hk) ⟨_, by
                have := HG8.out.1
                rwa [locF_none hbn] at this⟩
              exact h5.f3.f3.f3
          · obtain ⟨b1, b2, hbe, hb1, hk0⟩ := bsAt_split hb0
            have hnd : ((b1 ++ b0 :: b2).map Bs.key).Nodup := by rw [← hbe]; exact H3.out
            refine hide ⟨gParts g vl l bb nb D.opn (b1 ++ b2) (upd D.next buf none), ⟨vl, l, bb, nb, b1 ++ b2, rfl, H1.out, fun x => ?_, ?_⟩, ?_⟩
            · show (if x = buf then _ else D.bufs x) = _
              rw [bsAt_drop hnd, hk0]
              by_cases ex : x = buf
              · subst ex
                have := H2.out x
                rw [hb0] at this
                rw [if_pos rfl, if_pos rfl, this]
                show (if ((List.range D.l.length).any fun i => b0.set (i : Int)) = true then some b0.set else none) = none
                rw [hany]; rfl
              · rw [if_neg ex, if_neg ex, H2.out, hbe]
            · rw [List.map_append, List.map_cons] at hnd
              rw [List.map_append]
              exact (List.nodup_cons.1 (List.perm_middle.nodup_iff.1 hnd)).2
            · have h4 := HO1.out
              rw [hbe] at h4
              have h5 := (h4.perm (((gParts_bs g vl l bb nb D.opn b1 b2 b0 (upd D.next buf none)).append_right F).cons _)).f1.tail
              have h6 := h5.f3.grow (a' := mpA bb (locF (b1 ++ b2))) HG8.out.2 (fun k hk => .inl hk) ⟨_, by
                have := HG8.out.1
                rw [hbe] at this
                rwa [show (fun x => if x = buf then none else locF (b1 ++ b0 :: b2) x) = locF (b1 ++ b2) from by rw [← locF_del hnd, hk0]] at this⟩
              exact h6.f3.f3.f3
        · have e1 : ((zz : Int) == 0) = false := by rw [beq_eq_false_iff_ne]; omega
          have HN := hide (show WrP n w g F (.slice Av out.length cv) out (midS D buf) w6 from ⟨gParts g vl l bb nb D.opn bs (upd D.next buf none), ⟨vl, l, bb, nb, bs, rfl, H1.out, fun x => by
            show (if x = buf then _ else D.bufs x) = _
            by_cases ex : x = buf
            · subst ex
              have := H2.out x
              rw [hb0] at this
              rw [if_pos rfl, this, hb0]
              show (if ((List.range D.l.length).any fun i => b0.set (i : Int)) = true then some b0.set else none) = some b0.set
              rw [hany]; rfl
            · rw [if_neg ex, H2.out], H3.out⟩, HO1.out⟩)
          clear hb0 hany h0
          go_wp2
          go_meet
          exact HN
      case rest =>
        have hE0 : (midS D buf).l.length = st.l.length := HDL.out
        clear HZS HZZ HBM HO1 x1 hlk H1 H2 H3 HFD HDL HG6
        generalize midS D buf = E0 at HA2 HA3 HWG hcut hE0
        have HE0 := hide hE0
        have HP0 := hide hcut.out
        clear hE0 hcut
        go_wp2
        go_loopg [63] out.length (fun m i W => ∃ k : Nat, k ≤ out.length ∧ m = out.length - k ∧ i = .int .i64 k ∧ Hid (WrP n w g F (.slice Av out.length cv) out ((out.take k).foldl freeAll E0) W))
        case atStart => exact ⟨0, by omega, by omega, rfl, HP0⟩
        case round =>
          obtain ⟨wo, rfl⟩ : ∃ wo : World, wo = wr := ⟨_, rfl⟩
          obtain ⟨k, hk, rfl, rfl, HP⟩ := hrel
          by_cases hlt : k < out.length
          · obtain ⟨ps, ⟨vl, l, bb, nb, bs, rfl, h1, h2, h3⟩, ho⟩ := HP.out
            have hrv : wo.ownsRow n 3 1 (.slice Av out.length cv) out.length (ints out) := ho.row
            obtain ⟨gv, rfl⟩ := row_form hrv (by omega)
            have y0 := hrv.cellAt k (by omega)
            rw [ints_at hlt] at y0
            obtain ⟨i, s0, hid, hil, hs0, _⟩ := HMEM.out _ (List.getElem_mem hlt)
            have hDl := freeAll_len (out.take k) E0
            rw [HE0.out] at hDl
            have HFE := hide (HA2.out k hk)
            have HTK := hide (show (out.take (k + 1)).foldl freeAll E0 = freeAll ((out.take k).foldl freeAll E0) (i : Int) by rw [List.take_succ_eq_append_getElem hlt, List.foldl_append, hid]; rfl)
            have HFJ := hide (HA3.out k hlt)
            rw [hid] at y0 HFJ
            generalize (out.take k).foldl freeAll E0 = E at h1 h2 ho hDl HFE HTK HP HFJ
            have hlm : l.length = st.l.length := by rw [← hDl, ← h1, List.length_map]
            have hil' : i < l.length := by omega
            have hrl : wo.ownsRow 0 64 5 vl l.length (cellsL l) := ho.hold (rowA 64 5 vl l.length (cellsL l)) (by simp [gParts])
            rw [hlm] at hrl
            obtain ⟨Al, cl, rfl⟩ := own_slice hrl
            obtain ⟨gl, rfl⟩ := row_form hrl (by omega)
            have hbk : Blk wo g #[.slice (some ⟨gl, 0, none⟩) st.l.length cl, .map (some bb), .int .i64 E.opn, .map (some nb)] 69 := ho.hold (blkA g #[.slice (some ⟨gl, 0, none⟩) st.l.length cl, .map (some bb), .int .i64 E.opn, .map (some nb)] 69) (by simp [gParts])
            have x0 : wo.cell? ⟨g, 0, none⟩ = some (.slice (some ⟨gl, 0, none⟩) st.l.length cl) := hbk.cell 0
            have x3 : wo.cell? ⟨gl, i * 5 + 3, none⟩ = some l[i].vto := by rw [hrl.cellAt (i * 5 + 3) (by omega), cellsL_at hil' (by omega)]; rfl
            have hvt : wo.ownsRow 0 3 1 l[i].vto l[i].c.to.length (ints l[i].c.to) := ho.hold (toA l[i]) (by unfold gParts; simp only [List.mem_cons, List.mem_append, List.mem_map, List.cons_append]; exact .inr (.inr (.inr (.inr (.inr (.inl (.inr (.inl ⟨_, List.getElem_mem hil', rfl⟩))))))))
            have hto : (at_ E (i : Int)).to = l[i].c.to := by unfold at_; rw [← h1]; simp [hil']
            have htr : ∀ x ∈ l[i].c.to, 0 ≤ x ∧ x < (st.l.length : Int) := fun x hx => by
              have := (HFE.out.chg l[i].c (by rw [← h1]; exact List.mem_map_of_mem (List.getElem_mem hil'))).2.2.2.2.2 x hx
              rw [hDl] at this; exact this
            have htl := (HFE.out.chg l[i].c (by rw [← h1]; exact List.mem_map_of_mem (List.getElem_mem hil'))).2.2.1
            rw [hto] at HFJ
            obtain ⟨At, ct, hvte⟩ := own_slice hvt
            have hI0 : WrI n w g F (.slice (some ⟨gv, 0, none⟩) out.length cv) out i l[i].vto (.slice (some ⟨gl, 0, none⟩) st.l.length cl) bb nb bs ((l[i].c.to.take 0).foldl freeOne E) wo := ⟨l, h1, fun _ => rfl, ho⟩
            have hTO : ∀ j, ((l[i].c.to.take j).foldl freeOne E).l.getD i zc = ((l[i].c.to.take j).foldl freeOne E).l.getD i zc := fun _ => rfl
            have HTJ := hide (fun j => show (((l[i].c.to.take j).foldl freeOne E).l.getD i zc).to = l[i].c.to by rw [freeOnes_to, ← hto]; unfold at_; rfl)
            have HLJ := hide (fun j => show ((l[i].c.to.take j).foldl freeOne E).l.length = st.l.length by rw [freeOne_len, hDl])
            have HFIN := hide (show freeAll E (i : Int) = clearTo (l[i].c.to.foldl freeOne E) (i : Int) by unfold freeAll; rw [hto])
            have HB2 := hide (And.intro h2 h3)
            rw [hvte] at x3 hvt hI0
            have HI0 := hide hI0
            have HTR := hide htr
            generalize l[i].c.to = tt at HFJ htl hvt HI0 HTJ HLJ HFIN x3 HTR
            have o1 : (0 : Int) ≤ (k : Int) := by omega
            have o2 : (k : Int) < (out.length : Int) := by omega
            have o3 : (0 : Int) ≤ (i : Int) := by omega
            have o4 : (i : Int) < (st.l.length : Int) := by omega
            clear ho hrv hid hs0 h1 h2 h3 hbk hrl HP hDl hto htr hvt hvte hI0 hTO hlm hil'
            go_upto_region 16 with (fail)
            clear x0 x3 y0
            go_loopw [76] (fun i' W => ∃ j : Nat, j ≤ tt.length ∧ i' = .int .i64 j ∧ Hid (WrI n w g F (.slice (some ⟨gv, 0, none⟩) out.length cv) out i (.slice At tt.length ct) (.slice (some ⟨gl, 0, none⟩) st.l.length cl) bb nb bs ((tt.take j).foldl freeOne E) W)) (fun i' _ => tt.length - (intOf i').toNat)
            case atStart => exact ⟨0, by omega, rfl, HI0⟩
            case round =>
              obtain ⟨W, rfl⟩ : ∃ W : World, W = wr := ⟨_, rfl⟩
              obtain ⟨j, hj, rfl, HI⟩ := hrel
              obtain ⟨lj, h1, hvt, ho⟩ := HI.out
              have hlj : lj.length = st.l.length := by rw [← HLJ.out j, ← h1, List.length_map]
              have hil' : i < lj.length := by omega
              have hvt' := hvt hil'
              have hrl : W.ownsRow 0 64 5 (.slice (some ⟨gl, 0, none⟩) st.l.length cl) lj.length (cellsL lj) := ho.hold (rowA 64 5 (.slice (some ⟨gl, 0, none⟩) st.l.length cl) lj.length (cellsL lj)) (by simp [gParts])
              rw [hlj] at hrl
              have hbk : Blk W g #[.slice (some ⟨gl, 0, none⟩) st.l.length cl, .map (some bb), .int .i64 ((tt.take j).foldl freeOne E).opn, .map (some nb)] 69 := ho.hold (blkA g #[.slice (some ⟨gl, 0, none⟩) st.l.length cl, .map (some bb), .int .i64 ((tt.take j).foldl freeOne E).opn, .map (some nb)] 69) (by simp [gParts])
              have x0 : W.cell? ⟨g, 0, none⟩ = some (.slice (some ⟨gl, 0, none⟩) st.l.length cl) := hbk.cell 0
              have htj : lj[i].c.to = tt := by
                have := HTJ.out j
                rw [← h1] at this
                simpa [hil'] using this
              have hvr : W.ownsRow 0 3 1 lj[i].vto lj[i].c.to.length (ints lj[i].c.to) := ho.hold (toA lj[i]) (by unfold gParts; simp only [List.mem_cons, List.mem_append, List.mem_map, List.cons_append]; exact .inr (.inr (.inr (.inr (.inr (.inl (.inr (.inl ⟨_, List.getElem_mem hil', rfl⟩))))))))
              rw [hvt', htj] at hvr
              by_cases hjl : j < tt.length
              · obtain ⟨gt, rfl⟩ := row_form hvr (by omega)
                have y1 := hvr.cellAt j (by omega)
                rw [ints_at hjl] at y1
                have hpr := HTR.out _ (List.getElem_mem hjl)
                have HFK := hide (HFJ.out j hj)
                have HST := hide (show (tt.take (j + 1)).foldl freeOne E = freeOne ((tt.take j).foldl freeOne E) tt[j] by rw [List.take_succ_eq_append_getElem hjl, List.foldl_append]; rfl)
                generalize tt[j] = p at y1 hpr HST
                obtain ⟨p, rfl⟩ := Int.eq_ofNat_of_zero_le hpr.1
                have hpl : p < lj.length := by omega
                generalize (tt.take j).foldl freeOne E = J at h1 ho hbk HFK HST
                have hcp := HFK.out.chg lj[p].c (by rw [← h1]; exact List.mem_map_of_mem (List.getElem_mem hpl))
                have hat : at_ J (p : Int) = lj[p].c := by unfold at_; rw [← h1]; simp [hpl]
                have x2 : W.cell? ⟨gl, p * 5 + 2, none⟩ = some (.int .i64 lj[p].c.left) := by rw [hrl.cellAt (p * 5 + 2) (by omega), cellsL_at hpl (by omega)]; rfl
                have f2 : W.frozen? ⟨gl, p * 5 + 2, none⟩ = false := hrl.frozenAt _
                have hlf1 := hcp.2.2.2.1
                have hlf2 := hcp.2.2.2.2.1
                have hwb := wf64 hcp.1
                have hO1 : Own n w (W.setCell ⟨gl, p * 5 + 2, none⟩ (.int .i64 (lj[p].c.left - 1))) (rowA 64 5 (.slice (some ⟨gl, 0, none⟩) st.l.length cl) st.l.length (cellsL (lj.set p ⟨⟨lj[p].c.buf, lj[p].c.on, lj[p].c.left - 1, lj[p].c.to, lj[p].c.done⟩, lj[p].von, lj[p].vto⟩)) :: rowA 3 1 (.slice (some ⟨gv, 0, none⟩) out.length cv) out.length (ints out) :: blkA g #[.slice (some ⟨gl, 0, none⟩) st.l.length cl, .map (some bb), .int .i64 J.opn, .map (some nb)] 69 :: mpA bb (locF bs) :: mpA nb (intF J.next) :: ((lj.map onA ++ (lj.map toA ++ bs.map Bs.a)) ++ F)) := by
                  have h4 : Own n w W (rowA 3 1 (.slice (some ⟨gv, 0, none⟩) out.length cv) out.length (ints out) :: blkA g #[.slice (some ⟨gl, 0, none⟩) st.l.length cl, .map (some bb), .int .i64 J.opn, .map (some nb)] 69 :: rowA 64 5 (.slice (some ⟨gl, 0, none⟩) st.l.length cl) lj.length (cellsL lj) :: mpA bb (locF bs) :: mpA nb (intF J.next) :: ((lj.map onA ++ (lj.map toA ++ bs.map Bs.a)) ++ F)) := ho
                  rw [hlj] at h4
                  have h5 := h4.f2.setRow (p * 5 + 2) (.int .i64 (lj[p].c.left - 1))
                  rw [cellsL_set hpl (by omega) (.int .i64 (lj[p].c.left - 1)) ⟨⟨lj[p].c.buf, lj[p].c.on, lj[p].c.left - 1, lj[p].c.to, lj[p].c.done⟩, lj[p].von, lj[p].vto⟩ rfl] at h5
                  exact h5
                have HC := hide (And.intro h1 (And.intro hlj (And.intro hvt' hat)))
                have HO1 := hide hO1
                have o5 : (0 : Int) ≤ (j : Int) := by omega
                have o6 : (j : Int) < (tt.length : Int) := by omega
                have o7 : (0 : Int) ≤ (p : Int) := by omega
                have o8 : (p : Int) < (st.l.length : Int) := by omega
                clear hO1 h1 hlj hvt hvt' hrl hbk htj hvr hcp hat ho hpr
                go_upto_region 19 with (fail)
                clear x0 x2 f2 y1
                have hO2 := HO1.out
                generalize W.setCell ⟨gl, p * 5 + 2, none⟩ (.int .i64 (lj[p].c.left - 1)) = W2 at hO2 ⊢
                have hpl' := hpl
                have hbk2 : Blk W2 g #[.slice (some ⟨gl, 0, none⟩) st.l.length cl, .map (some bb), .int .i64 J.opn, .map (some nb)] 69 := hO2.tail.tail.head
                have hrl2 : W2.ownsRow n 64 5 (.slice (some ⟨gl, 0, none⟩) st.l.length cl) st.l.length (cellsL (lj.set p ⟨⟨lj[p].c.buf, lj[p].c.on, lj[p].c.left - 1, lj[p].c.to, lj[p].c.done⟩, lj[p].von, lj[p].vto⟩)) := hO2.row
                have hsl : p < (lj.set p ⟨⟨lj[p].c.buf, lj[p].c.on, lj[p].c.left - 1, lj[p].c.to, lj[p].c.done⟩, lj[p].von, lj[p].vto⟩).length := by rw [List.length_set]; exact hpl
                have x0 : W2.cell? ⟨g, 0, none⟩ = some (.slice (some ⟨gl, 0, none⟩) st.l.length cl) := hbk2.cell 0
                have xn : W2.cell? ⟨g, 3, none⟩ = some (.map (some nb)) := hbk2.cell 3
                have x2 : W2.cell? ⟨gl, p * 5 + 2, none⟩ = some (.int .i64 (lj[p].c.left - 1)) := by rw [hrl2.cellAt (p * 5 + 2) (by omega), cellsL_at hsl (by omega), List.getElem_set_self]; rfl
                have xb : W2.cell? ⟨gl, p * 5, none⟩ = some (.int .i64 lj[p].c.buf) := by
                  have := hrl2.cellAt (p * 5 + 0) (by omega)
                  rw [cellsL_at hsl (by omega), List.getElem_set_self] at this
                  exact this
                obtain ⟨sN2, hnb⟩ : ∃ s, OwnV Try.prog 3 W2 nb (intF J.next) s := hO2.tail.tail.tail.tail.head
                have hsN := HFK.out.nextSize hnb
                have hJl : J.l.length = st.l.length := by rw [← HC.out.1, List.length_map]; exact HC.out.2.1
                rw [hJl] at hsN
                have HNX := hide (show ∀ (nx : Int → Option Int) (V : World), nx = (freeOne J (p : Int)).next → Own n w V (mpA nb (intF nx) :: rowA 64 5 (.slice (some ⟨gl, 0, none⟩) st.l.length cl) st.l.length (cellsL (lj.set p ⟨⟨lj[p].c.buf, lj[p].c.on, lj[p].c.left - 1, lj[p].c.to, lj[p].c.done⟩, lj[p].von, lj[p].vto⟩)) :: rowA 3 1 (.slice (some ⟨gv, 0, none⟩) out.length cv) out.length (ints out) :: blkA g #[.slice (some ⟨gl, 0, none⟩) st.l.length cl, .map (some bb), .int .i64 J.opn, .map (some nb)] 69 :: mpA bb (locF bs) :: ((lj.map onA ++ (lj.map toA ++ bs.map Bs.a)) ++ F)) →
                    WrI n w g F (.slice (some ⟨gv, 0, none⟩) out.length cv) out i (.slice (some ⟨gt, 0, none⟩) tt.length ct) (.slice (some ⟨gl, 0, none⟩) st.l.length cl) bb nb bs (freeOne J (p : Int)) V from fun nx V hnx hV => by
                  obtain ⟨h1, hlj, hvt', hat⟩ := HC.out
                  refine ⟨lj.set p ⟨⟨lj[p].c.buf, lj[p].c.on, lj[p].c.left - 1, lj[p].c.to, lj[p].c.done⟩, lj[p].von, lj[p].vto⟩, ?_, fun h => ?_, ?_⟩
                  · rw [map_set_c hpl]
                    show _ = J.l.modify _ _
                    rw [Int.toNat_natCast, ← h1, modify_eq_set (by simpa using hpl)]
                    simp
                  · rw [List.getElem_set]
                    split
                    · rename_i e; subst e; exact hvt'
                    · exact hvt'
                  · rw [gParts_set_eq _ _ _ _ _ _ _ _ p hpl ⟨⟨lj[p].c.buf, lj[p].c.on, lj[p].c.left - 1, lj[p].c.to, lj[p].c.done⟩, lj[p].von, lj[p].vto⟩ rfl rfl, hlj, ← hnx]
                    exact hV.f4.f2.f4.f4)
                have HNB := hide hnb
                have HO2 := hide hO2
                have HAT := hide HC.out.2.2.2
                have HBV := hide (show ∀ v, v = (J.next lj[p].c.buf).getD 0 → -1099511627776 < v ∧ v < 1099511627776 from fun v hv => by
                  subst hv
                  cases hv : J.next lj[p].c.buf with
                  | none => exact ⟨by decide, by decide⟩
                  | some v => exact HFK.out.next _ v hv)
                have hlv : ((intF J.next) lj[p].c.buf).getD (.int .i64 0) = .int .i64 ((J.next lj[p].c.buf).getD 0) := by unfold intF; cases J.next lj[p].c.buf <;> rfl
                clear hO2 HO1 hbk2 hrl2 hnb hJl hsl
                by_cases hz : lj[p].c.left - 1 = 0
                · have e1 : ((lj[p].c.left - 1) == 0) = true := by rw [hz]; rfl
                  have HNE := hide (show upd J.next lj[p].c.buf (some ((J.next lj[p].c.buf).getD 0 + 1)) = (freeOne J (p : Int)).next by
                    show _ = (if (at_ J (p : Int)).left - 1 = 0 then _ else _)
                    rw [HAT.out, if_pos hz])
                  have hlk := HNB.out.look0 Try.underlying3 Try.underlying67 (zero3 _) lj[p].c.buf hwb
                  rw [hlv] at hlk
                  have hvb := HBV.out _ rfl
                  have hv1 := hvb.1
                  have hv2 := hvb.2
                  clear hz hlv hvb
                  generalize (J.next lj[p].c.buf).getD 0 = v at hlk hv1 hv2 HNE
                  generalize lj[p].c.buf = kb at hlk HNE xb hwb
                  have hlkd : (Instr.lookup 67 (.map (some nb)) (.int .i64 kb) false).run Try.prog W2.drew = .ok (.int .i64 v) W2.drew := by
                    have := (show OwnV Try.prog 3 W2.drew nb (intF J.next) sN2 from HNB.out).look0 Try.underlying3 Try.underlying67 (zero3 _) kb hwb
                    rw [this]
                    have h2 := HNB.out.look0 Try.underlying3 Try.underlying67 (zero3 _) kb hwb
                    rw [h2] at hlk
                    injection hlk with h3
                    rw [h3]
                  go_upto_region 20 with (fail)
                  have hwv : IntKind.i64.wrap (v + 1) = v + 1 := IntWalk.i64_in _ (by omega)
                  go_still_tail 14, (by kernel_rfl)
                  refine wpList_putV rfl _ _ _ 67 (.inl rfl) 3 3 Try.underlying3 Try.underlying67 nb sN2 (intF J.next) rfl (show OwnV Try.prog 3 _ nb (intF J.next) sN2 from HNB.out) (by unfold maxLen; omega) kb _ rfl rfl hwb ?_
                  intro w8 hown8 hg8
                  try simp only [hwv] at hown8
                  have HG8 := hide (And.intro hown8 hg8)
                  clear hown8 hg8
                  go_wp2
                  go_roundw
                  case rel =>
                    refine ⟨j + 1, by omega, by go_num, hide ?_⟩
                    rw [HST.out]
                    exact HNX.out _ _ HNE.out (HO2.out.f4.drew.grow (a' := mpA nb (intF (upd J.next kb (some (v + 1))))) HG8.out.2 (fun k hk => .inl hk) ⟨_, by rw [← intF_put]; exact HG8.out.1⟩)
                  case measure => simp [intOf]; omega
                · have e1 : ((lj[p].c.left - 1) == 0) = false := by rw [beq_eq_false_iff_ne]; exact hz
                  have HNE := hide (show J.next = (freeOne J (p : Int)).next by
                    show _ = (if (at_ J (p : Int)).left - 1 = 0 then _ else _)
                    rw [HAT.out, if_neg hz])
                  clear hz hlv
                  go_wp2
                  go_roundw
                  case rel =>
                    refine ⟨j + 1, by omega, by go_num, hide ?_⟩
                    rw [HST.out]
                    exact HNX.out _ _ HNE.out HO2.out.f4
                  case measure => simp [intOf]; omega
              · have hjt : tt.take j = tt := List.take_of_length_le (by omega)
                have hge2 : (tt.length : Int) ≤ (j : Int) := by omega
                rw [hjt] at h1 ho hbk
                have HFK := hide (HFJ.out tt.length (Nat.le_refl _))
                have hx3 : W.cell? ⟨gl, i * 5 + 3, none⟩ = some lj[i].vto := by rw [hrl.cellAt (i * 5 + 3) (by omega), cellsL_at hil' (by omega)]; rfl
                have f3 : W.frozen? ⟨gl, i * 5 + 3, none⟩ = false := hrl.frozenAt _
                have HBU := hide (freeOnes_bufs tt E)
                generalize tt.foldl freeOne E = J at h1 ho hbk HFIN HBU
                have hg1 := gParts_to g (.slice (some ⟨gl, 0, none⟩) st.l.length cl) lj bb nb J.opn bs J.next i hil'
                have hg2 := gParts_to_set g (.slice (some ⟨gl, 0, none⟩) st.l.length cl) lj bb nb J.opn bs J.next i hil' ⟨⟨lj[i].c.buf, lj[i].c.on, lj[i].c.left, [], lj[i].c.done⟩, lj[i].von, .slice none 0 0⟩ rfl
                rw [hlj] at hg1 hg2
                have HE := hide (show ∀ V, Own n w V (rowA 64 5 (.slice (some ⟨gl, 0, none⟩) st.l.length cl) st.l.length (cellsL (lj.set i ⟨⟨lj[i].c.buf, lj[i].c.on, lj[i].c.left, [], lj[i].c.done⟩, lj[i].von, .slice none 0 0⟩)) :: rowA 3 1 (.slice (some ⟨gv, 0, none⟩) out.length cv) out.length (ints out) :: blkA g #[.slice (some ⟨gl, 0, none⟩) st.l.length cl, .map (some bb), .int .i64 J.opn, .map (some nb)] 69 :: (gRest bb nb bs J.next (lj.map onA) ((lj.eraseIdx i).map toA) ++ F)) →
                    WrP n w g F (.slice (some ⟨gv, 0, none⟩) out.length cv) out ((out.take (k + 1)).foldl freeAll E0) V from fun V hV => by
                  rw [HTK.out, HFIN.out]
                  refine ⟨gParts g (.slice (some ⟨gl, 0, none⟩) st.l.length cl) (lj.set i ⟨⟨lj[i].c.buf, lj[i].c.on, lj[i].c.left, [], lj[i].c.done⟩, lj[i].von, .slice none 0 0⟩) bb nb J.opn bs J.next, ⟨.slice (some ⟨gl, 0, none⟩) st.l.length cl, lj.set i ⟨⟨lj[i].c.buf, lj[i].c.on, lj[i].c.left, [], lj[i].c.done⟩, lj[i].von, .slice none 0 0⟩, bb, nb, bs, rfl, ?_, ?_, HB2.out.2⟩, ?_⟩
                  · rw [map_set_c hil']
                    show _ = J.l.modify _ _
                    rw [Int.toNat_natCast, ← h1, modify_eq_set (by simpa using hil')]
                    simp
                  · intro x
                    show J.bufs x = _
                    rw [HBU.out]; exact HB2.out.1 x
                  · refine Own.perm ?_ ((hg2.symm.append_right F).cons _)
                    exact ((hV.f2.f2).nilRow 3 1).f1)
                have hO1 : Own n w (W.setCell ⟨gl, i * 5 + 3, none⟩ (.slice none 0 0)) (rowA 64 5 (.slice (some ⟨gl, 0, none⟩) st.l.length cl) st.l.length (cellsL (lj.set i ⟨⟨lj[i].c.buf, lj[i].c.on, lj[i].c.left, [], lj[i].c.done⟩, lj[i].von, .slice none 0 0⟩)) :: rowA 3 1 (.slice (some ⟨gv, 0, none⟩) out.length cv) out.length (ints out) :: blkA g #[.slice (some ⟨gl, 0, none⟩) st.l.length cl, .map (some bb), .int .i64 J.opn, .map (some nb)] 69 :: (gRest bb nb bs J.next (lj.map onA) ((lj.eraseIdx i).map toA) ++ F)) := by
                  have h4 := (ho.perm ((hg1.append_right F).cons _)).f1.tail
                  have h5 := h4.f2.setRow (i * 5 + 3) (.slice none 0 0)
                  rw [cellsL_set hil' (by omega) (.slice none 0 0) ⟨⟨lj[i].c.buf, lj[i].c.on, lj[i].c.left, [], lj[i].c.done⟩, lj[i].von, .slice none 0 0⟩ rfl] at h5
                  exact h5
                have HO1 := hide hO1
                clear hO1 h1 hlj hvt hvt' hrl hbk htj hvr ho hg1 hg2 hjt hjl
                go_wp2
                go_roundg (out.length - (k + 1))
                case measure => omega
                case rel => exact ⟨k + 1, by omega, rfl, by go_num, hide (HE.out _ HO1.out)⟩
          · have hke : out.take k = out := List.take_of_length_le (by omega)
            have hge2 : (out.length : Int) ≤ (k : Int) := by omega
            rw [hke] at HP
            clear hke
            go_wp2
            go_ret
            obtain ⟨ps', h1, h2⟩ := HP.out
            exact ⟨_, ps', rfl, by rw [HWG.out]; exact h1, h2⟩
end
end Go.Proofs.Ytjfejimghbohdaa
namespace Go.Proofs.Ytjfejimghbohdaa
set_option linter.unusedVariables false
set_option linter.unusedSimpArgs false
open Go.RowKit
theorem cells_none {B : Nat} {w : World} {cs : List Value} (h : Cells B w none cs) : cs = [] := by
  by_cases e : cs = []
  · exact e
  · obtain ⟨b, off, h, _⟩ := h e; cases h

theorem infoCl3 : (Try.prog.info? 3).map (fun i => (i.zero, i.size, i.bytes)) = some (some (.int .i64 0), 1, 8) := by kernel_rfl
set_option maxHeartbeats 1000000 in
theorem clone31_c (A : Option Addr) (n c : Nat) (cs : List Value) (w : World) (hl : cs.length = n * 1) (hA : Cells w.heap.size w A cs) (h1 : ∀ u ∈ cs, u.oneCell' = true) (hn : n * 8 ≤ 140737488355328) :
    Calls Try.prog 33 #[.slice A n c] w fun e w' => ∃ v, e = .returned v ∧ w'.ownsRow w.heap.size 3 1 v n cs ∧ Below w.heap.size w w' := by
  have hq := Lib.run_eql_slice_nil (P := Try.prog) w 23 3 A n c 0 0 Try.underlying23
  cases A with
  | none =>
    obtain rfl := cells_none hA
    have hn0 : n = 0 := by simp at hl; omega
    subst hn0
    clear hA h1 hl
    simp only [Option.isNone_none] at hq
    go_enter Try.func33, Try.ntmps33
    go_wp2
    go_ret
    exact ⟨_, rfl, World.ownsRow_nil _ _ _ _, Below.refl _ _⟩
  | some ad =>
    have H := hide (And.intro hA (And.intro h1 hl))
    clear hA h1 hl
    simp only [Option.isNone_some] at hq
    obtain ⟨i0, hi, hz0, hz1, hz2⟩ := info_parts infoCl3
    have ho0 : (w.alloc (.cells #[] 3)).ownsRow w.heap.size 3 1 (.slice (some ⟨w.heap.size, 0, none⟩) 0 0) 0 [] := World.ownsRow_lit (base := w.heap.size) (e := 3) (size := 1) w #[] 0 (Nat.le_refl _) (by unfold maxLen; omega) (by simp)
    have hs0 : (w.alloc (.cells #[] 3)).heap.size = w.heap.size + 1 := by simp
    go_enter Try.func33, Try.ntmps33
    go_wp2_with (at_builtin; go_must (refine wpList_append_src _ rfl _ _ 23 rfl w.heap.size 3 i0 (.int .i64 0) 1 8 Try.underlying23 hi hz0 hz1 hz2 rfl (by decide) _ 0 [] rfl ho0 w.heap.size (some ad) n c cs rfl H.out.2.2 (fun hne => by obtain ⟨b, off, e1, e2, e3⟩ := H.out.1 hne; exact ⟨b, off, e1, by omega, fun i u hu => ((Below.heap_cell_alloc w _ ⟨b, off + i, none⟩ e2).trans (e3 i u hu))⟩) H.out.2.1 (by unfold maxLen; omega) (by omega) (by omega) ?_); intro v' w1 hown hg hat; rw [Nat.zero_add, List.nil_append] at hown; have H2 := hide (And.intro hown hg); obtain ⟨A', c', rfl⟩ := own_slice hown; clear hown hg hat)
    go_ret
    exact ⟨_, rfl, H2.out.1, ((Below.refl _ w).alloc (Nat.le_refl _) _).grown H2.out.2 (by rw [hs0]; exact Nat.le_succ _) (fun k hk => Nat.le_of_eq (Option.some.inj hk))⟩

theorem infoCl60 : (Try.prog.info? 64).map (fun i => (i.zero, i.size, i.bytes)) = some (some (.agg #[.int .i64 0, .slice none 0 0, .int .i64 0, .slice none 0 0, .bool false]), 5, 72) := by kernel_rfl
set_option maxHeartbeats 1000000 in
theorem clone42_c (A : Option Addr) (n c : Nat) (cs : List Value) (w : World) (hl : cs.length = n * 5) (hA : Cells w.heap.size w A cs) (h1 : ∀ u ∈ cs, u.oneCell' = true) (hn : n * 72 ≤ 140737488355328) :
    Calls Try.prog 43 #[.slice A n c] w fun e w' => ∃ v, e = .returned v ∧ w'.ownsRow w.heap.size 64 5 v n cs ∧ Below w.heap.size w w' := by
  have hq := Lib.run_eql_slice_nil (P := Try.prog) w 65 64 A n c 0 0 Try.underlying65
  cases A with
  | none =>
    obtain rfl := cells_none hA
    have hn0 : n = 0 := by simp at hl; omega
    subst hn0
    clear hA h1 hl
    simp only [Option.isNone_none] at hq
    go_enter Try.func43, Try.ntmps43
    go_wp2
    go_ret
    exact ⟨_, rfl, World.ownsRow_nil _ _ _ _, Below.refl _ _⟩
  | some ad =>
    have H := hide (And.intro hA (And.intro h1 hl))
    clear hA h1 hl
    simp only [Option.isNone_some] at hq
    obtain ⟨i0, hi, hz0, hz1, hz2⟩ := info_parts infoCl60
    have ho0 : (w.alloc (.cells #[] 64)).ownsRow w.heap.size 64 5 (.slice (some ⟨w.heap.size, 0, none⟩) 0 0) 0 [] := World.ownsRow_lit (base := w.heap.size) (e := 64) (size := 5) w #[] 0 (Nat.le_refl _) (by unfold maxLen; omega) (by simp)
    have hs0 : (w.alloc (.cells #[] 64)).heap.size = w.heap.size + 1 := by simp
    go_enter Try.func43, Try.ntmps43
    go_wp2_with (at_builtin; go_must (refine wpList_append_src _ rfl _ _ 65 rfl w.heap.size 64 i0 (.agg #[.int .i64 0, .slice none 0 0, .int .i64 0, .slice none 0 0, .bool false]) 5 72 Try.underlying65 hi hz0 hz1 hz2 rfl (by decide) _ 0 [] rfl ho0 w.heap.size (some ad) n c cs rfl H.out.2.2 (fun hne => by obtain ⟨b, off, e1, e2, e3⟩ := H.out.1 hne; exact ⟨b, off, e1, by omega, fun i u hu => ((Below.heap_cell_alloc w _ ⟨b, off + i, none⟩ e2).trans (e3 i u hu))⟩) H.out.2.1 (by unfold maxLen; omega) (by omega) (by omega) ?_); intro v' w1 hown hg hat; rw [Nat.zero_add, List.nil_append] at hown; have H2 := hide (And.intro hown hg); obtain ⟨A', c', rfl⟩ := own_slice hown; clear hown hg hat)
    go_ret
    exact ⟨_, rfl, H2.out.1, ((Below.refl _ w).alloc (Nat.le_refl _) _).grown H2.out.2 (by rw [hs0]; exact Nat.le_succ _) (fun k hk => Nat.le_of_eq (Option.some.inj hk))⟩

end Go.Proofs.Ytjfejimghbohdaa
