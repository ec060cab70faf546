/-
  deps.Copy: its contract. Conditions: the graph's numbers are in their bounds.
  A graph and its copy, over the rows. No condition but that the rows are few.
  The contract of syncer.next: the least buffer that is needed and may be written. Conditions: the rows are few.
-/
import Derived.Test.YtjfejimghbohdaaMB9
import Derived.BigRegion
import Derived.Deep.RegionWith
import Derived.OwnWalk
namespace Go.Proofs.Ytjfejimghbohdaa
set_option linter.unusedVariables false
set_option linter.unusedSimpArgs false
open Go.RowKit Go.Maps

section
variable {n g : Nat} {w W : World} {F ps X : List Atom} {st : St}
theorem cell_setCell_far (V : World) {a b i j : Nat} (h : a ≠ b) (u : Value) : (V.setCell ⟨b, i, none⟩ u).cell? ⟨a, j, none⟩ = V.cell? ⟨a, j, none⟩ := by
  have := Below.heap_setCell V ⟨b, i, none⟩ u a h
  unfold World.cell?
  rw [this]
theorem row_slice_one {V : World} {v : Value} {l : List Int} (h : V.ownsRow 0 3 1 v l.length (ints l)) : v.oneCell' = true := by
  obtain ⟨A, c, rfl⟩ := own_slice h; rfl
theorem copy_end (S B N R C : Atom) (P Q Z G : List Atom) : (S :: B :: (Z ++ C :: R :: N :: ((P ++ Q) ++ G))).Perm ((C :: R :: B :: N :: (P ++ (Q ++ Z))) ++ (S :: G)) := by
  refine List.Perm.trans ?_ List.perm_middle.symm
  refine List.Perm.cons _ ?_
  have h1 : (Z ++ C :: R :: N :: ((P ++ Q) ++ G)).Perm (C :: R :: N :: (P ++ (Q ++ Z)) ++ G) := by
    have h : (Z ++ (C :: R :: N :: (P ++ Q)) ++ G).Perm ((C :: R :: N :: (P ++ Q)) ++ Z ++ G) := List.Perm.append_right G List.perm_append_comm
    simpa only [List.append_assoc, List.cons_append] using h
  refine List.Perm.trans (List.Perm.cons B h1) ?_
  exact List.Perm.trans (List.Perm.swap _ _ _) (List.Perm.cons _ (List.Perm.swap _ _ _))
set_option maxHeartbeats 16000000 in
set_option maxRecDepth 100000 in
theorem copy_c (hg : IsG g st ps) (hf : Fit st) (ho : Own n w W (ps ++ F)) :
    Calls Try.prog 30 #[.pointer (some ⟨g, 0, none⟩)] W fun e W' => ∃ cb ps', e = .returned (.pointer (some ⟨cb, 0, none⟩)) ∧ IsG cb st ps' ∧ Own n w W' (ps' ++ (ps ++ F)) := by
  obtain ⟨vl, l, sb, nb, bs, rfl, hl1, hl2, hl3⟩ := hg
  have hll : l.length = st.l.length := by rw [← hl1, List.length_map]
  have hlen := hf.len
  have hrow : W.ownsRow 0 64 5 vl l.length (cellsL l) := ho.hold (rowA 64 5 vl l.length (cellsL l)) (by simp [gParts])
  obtain ⟨Al, cl, rfl⟩ := own_slice hrow
  have hb : Blk W g #[.slice Al l.length cl, .map (some sb), .int .i64 st.opn, .map (some nb)] 69 := ho.hold (blkA g #[.slice Al l.length cl, .map (some sb), .int .i64 st.opn, .map (some nb)] 69) (by simp [gParts])
  have x0 : W.cell? ⟨g, 0, none⟩ = some (.slice Al l.length cl) := hb.cell 0
  have x2 : W.cell? ⟨g, 2, none⟩ = some (.int .i64 st.opn) := hb.cell 2
  have x3 : W.cell? ⟨g, 3, none⟩ = some (.map (some nb)) := hb.cell 3
  have hone : ∀ c ∈ l, c.von.oneCell' = true ∧ c.vto.oneCell' = true := fun c hc =>
    ⟨row_slice_one (ho.hold (onA c) (by simp only [gParts, List.mem_append, List.mem_cons, List.mem_map]; exact .inl (.inr (.inr (.inr (.inr (.inl ⟨c, hc, rfl⟩))))))),
     row_slice_one (ho.hold (toA c) (by simp only [gParts, List.mem_append, List.mem_cons, List.mem_map]; exact .inl (.inr (.inr (.inr (.inr (.inr (.inl ⟨c, hc, rfl⟩)))))))) ⟩
  have HCH := hide hf.chg
  obtain ⟨G, hG⟩ : ∃ G, G = gParts g (.slice Al l.length cl) l sb nb st.opn bs st.next ++ F := ⟨_, rfl⟩
  have mS : blkA g #[.slice Al l.length cl, .map (some sb), .int .i64 st.opn, .map (some nb)] 69 ∈ G := by rw [hG]; simp [gParts]
  have mA : rowA 64 5 (.slice Al l.length cl) l.length (cellsL l) ∈ G := by rw [hG]; simp [gParts]
  have mB : mpA nb (intF st.next) ∈ G := by rw [hG]; simp [gParts]
  have mOn : ∀ c ∈ l, onA c ∈ G := fun c hc => by rw [hG]; simp only [gParts, List.mem_append, List.mem_cons, List.mem_map]; exact .inl (.inr (.inr (.inr (.inr (.inl ⟨c, hc, rfl⟩)))))
  have mTo : ∀ c ∈ l, toA c ∈ G := fun c hc => by rw [hG]; simp only [gParts, List.mem_append, List.mem_cons, List.mem_map]; exact .inl (.inr (.inr (.inr (.inr (.inr (.inl ⟨c, hc, rfl⟩))))))
  rw [← hG] at ho ⊢
  have HS := hide (fun (V : World) (X : List Atom) (h : Own n w V X) (hm : blkA g #[.slice Al l.length cl, .map (some sb), .int .i64 st.opn, .map (some nb)] 69 ∈ X) => show V.cell? ⟨g, 0, none⟩ = some (.slice Al l.length cl) ∧ V.cell? ⟨g, 3, none⟩ = some (.map (some nb)) ∧ V.cell? ⟨g, 2, none⟩ = some (.int .i64 st.opn) from by
    have hb : Blk V g #[.slice Al l.length cl, .map (some sb), .int .i64 st.opn, .map (some nb)] 69 := h.hold _ hm
    exact ⟨hb.cell 0, hb.cell 3, hb.cell 2⟩)
  have HS1 := hide (fun (V : World) (X : List Atom) (h : Own n w V X) (hm : blkA g #[.slice Al l.length cl, .map (some sb), .int .i64 st.opn, .map (some nb)] 69 ∈ X) => show V.cell? ⟨g, 1, none⟩ = some (.map (some sb)) from by
    have hb : Blk V g #[.slice Al l.length cl, .map (some sb), .int .i64 st.opn, .map (some nb)] 69 := h.hold _ hm
    exact hb.cell 1)
  have HM := hide (And.intro mS (And.intro mA (And.intro mB (And.intro mOn mTo))))
  have HONE := hide hone
  have HL1 := hide hl1
  have HL2 := hide hl2
  have HL3 := hide hl3
  have HGE := hide hG
  have HFIT := hide hf
  have hl5 : l.length < 1099511627776 := by omega
  have HLEN := hide hl5
  have HO := hide ho
  have hmm := @run_makeMap Try.prog
  clear hone hl1 hl2 hl3 hG mS mA mB mOn mTo hf hll hlen hb hrow ho
  go_enter Try.func30, Try.ntmps30
  go_wp2
  go_cut [3] from 7 to 23 (fun v wx => ∃ cb vl' bb' nb', v = .pointer (some ⟨cb, 0, none⟩) ∧ Hid (CyP n w cb vl' bb' nb' st.opn st.next l G 0 wx))
  case first =>
    have hs0 : W.drew.cell? ⟨g, 0, none⟩ = some (.slice Al l.length cl) ∧ W.drew.cell? ⟨g, 3, none⟩ = some (.map (some nb)) ∧ W.drew.cell? ⟨g, 2, none⟩ = some (.int .i64 st.opn) := HS.out _ _ HO.out.drew HM.out.1
    have hs1 : (W.drew.alloc (.map #[] 0)).cell? ⟨g, 0, none⟩ = some (.slice Al l.length cl) ∧ (W.drew.alloc (.map #[] 0)).cell? ⟨g, 3, none⟩ = some (.map (some nb)) ∧ (W.drew.alloc (.map #[] 0)).cell? ⟨g, 2, none⟩ = some (.int .i64 st.opn) := HS.out _ _ (HO.out.drew.alloc _) HM.out.1
    go_region_held3 (fun V => V.cell? ⟨g, 0, none⟩ = some (.slice Al l.length cl) ∧ V.cell? ⟨g, 3, none⟩ = some (.map (some nb)) ∧ V.cell? ⟨g, 2, none⟩ = some (.int .i64 st.opn)) (first | assumption | exact hs0 | exact hs1 | exact HS.out _ _ (H2.out.alloc _) (by simp [HM.out.1]) | exact HS.out _ _ ((H2.out.alloc _).alloc _) (by simp [HM.out.1]) | exact HS.out _ _ (H1.out.alloc _) (by simp [HM.out.1])) (first
      | (go_at_call 43; (first | refine (own_clone42 HO.out.drew HM.out.2.1 HONE.out HLEN.out).mono ?_ | refine (own_clone42 (own_newmap HO.out.drew) (List.mem_cons_of_mem _ HM.out.2.1) HONE.out HLEN.out).mono ?_); rintro e W1 ⟨v1, rfl, h1⟩; obtain ⟨A1, c1, rfl⟩ := own_slice h1.row; have S1 := HS.out _ _ h1 (by simp [HM.out.1]); have H1 := hide h1; clear h1)
      | (go_at_call 44; (first | refine (own_clone43 H1.out (List.mem_cons_of_mem _ HM.out.2.2.1)).mono ?_ | refine (own_clone43 H1.out (List.mem_cons_of_mem _ (List.mem_cons_of_mem _ HM.out.2.2.1))).mono ?_ | refine (own_clone43 (own_newmap H1.out) (List.mem_cons_of_mem _ (List.mem_cons_of_mem _ HM.out.2.2.1))).mono ?_); rintro e W2 ⟨nb', rfl, h2⟩; have S2 := HS.out _ _ h2 (by simp [HM.out.1]); have H2 := hide h2; clear h2))
    all_goals
      go_wp2_with (fail)
      go_meet
      first
        | exact ⟨_, _, _, _, rfl, hide (CyP.start H2.out)⟩
        | exact ⟨_, _, _, _, rfl, hide (CyP.start (H2.out.perm (List.Perm.cons _ (List.Perm.swap _ _ _))))⟩
        | exact ⟨W2.heap.size + 1, _, _, _, rfl, hide (by have h := CyP.start (opn := st.opn) ((own_newmap H2.out).f1.perm (List.Perm.cons _ (List.Perm.swap _ _ _))); have e : (W2.alloc (.map #[] 0)).heap.size = W2.heap.size + 1 := (by simp); rw [e] at h; exact h)⟩
  case rest =>
    obtain ⟨cb, vl', bb', nb', rfl, HC⟩ := hcut
    clear x0 x2 x3 HS HO
    obtain ⟨A', c', rfl⟩ : ∃ A' c', vl' = .slice A' l.length c' := by
      obtain ⟨p, -, -, h⟩ := HC.out.ex
      exact own_slice (show wc.ownsRow 0 64 5 vl' l.length (cellsL (p ++ l.drop 0)) from h.tail.head)
    have z0 := HC.out.cell.1
    have hl5 := HLEN.out
    go_upto_region 3 with (fail)
    go_loopg [29] l.length (fun m i V => ∃ k : Nat, k ≤ l.length ∧ m = l.length - k ∧ i = .int .i64 k ∧ Hid (CyP n w cb (.slice A' l.length c') bb' nb' st.opn st.next l G k V))
    case atStart => exact ⟨0, by omega, by omega, rfl, HC⟩
    case round =>
      obtain ⟨k, hk, rfl, rfl, HP⟩ := hrel
      clear HC z0
      by_cases hlt : k < l.length
      · obtain ⟨gl, c2, e2, hne, d1, d3, f1, f3⟩ := HP.out.row hlt
        injection e2 with e2 _ e3
        subst e2
        subst e3
        obtain ⟨p, hp, hpc, ho⟩ := HP.out.ex
        have z0 := HP.out.cell.1
        have o1 : (k : Int) < (l.length : Int) := by omega
        have o2 : (0 : Int) ≤ (k : Int) := by omega
        have mem1 := HM.out.2.2.2.1 l[k] (List.getElem_mem hlt)
        have mem2 := HM.out.2.2.2.2 l[k] (List.getElem_mem hlt)
        have hch := HCH.out l[k].c (by rw [← HL1.out]; exact List.mem_map.2 ⟨_, List.getElem_mem hlt, rfl⟩)
        have HON := hide (show l[k].c.on.length < 1099511627776 from hch.2.1)
        have HTO := hide (show l[k].c.to.length < 1099511627776 from hch.2.2.1)
        obtain ⟨B, hB⟩ : ∃ B, B = blkA cb #[.slice (some ⟨gl, 0, none⟩) l.length c', .map (some bb'), .int .i64 st.opn, .map (some nb')] 69 := ⟨_, rfl⟩
        obtain ⟨R, hR⟩ : ∃ R, R = rowA 64 5 (.slice (some ⟨gl, 0, none⟩) l.length c') l.length (cellsL (p ++ l.drop k)) := ⟨_, rfl⟩
        rw [← hB, ← hR] at ho
        obtain ⟨Z, hZ⟩ : ∃ Z, Z = mpA bb' (locF []) :: mpA nb' (intF st.next) :: ((p.map onA ++ p.map toA) ++ G) := ⟨_, rfl⟩
        rw [← hZ] at ho
        have mZ1 : onA l[k] ∈ Z := by rw [hZ]; exact List.mem_cons_of_mem _ (List.mem_cons_of_mem _ (List.mem_append_right _ mem1))
        have mZ2 : toA l[k] ∈ Z := by rw [hZ]; exact List.mem_cons_of_mem _ (List.mem_cons_of_mem _ (List.mem_append_right _ mem2))
        have HMZ := hide (And.intro mZ1 mZ2)
        have HF := hide (fun (V : World) (Y : List Atom) (h : Own n w V (Y ++ B :: R :: Z)) => show (V.cell? ⟨cb, 0, none⟩ = some (.slice (some ⟨gl, 0, none⟩) l.length c')) ∧ (V.cell? ⟨gl, k * 5 + 1, none⟩ = some l[k].von) ∧ (V.cell? ⟨gl, k * 5 + 3, none⟩ = some l[k].vto) ∧ V.frozen? ⟨gl, k * 5 + 1, none⟩ = false ∧ V.frozen? ⟨gl, k * 5 + 3, none⟩ = false from by
          have h2 : CyP n w cb (.slice (some ⟨gl, 0, none⟩) l.length c') bb' nb' st.opn st.next l G k V := ⟨p, hp, hpc, by
            have := h.sub (List.sublist_append_right Y _)
            rw [hB, hR, hZ] at this
            exact this⟩
          obtain ⟨gl', c3, e4, -, a1, a2, a3, a4⟩ := h2.row hlt
          injection e4 with e4 _ _
          injection e4 with e4
          injection e4 with e4
          subst e4
          exact ⟨h2.cell.1, a1, a2, a3, a4⟩)
        have HST := hide (fun (V : World) (von vto : Value) (h : Own n w V (rowA 3 1 vto l[k].c.to.length (ints l[k].c.to) :: rowA 3 1 von l[k].c.on.length (ints l[k].c.on) :: B :: R :: Z)) => show CyP n w cb (.slice (some ⟨gl, 0, none⟩) l.length c') bb' nb' st.opn st.next l G (k + 1) ((V.setCell ⟨gl, k * 5 + 1, none⟩ von).setCell ⟨gl, k * 5 + 3, none⟩ vto) from by
          rw [hB, hR, hZ] at h
          exact CyP.step p hlt hp hpc h)
        have HO := hide ho
        have HKE := hide (fun (V : World) (u : Value) => show (V.setCell ⟨gl, k * 5 + 1, none⟩ u).cell? ⟨cb, 0, none⟩ = V.cell? ⟨cb, 0, none⟩ ∧ (V.setCell ⟨gl, k * 5 + 3, none⟩ u).cell? ⟨cb, 0, none⟩ = V.cell? ⟨cb, 0, none⟩ from
          ⟨cell_setCell_far V (Ne.symm hne) u, cell_setCell_far V (Ne.symm hne) u⟩)
        clear mem1 mem2 hch hp hpc ho hB hR hZ mZ1 mZ2 HP
        have hz1 := HF.out _ [] HO.out.drew
        go_upto_region 5 with (fail)
        refine wp_region_held_drew (S := fun V => V.cell? ⟨cb, 0, none⟩ = some (.slice (some ⟨gl, 0, none⟩) l.length c')) (by kernel_rfl) hz1.1 (fun hHeld => ?_)
        refine wpAnyH_take (i := 0) (v := ?v1) rfl (by kernel_rfl) (by kernel_rfl) (by kernel_rfl) (fun _ _ _ h => h) (Or.inl ⟨by rfl, ?h1⟩) (by assumption) ?r1
        case h1 => (intro w hSw; (try dsimp only at hSw); go_simp; first | done | with_reducible rfl)
        try simp only [Act.put, List.setIfInBounds_toArray, List.set_cons_zero, List.set_cons_succ]
        refine wpAnyH_take (i := 1) (v := ?v2) rfl (by kernel_rfl) (by kernel_rfl) (by kernel_rfl) (fun _ _ _ h => h) (Or.inl ⟨by rfl, ?h2⟩) (by assumption) ?r2
        case h2 => (intro w hSw; (try dsimp only at hSw); go_simp; first | done | with_reducible rfl)
        try simp only [Act.put, List.setIfInBounds_toArray, List.set_cons_zero, List.set_cons_succ]
        refine wpAnyH_take (i := 2) (v := ?v3) rfl (by kernel_rfl) (by kernel_rfl) (by kernel_rfl) (fun _ _ _ h => h) (Or.inl ⟨by rfl, ?h3⟩) (by assumption) ?r3
        case h3 => (intro w hSw; (try dsimp only at hSw); go_simp; first | done | with_reducible rfl)
        try simp only [Act.put, List.setIfInBounds_toArray, List.set_cons_zero, List.set_cons_succ]
        refine wpAnyH_take (i := 3) (v := ?v4) rfl (by kernel_rfl) (by kernel_rfl) (by kernel_rfl) (fun _ _ _ h => h) (Or.inl ⟨by rfl, ?h4⟩) (by assumption) ?r4
        case h4 => (intro w hSw; (try dsimp only at hSw); go_simp; first | done | with_reducible rfl)
        try simp only [Act.put, List.setIfInBounds_toArray, List.set_cons_zero, List.set_cons_succ]
        refine wpAnyH_take (i := 4) (v := ?v5) rfl (by kernel_rfl) (by kernel_rfl) (by kernel_rfl) (fun _ _ _ h => h) (Or.inl ⟨by rfl, ?h5⟩) (by assumption) ?r5
        case h5 => (intro w hSw; (try dsimp only at hSw); go_simp; first | done | with_reducible rfl)
        try simp only [Act.put, List.setIfInBounds_toArray, List.set_cons_zero, List.set_cons_succ]
        refine wpAnyH_take (i := 5) (v := ?v6) rfl (by kernel_rfl) (by kernel_rfl) (by kernel_rfl) (fun _ _ _ h => h) (Or.inl ⟨by rfl, ?h6⟩) (by assumption) ?r6
        case h6 => (intro w hSw; (try dsimp only at hSw); go_simp; first | done | with_reducible rfl)
        try simp only [Act.put, List.setIfInBounds_toArray, List.set_cons_zero, List.set_cons_succ]
        refine wpAnyH_take (i := 6) (v := ?v7) rfl (by kernel_rfl) (by kernel_rfl) (by kernel_rfl) (fun _ _ _ h => h) (Or.inl ⟨by rfl, ?h7⟩) (by assumption) ?r7
        case h7 => (intro w hSw; (try dsimp only at hSw); go_simp; first | done | with_reducible rfl)
        try simp only [Act.put, List.setIfInBounds_toArray, List.set_cons_zero, List.set_cons_succ]
        refine wpAnyH_take (i := 7) (v := ?v8) rfl (by kernel_rfl) (by kernel_rfl) (by kernel_rfl) (fun _ _ _ h => h) (Or.inl ⟨by rfl, ?h8⟩) (by assumption) ?r8
        case h8 => (intro w hSw; (try dsimp only at hSw); go_simp; first | done | with_reducible rfl)
        try simp only [Act.put, List.setIfInBounds_toArray, List.set_cons_zero, List.set_cons_succ]
        refine wpAnyH_take (i := 8) (v := ?v9) rfl (by kernel_rfl) (by kernel_rfl) (by kernel_rfl) (fun _ _ _ h => h) (Or.inl ⟨by rfl, ?h9⟩) (by assumption) ?r9
        case h9 => (intro w hSw; (try dsimp only at hSw); go_simp; first | done | with_reducible rfl)
        try simp only [Act.put, List.setIfInBounds_toArray, List.set_cons_zero, List.set_cons_succ]
        refine wpAnyH_take (i := 9) (v := ?v10) rfl (by kernel_rfl) (by kernel_rfl) (by kernel_rfl) (fun _ _ _ h => h) (Or.inl ⟨by rfl, ?h10⟩) (by assumption) ?r10
        case h10 => (intro w hSw; (try dsimp only at hSw); go_simp; first | done | with_reducible rfl)
        try simp only [Act.put, List.setIfInBounds_toArray, List.set_cons_zero, List.set_cons_succ]
        refine wpAnyH_take (i := 10) (v := ?v11) rfl (by kernel_rfl) (by kernel_rfl) (by kernel_rfl) (fun _ _ _ h => h) (Or.inl ⟨by rfl, ?h11⟩) (by assumption) ?r11
        case h11 => (intro w hSw; (try dsimp only at hSw); go_simp; first | done | with_reducible rfl)
        try simp only [Act.put, List.setIfInBounds_toArray, List.set_cons_zero, List.set_cons_succ]
        refine wpAnyH_take (i := 11) (v := ?v12) rfl (by kernel_rfl) (by kernel_rfl) (by kernel_rfl) (fun _ _ _ h => h) (Or.inl ⟨by rfl, ?h12⟩) (by assumption) ?r12
        case h12 => (intro w hSw; (try dsimp only at hSw); go_simp; first | done | with_reducible rfl)
        try simp only [Act.put, List.setIfInBounds_toArray, List.set_cons_zero, List.set_cons_succ]
        refine wpAnyH_take (i := 12) (v := ?v13) rfl (by kernel_rfl) (by kernel_rfl) (by kernel_rfl) (fun _ _ _ h => h) (Or.inl ⟨by rfl, ?h13⟩) (by assumption) ?r13
        case h13 => (intro w hSw; (try dsimp only at hSw); go_simp; first | done | with_reducible rfl)
        try simp only [Act.put, List.setIfInBounds_toArray, List.set_cons_zero, List.set_cons_succ]
        refine wpAnyH_take (i := 13) (v := ?v14) rfl (by kernel_rfl) (by kernel_rfl) (by kernel_rfl) (fun _ _ _ h => h) (Or.inl ⟨by rfl, ?h14⟩) (by assumption) ?r14
        case h14 => (intro w hSw; (try dsimp only at hSw); go_simp; first | done | with_reducible rfl)
        try simp only [Act.put, List.setIfInBounds_toArray, List.set_cons_zero, List.set_cons_succ]
        refine wpAnyH_take (i := 14) (v := ?v15) rfl (by kernel_rfl) (by kernel_rfl) (by kernel_rfl) (fun _ _ _ h => h) (Or.inl ⟨by rfl, ?h15⟩) (by assumption) ?r15
        case h15 => (intro w hSw; (try dsimp only at hSw); go_simp; first | done | with_reducible rfl)
        try simp only [Act.put, List.setIfInBounds_toArray, List.set_cons_zero, List.set_cons_succ]
        refine wpAnyH_take (i := 15) (v := ?v16) rfl (by kernel_rfl) (by kernel_rfl) (by kernel_rfl) (fun _ _ _ h => h) (Or.inl ⟨by rfl, ?h16⟩) (by assumption) ?r16
        case h16 => (intro w hSw; (try dsimp only at hSw); go_simp; first | done | with_reducible rfl)
        try simp only [Act.put, List.setIfInBounds_toArray, List.set_cons_zero, List.set_cons_succ]
        refine wpAnyH_take (i := 16) (v := ?v17) rfl (by kernel_rfl) (by kernel_rfl) (by kernel_rfl) (fun _ _ _ h => h) (Or.inl ⟨by rfl, ?h17⟩) (by assumption) ?r17
        case h17 => (intro w hSw; (try dsimp only at hSw); go_simp; first | done | with_reducible rfl)
        try simp only [Act.put, List.setIfInBounds_toArray, List.set_cons_zero, List.set_cons_succ]
        refine wpAnyH_take (i := 19) (v := ?v18) rfl (by kernel_rfl) (by kernel_rfl) (by kernel_rfl) (fun _ _ _ h => h) (Or.inl ⟨by rfl, ?h18⟩) (by assumption) ?r18
        case h18 => (intro w hSw; (try dsimp only at hSw); go_simp; first | done | with_reducible rfl)
        try simp only [Act.put, List.setIfInBounds_toArray, List.set_cons_zero, List.set_cons_succ]
        refine wpAnyH_take (i := 20) (v := ?v19) rfl (by kernel_rfl) (by kernel_rfl) (by kernel_rfl) (fun _ _ _ h => h) (Or.inl ⟨by rfl, ?h19⟩) (by assumption) ?r19
        case h19 => (intro w hSw; (try dsimp only at hSw); go_simp; first | done | with_reducible rfl)
        try simp only [Act.put, List.setIfInBounds_toArray, List.set_cons_zero, List.set_cons_succ]
        refine wpAnyH_take (i := 21) (v := ?v20) rfl (by kernel_rfl) (by kernel_rfl) (by kernel_rfl) (fun _ _ _ h => h) (Or.inl ⟨by rfl, ?h20⟩) (by assumption) ?r20
        case h20 => (intro w hSw; (try dsimp only at hSw); go_simp; first | done | with_reducible rfl)
        try simp only [Act.put, List.setIfInBounds_toArray, List.set_cons_zero, List.set_cons_succ]
        refine wpAnyH_take (i := 22) (v := ?v21) rfl (by kernel_rfl) (by kernel_rfl) (by kernel_rfl) (fun _ _ _ h => h) (Or.inl ⟨by rfl, ?h21⟩) (by assumption) ?r21
        case h21 => (intro w hSw; (try dsimp only at hSw); go_simp; first | done | with_reducible rfl)
        try simp only [Act.put, List.setIfInBounds_toArray, List.set_cons_zero, List.set_cons_succ]
        refine wpAnyH_take (i := 23) (v := ?v22) rfl (by kernel_rfl) (by kernel_rfl) (by kernel_rfl) (fun _ _ _ h => h) (Or.inl ⟨by rfl, ?h22⟩) (by assumption) ?r22
        case h22 => (intro w hSw; (try dsimp only at hSw); go_simp; first | done | with_reducible rfl)
        try simp only [Act.put, List.setIfInBounds_toArray, List.set_cons_zero, List.set_cons_succ]
        refine wpAnyH_take (i := 24) (v := ?v23) rfl (by kernel_rfl) (by kernel_rfl) (by kernel_rfl) (fun _ _ _ h => h) (Or.inl ⟨by rfl, ?h23⟩) (by assumption) ?r23
        case h23 => (intro w hSw; (try dsimp only at hSw); go_simp; first | done | with_reducible rfl)
        try simp only [Act.put, List.setIfInBounds_toArray, List.set_cons_zero, List.set_cons_succ]
        refine wpAnyH_take (i := 25) (v := ?v24) rfl (by kernel_rfl) (by kernel_rfl) (by kernel_rfl) (fun _ _ _ h => h) (Or.inl ⟨by rfl, ?h24⟩) (by assumption) ?r24
        case h24 => (intro w hSw; (try dsimp only at hSw); go_simp; first | done | with_reducible rfl)
        try simp only [Act.put, List.setIfInBounds_toArray, List.set_cons_zero, List.set_cons_succ]
        refine wpAnyH_ready (rs := [17, 26]) (by kernel_rfl) (by simp) ?_
        refine AllReadyH.cons rfl (fun K hK => ?_) ?_
        · go_simp
          refine hK.out _ _ ?_ (fun hHeld => ?_)
          · exact hz1.1
          clear hK K
          try simp only [Act.put, List.setIfInBounds_toArray, List.set_cons_zero, List.set_cons_succ]
          refine wpAnyH_ready (rs := [18, 26]) (by kernel_rfl) (by simp) ?_
          refine AllReadyH.cons rfl (fun K hK => ?_) ?_
          · go_simp
            go_at_call 33
            refine (own_clone31 (on := l[k].c.on) HO.out.drew (List.mem_cons_of_mem _ (List.mem_cons_of_mem _ HMZ.out.1)) HON.out).mono ?_
            rintro e W1 ⟨v1, rfl, h1⟩
            obtain ⟨A1, c1, rfl⟩ := own_slice h1.row
            obtain ⟨p0, p1, p3, p4, p5⟩ := HF.out _ [_] h1
            have H1 := hide h1
            clear h1
            go_wp2_with fail
            refine hK.out _ _ ?_ (fun hHeld => ?_)
            · exact p0
            clear hK K
            try simp only [Act.put, List.setIfInBounds_toArray, List.set_cons_zero, List.set_cons_succ]
            refine wpAnyH_ready (rs := [26]) (by kernel_rfl) (by simp) ?_
            refine AllReadyH.cons rfl (fun K hK => ?_) ?_
            · go_simp
              refine hK.out _ _ ?_ (fun hHeld => ?_)
              · exact p0
              clear hK K
              try simp only [Act.put, List.setIfInBounds_toArray, List.set_cons_zero, List.set_cons_succ]
              refine wpAnyH_ready (rs := [27]) (by kernel_rfl) (by simp) ?_
              refine AllReadyH.cons rfl (fun K hK => ?_) ?_
              · go_simp
                go_at_call 33
                refine (own_clone31 (on := l[k].c.to) H1.out (List.mem_cons_of_mem _ (List.mem_cons_of_mem _ (List.mem_cons_of_mem _ HMZ.out.2))) HTO.out).mono ?_
                rintro e W2 ⟨v2, rfl, h2⟩
                obtain ⟨A2, c2, rfl⟩ := own_slice h2.row
                obtain ⟨q0, q1, q3, q4, q5⟩ := HF.out _ [_, _] h2
                have H2 := hide h2
                clear h2
                go_wp2_with fail
                refine hK.out _ _ ?_ (fun hHeld => ?_)
                · exact q0
                clear hK K
                try simp only [Act.put, List.setIfInBounds_toArray, List.set_cons_zero, List.set_cons_succ]
                refine wpAnyH_take (i := 28) (v := ?v25) rfl (by kernel_rfl) (by kernel_rfl) (by kernel_rfl) (fun _ _ _ h => h) (Or.inl ⟨by rfl, ?h25⟩) (by assumption) ?r25
                case h25 => (intro w hSw; (try dsimp only at hSw); go_simp; first | done | with_reducible rfl)
                try simp only [Act.put, List.setIfInBounds_toArray, List.set_cons_zero, List.set_cons_succ]
                refine wpAnyH_take (i := 29) (v := ?v26) rfl (by kernel_rfl) (by kernel_rfl) (by kernel_rfl) (fun _ _ _ h => h) (Or.inl ⟨by rfl, ?h26⟩) (by assumption) ?r26
                case h26 => (intro w hSw; (try dsimp only at hSw); go_simp; first | done | with_reducible rfl)
                try simp only [Act.put, List.setIfInBounds_toArray, List.set_cons_zero, List.set_cons_succ]
                refine wpAnyH_ready (rs := [30]) (by kernel_rfl) (by simp) ?_
                refine AllReadyH.cons rfl (fun K hK => ?_) ?_
                · go_simp
                  refine hK.out _ _ ?_ (fun hHeld => ?_)
                  · exact (HKE.out _ _).1.trans q0
                  clear hK K
                  try simp only [Act.put, List.setIfInBounds_toArray, List.set_cons_zero, List.set_cons_succ]
                  refine wpAnyH_take (i := 31) (v := ?v27) rfl (by kernel_rfl) (by kernel_rfl) (by kernel_rfl) (fun _ _ _ h => h) (Or.inl ⟨by rfl, ?h27⟩) (by assumption) ?r27
                  case h27 => (intro w hSw; (try dsimp only at hSw); go_simp; first | done | with_reducible rfl)
                  try simp only [Act.put, List.setIfInBounds_toArray, List.set_cons_zero, List.set_cons_succ]
                  refine wpAnyH_take (i := 32) (v := ?v28) rfl (by kernel_rfl) (by kernel_rfl) (by kernel_rfl) (fun _ _ _ h => h) (Or.inl ⟨by rfl, ?h28⟩) (by assumption) ?r28
                  case h28 => (intro w hSw; (try dsimp only at hSw); go_simp; first | done | with_reducible rfl)
                  try simp only [Act.put, List.setIfInBounds_toArray, List.set_cons_zero, List.set_cons_succ]
                  refine wpAnyH_ready (rs := [33]) (by kernel_rfl) (by simp) ?_
                  refine AllReadyH.cons rfl (fun K hK => ?_) ?_
                  · go_simp
                    refine hK.out _ _ ?_ (fun hHeld => ?_)
                    · exact ((HKE.out _ _).2.trans (HKE.out _ _).1).trans q0
                    clear hK K
                    try simp only [Act.put, List.setIfInBounds_toArray, List.set_cons_zero, List.set_cons_succ]
                    refine wpAnyH_done (by kernel_rfl) ?_ _
                    have HE := hide (HST.out W2 _ _ H2.out)
                    clear p0 p1 p3 p4 p5 q0 q1 q3 q4 q5 z0 d1 d3 f1 f3
                    generalize (W2.setCell ⟨gl, k * 5 + 1, none⟩ (.slice A1 l[k].c.on.length c1)).setCell ⟨gl, k * 5 + 3, none⟩ (.slice A2 l[k].c.to.length c2) = W9 at HE ⊢
                    go_wp2
                    go_roundg (l.length - (k + 1))
                    case measure => omega
                    case rel => exact ⟨k + 1, by omega, by omega, by go_num, HE⟩
                  exact AllReadyH.nil
                exact AllReadyH.nil
              exact AllReadyH.nil
            exact AllReadyH.nil
          refine AllReadyH.cons rfl (fun K hK => ?_) ?_
          · go_simp
            refine hK.out _ _ ?_ (fun hHeld => ?_)
            · exact hz1.1
            clear hK K
            try simp only [Act.put, List.setIfInBounds_toArray, List.set_cons_zero, List.set_cons_succ]
            refine wpAnyH_ready (rs := [18]) (by kernel_rfl) (by simp) ?_
            refine AllReadyH.cons rfl (fun K hK => ?_) ?_
            · go_simp
              go_at_call 33
              refine (own_clone31 (on := l[k].c.on) HO.out.drew (List.mem_cons_of_mem _ (List.mem_cons_of_mem _ HMZ.out.1)) HON.out).mono ?_
              rintro e W1 ⟨v1, rfl, h1⟩
              obtain ⟨A1, c1, rfl⟩ := own_slice h1.row
              obtain ⟨p0, p1, p3, p4, p5⟩ := HF.out _ [_] h1
              have H1 := hide h1
              clear h1
              go_wp2_with fail
              refine hK.out _ _ ?_ (fun hHeld => ?_)
              · exact p0
              clear hK K
              try simp only [Act.put, List.setIfInBounds_toArray, List.set_cons_zero, List.set_cons_succ]
              refine wpAnyH_ready (rs := [27]) (by kernel_rfl) (by simp) ?_
              refine AllReadyH.cons rfl (fun K hK => ?_) ?_
              · go_simp
                go_at_call 33
                refine (own_clone31 (on := l[k].c.to) H1.out (List.mem_cons_of_mem _ (List.mem_cons_of_mem _ (List.mem_cons_of_mem _ HMZ.out.2))) HTO.out).mono ?_
                rintro e W2 ⟨v2, rfl, h2⟩
                obtain ⟨A2, c2, rfl⟩ := own_slice h2.row
                obtain ⟨q0, q1, q3, q4, q5⟩ := HF.out _ [_, _] h2
                have H2 := hide h2
                clear h2
                go_wp2_with fail
                refine hK.out _ _ ?_ (fun hHeld => ?_)
                · exact q0
                clear hK K
                try simp only [Act.put, List.setIfInBounds_toArray, List.set_cons_zero, List.set_cons_succ]
                refine wpAnyH_take (i := 28) (v := ?v29) rfl (by kernel_rfl) (by kernel_rfl) (by kernel_rfl) (fun _ _ _ h => h) (Or.inl ⟨by rfl, ?h29⟩) (by assumption) ?r29
                case h29 => (intro w hSw; (try dsimp only at hSw); go_simp; first | done | with_reducible rfl)
                try simp only [Act.put, List.setIfInBounds_toArray, List.set_cons_zero, List.set_cons_succ]
                refine wpAnyH_take (i := 29) (v := ?v30) rfl (by kernel_rfl) (by kernel_rfl) (by kernel_rfl) (fun _ _ _ h => h) (Or.inl ⟨by rfl, ?h30⟩) (by assumption) ?r30
                case h30 => (intro w hSw; (try dsimp only at hSw); go_simp; first | done | with_reducible rfl)
                try simp only [Act.put, List.setIfInBounds_toArray, List.set_cons_zero, List.set_cons_succ]
                refine wpAnyH_ready (rs := [30]) (by kernel_rfl) (by simp) ?_
                refine AllReadyH.cons rfl (fun K hK => ?_) ?_
                · go_simp
                  refine hK.out _ _ ?_ (fun hHeld => ?_)
                  · exact (HKE.out _ _).1.trans q0
                  clear hK K
                  try simp only [Act.put, List.setIfInBounds_toArray, List.set_cons_zero, List.set_cons_succ]
                  refine wpAnyH_take (i := 31) (v := ?v31) rfl (by kernel_rfl) (by kernel_rfl) (by kernel_rfl) (fun _ _ _ h => h) (Or.inl ⟨by rfl, ?h31⟩) (by assumption) ?r31
                  case h31 => (intro w hSw; (try dsimp only at hSw); go_simp; first | done | with_reducible rfl)
                  try simp only [Act.put, List.setIfInBounds_toArray, List.set_cons_zero, List.set_cons_succ]
                  refine wpAnyH_take (i := 32) (v := ?v32) rfl (by kernel_rfl) (by kernel_rfl) (by kernel_rfl) (fun _ _ _ h => h) (Or.inl ⟨by rfl, ?h32⟩) (by assumption) ?r32
                  case h32 => (intro w hSw; (try dsimp only at hSw); go_simp; first | done | with_reducible rfl)
                  try simp only [Act.put, List.setIfInBounds_toArray, List.set_cons_zero, List.set_cons_succ]
                  refine wpAnyH_ready (rs := [33]) (by kernel_rfl) (by simp) ?_
                  refine AllReadyH.cons rfl (fun K hK => ?_) ?_
                  · go_simp
                    refine hK.out _ _ ?_ (fun hHeld => ?_)
                    · exact ((HKE.out _ _).2.trans (HKE.out _ _).1).trans q0
                    clear hK K
                    try simp only [Act.put, List.setIfInBounds_toArray, List.set_cons_zero, List.set_cons_succ]
                    refine wpAnyH_done (by kernel_rfl) ?_ _
                    have HE := hide (HST.out W2 _ _ H2.out)
                    clear p0 p1 p3 p4 p5 q0 q1 q3 q4 q5 z0 d1 d3 f1 f3
                    generalize (W2.setCell ⟨gl, k * 5 + 1, none⟩ (.slice A1 l[k].c.on.length c1)).setCell ⟨gl, k * 5 + 3, none⟩ (.slice A2 l[k].c.to.length c2) = W9 at HE ⊢
                    go_wp2
                    go_roundg (l.length - (k + 1))
                    case measure => omega
                    case rel => exact ⟨k + 1, by omega, by omega, by go_num, HE⟩
                  exact AllReadyH.nil
                exact AllReadyH.nil
              exact AllReadyH.nil
            exact AllReadyH.nil
          exact AllReadyH.nil
        refine AllReadyH.cons rfl (fun K hK => ?_) ?_
        · go_simp
          refine hK.out _ _ ?_ (fun hHeld => ?_)
          · exact hz1.1
          clear hK K
          try simp only [Act.put, List.setIfInBounds_toArray, List.set_cons_zero, List.set_cons_succ]
          refine wpAnyH_ready (rs := [17]) (by kernel_rfl) (by simp) ?_
          refine AllReadyH.cons rfl (fun K hK => ?_) ?_
          · go_simp
            refine hK.out _ _ ?_ (fun hHeld => ?_)
            · exact hz1.1
            clear hK K
            try simp only [Act.put, List.setIfInBounds_toArray, List.set_cons_zero, List.set_cons_succ]
            refine wpAnyH_ready (rs := [18]) (by kernel_rfl) (by simp) ?_
            refine AllReadyH.cons rfl (fun K hK => ?_) ?_
            · go_simp
              go_at_call 33
              refine (own_clone31 (on := l[k].c.on) HO.out.drew (List.mem_cons_of_mem _ (List.mem_cons_of_mem _ HMZ.out.1)) HON.out).mono ?_
              rintro e W1 ⟨v1, rfl, h1⟩
              obtain ⟨A1, c1, rfl⟩ := own_slice h1.row
              obtain ⟨p0, p1, p3, p4, p5⟩ := HF.out _ [_] h1
              have H1 := hide h1
              clear h1
              go_wp2_with fail
              refine hK.out _ _ ?_ (fun hHeld => ?_)
              · exact p0
              clear hK K
              try simp only [Act.put, List.setIfInBounds_toArray, List.set_cons_zero, List.set_cons_succ]
              refine wpAnyH_ready (rs := [27]) (by kernel_rfl) (by simp) ?_
              refine AllReadyH.cons rfl (fun K hK => ?_) ?_
              · go_simp
                go_at_call 33
                refine (own_clone31 (on := l[k].c.to) H1.out (List.mem_cons_of_mem _ (List.mem_cons_of_mem _ (List.mem_cons_of_mem _ HMZ.out.2))) HTO.out).mono ?_
                rintro e W2 ⟨v2, rfl, h2⟩
                obtain ⟨A2, c2, rfl⟩ := own_slice h2.row
                obtain ⟨q0, q1, q3, q4, q5⟩ := HF.out _ [_, _] h2
                have H2 := hide h2
                clear h2
                go_wp2_with fail
                refine hK.out _ _ ?_ (fun hHeld => ?_)
                · exact q0
                clear hK K
                try simp only [Act.put, List.setIfInBounds_toArray, List.set_cons_zero, List.set_cons_succ]
                refine wpAnyH_take (i := 28) (v := ?v33) rfl (by kernel_rfl) (by kernel_rfl) (by kernel_rfl) (fun _ _ _ h => h) (Or.inl ⟨by rfl, ?h33⟩) (by assumption) ?r33
                case h33 => (intro w hSw; (try dsimp only at hSw); go_simp; first | done | with_reducible rfl)
                try simp only [Act.put, List.setIfInBounds_toArray, List.set_cons_zero, List.set_cons_succ]
                refine wpAnyH_take (i := 29) (v := ?v34) rfl (by kernel_rfl) (by kernel_rfl) (by kernel_rfl) (fun _ _ _ h => h) (Or.inl ⟨by rfl, ?h34⟩) (by assumption) ?r34
                case h34 => (intro w hSw; (try dsimp only at hSw); go_simp; first | done | with_reducible rfl)
                try simp only [Act.put, List.setIfInBounds_toArray, List.set_cons_zero, List.set_cons_succ]
                refine wpAnyH_ready (rs := [30]) (by kernel_rfl) (by simp) ?_
                refine AllReadyH.cons rfl (fun K hK => ?_) ?_
                · go_simp
                  refine hK.out _ _ ?_ (fun hHeld => ?_)
                  · exact (HKE.out _ _).1.trans q0
                  clear hK K
                  try simp only [Act.put, List.setIfInBounds_toArray, List.set_cons_zero, List.set_cons_succ]
                  refine wpAnyH_take (i := 31) (v := ?v35) rfl (by kernel_rfl) (by kernel_rfl) (by kernel_rfl) (fun _ _ _ h => h) (Or.inl ⟨by rfl, ?h35⟩) (by assumption) ?r35
                  case h35 => (intro w hSw; (try dsimp only at hSw); go_simp; first | done | with_reducible rfl)
                  try simp only [Act.put, List.setIfInBounds_toArray, List.set_cons_zero, List.set_cons_succ]
                  refine wpAnyH_take (i := 32) (v := ?v36) rfl (by kernel_rfl) (by kernel_rfl) (by kernel_rfl) (fun _ _ _ h => h) (Or.inl ⟨by rfl, ?h36⟩) (by assumption) ?r36
                  case h36 => (intro w hSw; (try dsimp only at hSw); go_simp; first | done | with_reducible rfl)
                  try simp only [Act.put, List.setIfInBounds_toArray, List.set_cons_zero, List.set_cons_succ]
                  refine wpAnyH_ready (rs := [33]) (by kernel_rfl) (by simp) ?_
                  refine AllReadyH.cons rfl (fun K hK => ?_) ?_
                  · go_simp
                    refine hK.out _ _ ?_ (fun hHeld => ?_)
                    · exact ((HKE.out _ _).2.trans (HKE.out _ _).1).trans q0
                    clear hK K
                    try simp only [Act.put, List.setIfInBounds_toArray, List.set_cons_zero, List.set_cons_succ]
                    refine wpAnyH_done (by kernel_rfl) ?_ _
                    have HE := hide (HST.out W2 _ _ H2.out)
                    clear p0 p1 p3 p4 p5 q0 q1 q3 q4 q5 z0 d1 d3 f1 f3
                    generalize (W2.setCell ⟨gl, k * 5 + 1, none⟩ (.slice A1 l[k].c.on.length c1)).setCell ⟨gl, k * 5 + 3, none⟩ (.slice A2 l[k].c.to.length c2) = W9 at HE ⊢
                    go_wp2
                    go_roundg (l.length - (k + 1))
                    case measure => omega
                    case rel => exact ⟨k + 1, by omega, by omega, by go_num, HE⟩
                  exact AllReadyH.nil
                exact AllReadyH.nil
              exact AllReadyH.nil
            exact AllReadyH.nil
          exact AllReadyH.nil
        exact AllReadyH.nil
      · obtain rfl : k = l.length := by omega
        have o3 : ¬ (l.length : Int) < (l.length : Int) := by omega
        obtain ⟨p, hp, hpc, ho⟩ := HP.out.ex
        rw [List.take_length] at hpc
        rw [List.drop_length, List.append_nil] at ho
        have hpl : p.length = l.length := hp
        obtain ⟨G', hG'⟩ : ∃ G', G' = blkA g #[.slice Al l.length cl, .map (some sb), .int .i64 st.opn, .map (some nb)] 69 :: rowA 64 5 (.slice Al l.length cl) l.length (cellsL l) :: mpA nb (intF st.next) :: (l.map onA ++ (l.map toA ++ bs.map Bs.a)) ++ F := ⟨_, rfl⟩
        have hperm : G.Perm (mpA sb (locF bs) :: G') := by rw [HGE.out, hG']; exact gParts_sets g (.slice Al l.length cl) l sb nb st.opn bs st.next F
        obtain ⟨Y, hY⟩ : ∃ Y, Y = blkA cb #[.slice A' l.length c', .map (some bb'), .int .i64 st.opn, .map (some nb')] 69 :: rowA 64 5 (.slice A' l.length c') l.length (cellsL p) :: mpA nb' (intF st.next) :: ((p.map onA ++ p.map toA) ++ G') := ⟨_, rfl⟩
        have ho2 : Own n w wr (mpA sb (locF bs) :: mpA bb' (locF []) :: Y) := by
          refine ho.perm ?_
          rw [hY]
          refine List.Perm.trans (List.Perm.append_left (blkA cb #[.slice A' l.length c', .map (some bb'), .int .i64 st.opn, .map (some nb')] 69 :: rowA 64 5 (.slice A' l.length c') l.length (cellsL p) :: mpA bb' (locF []) :: mpA nb' (intF st.next) :: (p.map onA ++ p.map toA)) hperm) ?_
          refine List.Perm.trans List.perm_middle (List.Perm.cons _ ?_)
          exact List.perm_middle (l₁ := [blkA cb #[.slice A' l.length c', .map (some bb'), .int .i64 st.opn, .map (some nb')] 69, rowA 64 5 (.slice A' l.length c') l.length (cellsL p)])
        have mY : blkA g #[.slice Al l.length cl, .map (some sb), .int .i64 st.opn, .map (some nb)] 69 ∈ Y := by rw [hY, hG']; simp
        have mYc : blkA cb #[.slice A' l.length c', .map (some bb'), .int .i64 st.opn, .map (some nb')] 69 ∈ Y := by rw [hY]; simp
        have mYs : ∀ b0 ∈ bs, Bs.a b0 ∈ Y := fun b0 hb0 => by
          rw [hY, hG']
          simp only [List.mem_cons, List.mem_append, List.mem_map]
          exact .inr (.inr (.inr (.inr (.inl (.inr (.inr (.inr (.inr (.inr ⟨b0, hb0, rfl⟩)))))))))
        have x1 : wr.cell? ⟨g, 1, none⟩ = some (.map (some sb)) := HS1.out _ _ ho2 (List.mem_cons_of_mem _ (List.mem_cons_of_mem _ mY))
        obtain ⟨sz, hsz⟩ : ∃ s, OwnV Try.prog 3 wr sb (locF bs) s := ho2.head
        have HY := hide hY
        have HPC := hide hpc
        have HPL := hide hpl
        have HMY := hide (And.intro mYc mYs)
        have HPE := hide hperm
        have HO2 := hide ho2
        have HSZ := hide hsz
        clear ho ho2 hpc hpl hp hperm hY hG' mY mYc mYs hsz HP
        go_upto_region 8 with (at_range; refine wpList_rangeV rfl _ 66 rfl 3 _ Try.underlying3 Try.underlying66 sb sz (locF bs) rfl HSZ.out ?_; intro W1 cnt1 hr1 hg1 hs1; have HC := hide (CzP.start HO2.out hr1 hg1); clear hr1 hg1 hs1)
        generalize wr.heap.size = it at HC ⊢
        clear x1 HO2 HSZ o3
        go_loopg [5] cnt1 (fun m v V => ∃ left : Int → Bool, Hid (CzP n w bb' sb it bs Y left m V))
        case atStart => exact ⟨_, HC⟩
        case round =>
          obtain ⟨left, HZ⟩ := hrel
          clear HC
          obtain ⟨bs', om, oi, hR, hom, hoi, hset, hnd, ho⟩ := HZ.out.ex
          have HR := hide hR
          have HST := hide (And.intro hset hnd)
          have HO := hide ho
          clear hR hom hoi hset hnd ho
          go_wp2_with (at_next; refine wpList_nextV rfl _ rfl 3 Try.underlying3 sb it (locF bs) left gk rfl HR.out (fun HDN => ?_) (fun x v W2 cnt2 HB hen => ?_))
          · go_ret
            obtain ⟨bs2, e1, e2, e3⟩ := HZ.out.done HDN.out
            refine ⟨cb, gParts cb (.slice A' l.length c') p bb' nb' st.opn bs2 st.next, rfl, ⟨.slice A' l.length c', p, bb', nb', bs2, rfl, ?_, ?_, e2⟩, ?_⟩
            · rw [HPC.out]; exact HL1.out
            · intro x; rw [HL2.out x]; exact (e1 x).symm
            · refine e3.perm ?_
              rw [HY.out]
              unfold gParts
              rw [HPL.out]
              refine List.Perm.trans ?_ (List.Perm.append_left _ HPE.out.symm)
              exact copy_end _ _ _ _ _ _ _ _ _
          · obtain ⟨hwf, hlx, hfx, hrg, hlt, hgr, hsz⟩ := HB.out
            obtain ⟨b0, hb0, rfl⟩ : ∃ b0, bsAt bs x = some b0 ∧ v = .map (some b0.loc) := by
              have : (bsAt bs x).map (fun b => Value.map (some b.loc)) = some v := hfx
              obtain ⟨b0, h1, h2⟩ := Option.map_eq_some_iff.1 this
              exact ⟨b0, h1, h2.symm⟩
            obtain ⟨oi2, ho2⟩ := CzP.next HO.out hrg hgr
            have mb0 : Bs.a b0 ∈ Y := HMY.out.2 b0 (bsAt_mem hb0).1
            have HSB := hide (fun (V : World) (X : List Atom) (h : Own n w V X) (hm : blkA cb #[.slice A' l.length c', .map (some bb'), .int .i64 st.opn, .map (some nb')] 69 ∈ X) => show V.cell? ⟨cb, 1, none⟩ = some (.map (some bb')) from by
              have hb : Blk V cb #[.slice A' l.length c', .map (some bb'), .int .i64 st.opn, .map (some nb')] 69 := h.hold _ hm
              exact hb.cell 1)
            have HM3 := hide (show ∀ (a b c : Atom) (L : List Atom), blkA cb #[.slice A' l.length c', .map (some bb'), .int .i64 st.opn, .map (some nb')] 69 ∈ a :: b :: c :: (L ++ Y) from fun a b c L => by simp [HMY.out.1])
            have HM4 := hide (show ∀ (a b c d : Atom) (L : List Atom), blkA cb #[.slice A' l.length c', .map (some bb'), .int .i64 st.opn, .map (some nb')] 69 ∈ a :: b :: c :: d :: (L ++ Y) from fun a b c d L => by simp [HMY.out.1])
            have HM5 := hide (show ∀ (a b c : Atom) (L : List Atom), Bs.a b0 ∈ a :: b :: c :: (L ++ Y) from fun a b c L => by simp [mb0])
            have z1 : W2.drew.cell? ⟨cb, 1, none⟩ = some (.map (some bb')) := HSB.out _ _ ho2.drew (HM3.out _ _ _ _)
            have HUP := hide (fun (V : World) (lb : Nat) (h : Own n w V (mpA lb (setF b0.set) :: objA it oi2 :: objA sb om :: mpA bb' (locF bs') :: (bs'.map Bs.a ++ Y))) => CzP.put (m := st.l.map Chg.buf) h (fun y hy => by
              rw [locF_isSome] at hy
              have h1 := HST.out.1 y
              obtain ⟨b1, hb1⟩ := Option.isSome_iff_exists.1 hy
              rw [hb1] at h1
              have h2 : ((bsAt bs y).map Bs.set).isSome = true := by
                cases hl : left y with
                | true => rw [hl] at h1; cases h1
                | false => rw [hl] at h1; rw [← (show _ = (bsAt bs y).map Bs.set from h1)]; rfl
              rw [← HL2.out y] at h2
              obtain ⟨c, hc, hcb⟩ := HFIT.out.bufsIn y h2
              exact List.mem_map.2 ⟨c, hc, hcb⟩) (by rw [List.length_map]; exact HFIT.out.len) x hwf)
            have HO2 := hide ho2
            have HB0 := hide hb0
            clear hwf hlx hfx hrg hlt hgr hsz hb0 ho2 mb0
            go_region_held3 (fun V => V.cell? ⟨cb, 1, none⟩ = some (.map (some bb'))) (first | assumption | exact z1) (first
              | (go_at_call 45; refine (own_clone44 (f := setF b0.set) HO2.out.drew (HM5.out _ _ _ _)).mono ?_; rintro e W3 ⟨lb, rfl, h3⟩; have z3 := HSB.out _ _ h3 (HM4.out _ _ _ _ _); obtain ⟨W4, hrun, h4⟩ := HUP.out W3 lb h3; have z4 := HSB.out _ _ h4 (HM4.out _ _ _ _ _); have H4 := hide h4; clear h3 h4))
            go_wp2
            go_roundg cnt2
            case measure => exact HB.out.2.2.2.2.1
            case rel => exact ⟨_, hide (CzP.step HB.out.2.2.2.1 (HO2.out.hold (objA sb om) (by simp)) (HO2.out.hold (objA it oi2) (by simp)) HST.out.1 HST.out.2 HB.out.2.1 HB0.out H4.out)⟩
end
end Go.Proofs.Ytjfejimghbohdaa
namespace Go.Proofs.Ytjfejimghbohdaa
set_option linter.unusedVariables false
set_option linter.unusedSimpArgs false
open Go.RowKit Go.Maps

/-- one own graph, whatever else there is -/
def OneP (n : Nat) (w : World) (g : Nat) (r : List Rc) (X : List Atom) (W : World) : Prop := ∃ pg, Gr g r pg ∧ Own n w W (pg ++ X)
section
variable {n g b : Nat} {w W : World} {F X ps : List Atom} {r : List Rc}
theorem gcopy_c (hg : Gr g r ps) (ho : Own n w W (ps ++ F)) : Calls Try.prog 30 #[.pointer (some ⟨g, 0, none⟩)] W fun e W' => ∃ c ps', e = .returned (.pointer (some ⟨c, 0, none⟩)) ∧ Gr c r ps' ∧ Own n w W' (ps' ++ (ps ++ F)) := by
  refine (copy_c hg.is hg.fit ho).mono ?_
  rintro e W' ⟨c, ps', he, hg', ho'⟩
  exact ⟨c, ps', he, ⟨hg', hg.wf, hg.buf, hg.len, hg.tot⟩, ho'⟩
theorem OneP.below (h : OneP n w g r X W) : Below n w W := by obtain ⟨pg, hg, ho⟩ := h; exact ho.below
theorem OneP.drew (h : OneP n w g r X W) : OneP n w g r X W.drew := by obtain ⟨pg, hg, ho⟩ := h; exact ⟨pg, hg, ho.drew⟩
theorem OneP.left (h : OneP n w g r X W) : Calls Try.prog 20 #[.pointer (some ⟨g, 0, none⟩)] W fun e W' => e = .returned (.int .i64 (leftR r : Int)) ∧ W = W' := by
  obtain ⟨pg, hg, ho⟩ := h
  exact gleft_c hg ho
theorem OneP.add (h : OneP n w g r X W) (buf : Int) (hb : I64 buf) (A : Option Addr) (c : Nat) (on : List Int) (hl : r.length + 1 < 274877906944) (ht : tot r + on.length < 274877906944) (hr : Reads n w X A on) :
    Calls Try.prog 16 #[.pointer (some ⟨g, 0, none⟩), .int .i64 buf, .slice A on.length c] W fun e W' => e = .returned (.tuple #[.int .i64 (addV r on).1, .int .i64 (addV r on).2]) ∧ OneP n w g (addR r buf on) X W' := by
  obtain ⟨pg, hg, ho⟩ := h
  unfold addR addV
  by_cases hon : ∀ x ∈ on, 0 ≤ x ∧ x < (r.length : Int)
  · rw [if_pos hon, if_pos hon]
    refine (gadd_c hg ho buf hb A c on hl ht hr hon).mono ?_
    rintro e W' ⟨ps', he, hg', ho'⟩
    exact ⟨he, ps', hg', ho'⟩
  · rw [if_neg hon, if_neg hon]
    refine (gadd_no hg ho buf A c on (by omega) hr hon).mono ?_
    rintro e W' ⟨he, rfl⟩
    exact ⟨he, pg, hg, ho⟩
theorem OneP.wr (h : OneP n w g r X W) (buf : Int) (hb : I64 buf) :
    Calls Try.prog 12 #[.pointer (some ⟨g, 0, none⟩), .int .i64 buf] W fun e W' => ∃ A c, e = .returned (.slice A (nextR r buf).length c) ∧ OneP n w g (writtenR r buf) X W' := by
  obtain ⟨pg, hg, ho⟩ := h
  refine (gwritten_c hg buf hb ho).mono ?_
  rintro e W' ⟨v, ps', rfl, hg', ho'⟩
  obtain ⟨A, c, rfl⟩ := own_slice ho'.row
  exact ⟨A, c, rfl, ps', hg', ho'.tail⟩
/-- what a row of calls makes of some rows -/
def runR (r : List Rc) (l : List Ac) : List Rc := l.foldl stepR r
theorem runR_snoc {r : List Rc} {l : List Ac} {k : Nat} (h : k < l.length) : runR r (l.take (k + 1)) = stepR (runR r (l.take k)) l[k] := by
  unfold runR
  rw [List.take_succ_eq_append_getElem h, List.foldl_append]; rfl
theorem runR_le (r : List Rc) (l : List Ac) : ∀ k, k ≤ l.length → (runR r (l.take k)).length ≤ r.length + k ∧ tot (runR r (l.take k)) ≤ tot r + onsum (l.take k) := by
  intro k
  induction k with
  | zero => intro _; exact ⟨Nat.le_refl _, Nat.le_add_right _ _⟩
  | succ k ih =>
    intro hk
    obtain ⟨h1, h2⟩ := ih (by omega)
    rw [runR_snoc (by omega), onsum_snoc (by omega)]
    unfold stepR
    split
    · split
      · rw [List.length_append, List.length_singleton, tot_snoc]
        dsimp only
        omega
      · omega
    · unfold writtenR
      rw [setD_len, tot_setD]; omega
/-- both graphs and a copy of the own one -/
theorem BP.copy (h : BP n w g b r F W) : Calls Try.prog 30 #[.pointer (some ⟨g, 0, none⟩)] W fun e W' => ∃ c pr pc, e = .returned (.pointer (some ⟨c, 0, none⟩)) ∧ IsR b r pr ∧ Gr c r pc ∧ OneP n w g r (pr ++ (pc ++ F)) W' := by
  obtain ⟨pg, pr, hg, hr, ho⟩ := h
  refine (gcopy_c hg ho).mono ?_
  rintro e W' ⟨c, pc, he, hg', ho'⟩
  refine ⟨c, pr, pc, he, hr, hg', pg, hg, ho'.perm ?_⟩
  refine List.Perm.trans (List.perm_append_comm_assoc pc pg (pr ++ F)) (List.Perm.append_left pg ?_)
  exact List.perm_append_comm_assoc pc pr F
theorem OneP.toBP {c : Nat} {pr pc : List Atom} {r' : List Rc} (hr : IsR b r pr) (hc : Gr c r pc) (h : OneP n w g r' (pr ++ (pc ++ [])) W) : ∃ pg, Gr g r' pg ∧ BP n w c b r pg W := by
  obtain ⟨pg, hg, ho⟩ := h
  refine ⟨pg, hg, pc, pr, hc, hr, ho.perm ?_⟩
  rw [List.append_nil]
  refine List.Perm.trans List.perm_append_comm ?_
  rw [List.append_assoc]
  exact List.perm_append_comm_assoc pr pc pg
theorem Own.leftOf {A B pg : List Atom} {r' : List Rc} (hg : Gr g r' pg) (ho : Own n w W (A ++ (B ++ pg))) : Calls Try.prog 20 #[.pointer (some ⟨g, 0, none⟩)] W fun e W' => e = .returned (.int .i64 (leftR r' : Int)) ∧ W = W' := by
  refine gleft_c (F := A ++ B) hg (ho.perm ?_)
  rw [← List.append_assoc]
  exact List.perm_append_comm
theorem HP.gaddNil {c : Nat} {rc : List Rc} (h : HP n w c b rc r F W) (buf : Int) (hb : I64 buf) (hl : rc.length + 1 < 274877906944) (ht : tot rc < 274877906944) :
    Calls Try.prog 16 #[.pointer (some ⟨c, 0, none⟩), .int .i64 buf, .slice none 0 0] W fun e W' => ∃ x y, e = .returned (.tuple #[.int .i64 x, .int .i64 y]) ∧ HP n w c b (rc ++ [⟨buf, [], false⟩]) r F W' := by
  obtain ⟨pg, pr, hg, hr, ho⟩ := h
  refine (gadd_c hg ho buf hb none 0 [] hl (by simpa using ht) (fun V hV hne => absurd rfl hne) (fun x hx => by cases hx)).mono ?_
  rintro e W' ⟨ps', he, hg', ho'⟩
  exact ⟨_, _, he, ps', pr, hg', hr, ho'⟩
theorem HP.below {c : Nat} {rc : List Rc} (h : HP n w c b rc r F W) : Below n w W := by obtain ⟨pg, pr, hg, hr, ho⟩ := h; exact ho.below
theorem HP.leftOf {c : Nat} {rc r' : List Rc} {pg : List Atom} (hg : Gr g r' pg) (h : HP n w c b rc r pg W) : Calls Try.prog 20 #[.pointer (some ⟨g, 0, none⟩)] W fun e W' => e = .returned (.int .i64 (leftR r' : Int)) ∧ W = W' := by
  obtain ⟨pc, pr, hc, hr, ho⟩ := h
  exact Own.leftOf hg ho
end
end Go.Proofs.Ytjfejimghbohdaa
namespace Go.Proofs.Ytjfejimghbohdaa
set_option linter.unusedVariables false
set_option linter.unusedSimpArgs false
open Go.RowKit Go.Maps

def candL (r : List Rc) (xs : List Int) : List Int := (xs.filter (fun x => mayR r x.toNat)).map (fun x => (rd r x).buf)
theorem candL_yes {r : List Rc} {xs : List Int} {k : Nat} (hk : k < xs.length) (h : mayR r (xs[k]).toNat = true) : candL r (xs.take (k + 1)) = candL r (xs.take k) ++ [(rd r xs[k]).buf] := by
  unfold candL
  rw [List.take_succ_eq_append_getElem hk, List.filter_append, List.map_append]
  simp [h]
theorem candL_no {r : List Rc} {xs : List Int} {k : Nat} (hk : k < xs.length) (h : mayR r (xs[k]).toNat = false) : candL r (xs.take (k + 1)) = candL r (xs.take k) := by
  unfold candL
  rw [List.take_succ_eq_append_getElem hk, List.filter_append, List.map_append]
  simp [h]
theorem candL_len (r : List Rc) (xs : List Int) : (candL r xs).length ≤ xs.length := by
  unfold candL; rw [List.length_map]; exact List.length_filter_le _ _
theorem candL_mem {r : List Rc} {ids xs : List Int} (h : needR r ids xs) {b : Int} : b ∈ candL r xs ↔ candR r ids b := by
  unfold candL
  rw [List.mem_map]
  constructor
  · rintro ⟨x, hx, rfl⟩
    obtain ⟨h1, h2⟩ := List.mem_filter.1 hx
    have h3 := (h.2 x).1 h1
    obtain ⟨i, rfl⟩ := Int.eq_ofNat_of_zero_le h3.good.1
    rw [Int.toNat_natCast] at h2
    exact ⟨i, h3, h2, by unfold rd; rw [Int.toNat_natCast]⟩
  · rintro ⟨i, h1, h2, rfl⟩
    exact ⟨(i : Int), List.mem_filter.2 ⟨(h.2 _).2 h1, by rw [Int.toNat_natCast]; exact h2⟩, by unfold rd; rw [Int.toNat_natCast]⟩
section
variable {n g : Nat} {w W : World} {F X : List Atom} {r : List Rc}
set_option maxHeartbeats 8000000 in
set_option maxRecDepth 100000 in
theorem next42_c (h : OneP n w g r X W) (A : Option Addr) (cw : Nat) (want : List Int) (hl : want.length < 274877906944) (hr : Reads n w X A want) :
    Calls Try.prog 42 #[.pointer (some ⟨g, 0, none⟩), .slice A want.length cw] W fun e W' => OneP n w g r X W' ∧ ((∃ b, e = .returned (.tuple #[.int .i64 b, .bool true]) ∧ bestR r want b) ∨ (e = .returned (.tuple #[.int .i64 0, .bool false]) ∧ ∀ x, ¬ Reach r want x)) := by
  obtain ⟨pg, hg, ho⟩ := h
  have HN := hide (need_c hg ho A cw want hl hr)
  have HG := hide hg
  clear ho hr hg
  go_enter Try.func42, Try.ntmps42
  go_upto_region 3 with (go_at_call 14; refine HN.out.mono ?_; rintro e W1 ⟨v, xs, rfl, hx, h1⟩; obtain ⟨A1, c1, rfl⟩ := own_slice h1.row; have HX := hide hx; have H1 := hide (h1.nilRow 3 1); clear hx h1)
  have hxl : xs.length < 274877906944 := by have := needR_len HX.out; have := HG.out.len; omega
  have HXL := hide hxl
  have HP0 := hide (show candL r (xs.take 0) = [] from rfl)
  clear HN
  go_loopg [13, 6] xs.length (fun mm i v V => ∃ (k m : Nat) (A2 : Option Addr) (c2 : Nat), k ≤ xs.length ∧ mm = xs.length - k ∧ i = .int .i64 k ∧ v = .slice A2 m c2 ∧ Hid (m = (candL r (xs.take k)).length) ∧ Hid (Own n w V (rowA 3 1 (.slice A2 m c2) m (ints (candL r (xs.take k))) :: rowA 3 1 (.slice A1 xs.length c1) xs.length (ints xs) :: (pg ++ X))))
  case atStart => exact ⟨0, 0, none, 0, by omega, by omega, rfl, rfl, hide (by rw [HP0.out]; rfl), hide (by rw [HP0.out]; exact H1.out)⟩
  case round =>
    obtain ⟨k, m, A2, c2, hk, rfl, rfl, rfl, HM, HO⟩ := hrel
    clear H1
    by_cases hlt : k < xs.length
    · have hrow := HO.out.tail.row
      obtain ⟨g1, rfl⟩ := row_form hrow (by omega)
      have y0 := hrow.cellAt k (by omega)
      rw [ints_at hlt] at y0
      have hgd := ((HX.out.2 xs[k]).1 (List.getElem_mem hlt)).good
      have HY := hide (fun h => candL_yes (r := r) hlt h)
      have HNO := hide (fun h => candL_no (r := r) hlt h)
      have hml : m < 274877906944 := by have := HM.out; have := candL_len r (xs.take k); rw [List.length_take] at this; omega
      have HML := hide hml
      generalize xs[k] = x at y0 hgd HY HNO
      obtain ⟨i, rfl⟩ := Int.eq_ofNat_of_zero_le hgd.1
      have hil : i < r.length := by have := hgd.2.1; omega
      rw [Int.toNat_natCast] at HY HNO
      have e : rd r (i : Int) = r.getD i zr := by unfold rd; rw [Int.toNat_natCast]
      rw [e] at HY
      have o1 : (0 : Int) ≤ (k : Int) := by omega
      have o2 : (k : Int) < (xs.length : Int) := by omega
      have hq : ∀ a ∈ pg, a.Q wr := fun a ha => HO.out.hold a (List.mem_cons_of_mem _ (List.mem_cons_of_mem _ (List.mem_append_left _ ha)))
      have HC := hide (may_c HG.out hq i hil)
      have HB := hide (buf_c HG.out hq i hil)
      clear hrow hgd hml e hq
      cases hm : mayR r i with
      | true =>
        have HE := hide (HY.out hm)
        rw [hm] at HC
        clear HY HNO hm
        generalize (r.getD i zr).buf = bf at HE HB
        go_wp2_with (first
          | (go_at_call 52; refine HC.out.mono ?_; rintro e w' ⟨rfl, rfl⟩)
          | (go_at_call 53; refine HB.out.mono ?_; rintro e w' ⟨rfl, rfl⟩)
          | (at_builtin; go_must (obtain ⟨i0, hi, hz0, hz1, hz2⟩ := info_parts info3; refine wpList_append_own_at _ rfl _ _ 23 rfl n 3 i0 (.int .i64 0) 1 8 Try.underlying23 hi hz0 hz1 hz2 rfl (by decide) _ _ _ rfl (HO.out.row.alloc _) ⟨wr.heap.size, 0, none⟩ 1 1 [.int .i64 bf] rfl rfl (cell_one_new _ _ _) (by simp [Value.oneCell']) (by have := HML.out; unfold maxLen; omega) (by have := HML.out; omega) (by have := HO.out.sz; simp; omega) ?_); intro v' w4 hown' hgrow _ hat; obtain ⟨A6, c6, rfl⟩ := own_slice hown'; have H4 := hide ((HO.out.alloc _).growRow hown' hgrow hat); clear hown' hgrow hat))
        go_roundg (xs.length - (k + 1))
        case measure => omega
        case rel => exact ⟨k + 1, m + 1, A6, c6, by omega, by omega, by go_num, rfl, hide (by rw [HE.out, HM.out, List.length_append]; rfl), hide (by rw [HE.out]; have := H4.out; rw [show ints (candL r (xs.take k)) ++ [Value.int .i64 bf] = ints (candL r (xs.take k) ++ [bf]) from by simp [ints]] at this; exact this)⟩
      | false =>
        have HE := hide (HNO.out hm)
        rw [hm] at HC
        clear HY HNO hm HB
        go_wp2_with (go_at_call 52; refine HC.out.mono ?_; rintro e w' ⟨rfl, rfl⟩)
        go_roundg (xs.length - (k + 1))
        case measure => omega
        case rel => exact ⟨k + 1, m, A2, c2, by omega, by omega, by go_num, rfl, hide (by rw [HE.out, HM.out]), hide (by rw [HE.out]; exact HO.out)⟩
    · obtain rfl : k = xs.length := by omega
      have o2 : ¬ (xs.length : Int) < (xs.length : Int) := by omega
      have HM2 := hide (show m = (candL r xs).length from by have := HM.out; rwa [List.take_length] at this)
      have HO2 := hide (show Own n w wr (rowA 3 1 (.slice A2 m c2) m (ints (candL r xs)) :: rowA 3 1 (.slice A1 xs.length c1) xs.length (ints xs) :: (pg ++ X)) from by have := HO.out; rwa [List.take_length] at this)
      clear HM HO
      have HFIN := hide (show OneP n w g r X wr from ⟨pg, HG.out, HO2.out.tail.tail⟩)
      by_cases h0 : m = 0
      · obtain ⟨m0, m1⟩ := int_eqb (show (m : Int) = 0 by omega)
        have HNR := hide (show ∀ x, ¬ Reach r want x from fun x hx => by
          obtain ⟨b, hb⟩ := reach_cand HG.out.wf ⟨x, hx⟩
          have := (candL_mem HX.out).2 hb
          rw [List.length_eq_zero_iff.1 (HM2.out.symm.trans h0)] at this
          cases this)
        clear h0
        go_wp2
        go_ret2
        exact ⟨HFIN.out, .inr ⟨rfl, HNR.out⟩⟩
      · obtain ⟨m0, m1⟩ := int_neb (show ¬ (m : Int) = 0 by omega)
        have hrow := HO2.out.row
        have HMIN := hide (min_c (W := wr) (A := A2) (c := c2) (xs := candL r xs) (Ints.of_own hrow (Nat.le_refl _)) (by have := HM2.out; omega) (by have := candL_len r xs; omega))
        rw [← HM2.out] at HMIN
        clear h0 hrow
        go_wp2_with (go_at_call 54; refine HMIN.out.mono ?_; rintro e w' ⟨b, rfl, hb1, hb2, rfl⟩; have HB := hide (And.intro hb1 hb2); clear hb1 hb2)
        go_ret2
        exact ⟨HFIN.out, .inl ⟨b, rfl, (candL_mem HX.out).1 HB.out.1, fun b' hb' => HB.out.2 b' ((candL_mem HX.out).2 hb')⟩⟩
end
end Go.Proofs.Ytjfejimghbohdaa
