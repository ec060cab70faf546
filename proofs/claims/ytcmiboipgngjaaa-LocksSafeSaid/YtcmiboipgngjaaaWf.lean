/-
  The walk of LocksFirst. No condition.
-/
import Derived.Test.YtcmiboipgngjaaaLf
namespace Go.Proofs.Ytcmiboipgngjaaa
set_option linter.unusedVariables false
set_option linter.unusedSimpArgs false
open Go.RowKit Go.Maps

section
variable {n : Nat} {w W : World} {X : List Atom}
/-- an int of a row -/
theorem row_at {A : Option Addr} {c : Nat} {l : List Int} (ho : Own n w W X) (h : rowA 3 1 (.slice A l.length c) l.length (ints l) ∈ X) {k : Nat} (hk : k < l.length) : ∃ b off, A = some ⟨b, off, none⟩ ∧ W.cell? ⟨b, off + k, none⟩ = some (.int .i64 l[k]) := by
  obtain ⟨b, off, e, -, hc⟩ := row_ints ho h (by intro e; rw [e] at hk; simp at hk)
  have := hc k hk
  rw [show l.getD k 0 = l[k] by simp [hk]] at this
  exact ⟨b, off, e, this⟩
theorem off_at {A : Option Addr} {c : Nat} {l : List Lk} (ho : Own n w W X) (h : offA 3 (.slice A l.length c) l.length (cellsK l) ∈ X) {k : Nat} (hk : k < l.length) : ∃ b off, A = some ⟨b, off, none⟩ ∧ W.cell? ⟨b, off + k * 3, none⟩ = some (.int .i64 l[k].th) ∧ W.cell? ⟨b, off + k * 3 + 1, none⟩ = some (.int .i64 l[k].tg) ∧ W.cell? ⟨b, off + k * 3 + 2, none⟩ = some (.bool l[k].al) := by
  obtain ⟨b, off, e, hc⟩ := off_lks (show offRow W 3 (.slice A l.length c) l.length (cellsK l) from ho.hold _ h) (by intro e; rw [e] at hk; simp at hk)
  exact ⟨b, off, e, hc k hk⟩
end
theorem first_out (W : World) (A : Option Addr) (len cap : Nat) (h : 40 < len) : Calls Try.prog 7 #[.slice A len cap] W fun e W' => e = .returned (.bool true) ∧ Below W.heap.size W W' := by
  have HA := hide (alive_c W)
  have h1 : (40 : Int) < (len : Int) := by omega
  clear h
  go_enter Try.func7, Try.ntmps7
  go_wp2_with (go_at_call 9; refine HA.out.mono ?_; rintro e w1 ⟨rfl, hb⟩; have HB := hide hb; clear hb)
  go_ret
  exact ⟨rfl, HB.out⟩
/-- the state while they ask -/
structure FiP (k : Nat) (w1 : World) (g : Nat) (zs : List Int) (A5 : Option Addr) (c5 i : Nat) (W : World) : Prop where
  ok : Ok [fx (-1)] (fR (zs.take i))
  nd : (zs.take i).Nodup
  ex : ∃ ps, TB g [fx (-1)] (fR (zs.take i)) (i + 1) ps ∧ Own k w1 W (ps ++ [rowA 3 1 (.slice A5 i c5) i (ints (zs.take i))])
/-- the state while they let go -/
structure FiQ (k : Nat) (w1 : World) (g q : Nat) (zs : List Int) (A5 : Option Addr) (c5 j : Nat) (W : World) : Prop where
  ok : Ok [fx (nowF zs j)] (fR (zs.drop j))
  ex : ∃ ps, TB g [fx (nowF zs j)] (fR (zs.drop j)) q ps ∧ Own k w1 W (ps ++ [rowA 3 1 (.slice A5 zs.length c5) zs.length (ints zs)])
set_option maxHeartbeats 4000000 in
set_option maxRecDepth 100000 in
theorem first_in (W : World) (A : Option Addr) (cap : Nat) (zs : List Int) (hl : zs.length ≤ 40) (hw : ∀ x ∈ zs, (Lit.int .i64 x).wf = true) (hx : Ints W.heap.size W A zs) : Calls Try.prog 7 #[.slice A zs.length cap] W fun e W' => e = .returned (.bool true) ∧ Below W.heap.size W W' := by
  have HA := hide (alive_c W)
  have HN := hide (fun V => tnew_c (Own.start V))
  have t1 : ¬ (40 : Int) < (zs.length : Int) := by omega
  have HX := hide hx
  have HW := hide hw
  have K1 := hide (fun (g : Nat) ps w V hg ho => @task_to w.heap.size g 0 w V [] ps [] [] (fx (-1)) true [fx (-1)] [] hg ⟨Ok.nil, by simp, by omega⟩ ho ⟨wf_small (by decide), wf_7⟩ f_ask0.1 f_ask0.2.1 f_ask0.2.2)
  simp only [show (fx (-1)).v = .agg #[.int .i64 (-1), .int .i64 7, .bool true] from rfl] at K1
  clear hx hw
  go_enter Try.func7, Try.ntmps7
  go_upto_region 8 with (first
    | (go_at_call 9; refine HA.out.mono ?_; rintro e w1 ⟨rfl, hb⟩; have HB := hide hb; have HX1 := hide (HX.out.below hb (Nat.le_refl _)); clear hb)
    | (go_at_call 10; refine (HN.out _).mono ?_; rintro e w2 ⟨g, p0, rfl, t0, o0⟩; have T0 := hide (And.intro t0 o0); clear t0 o0)
    | (go_at_call 11; refine (K1.out _ _ _ _ T0.out.1 T0.out.2).mono ?_; rintro e w3 ⟨rfl, p1, t1, o1⟩; have T1 := hide (And.intro t1 o1); clear t1 o1))
  clear HA HN t1 K1 T0
  have HX2 := hide (HX1.out.more HB.out.size)
  have HF : Hid (FiP w1.heap.size w1 g zs none 0 0 w3) := hide ⟨(Ok.nil.ask (x := fx (-1)) ⟨wf_small (by decide), wf_7⟩ : Ok (askH [] [] (fx (-1))) _), by simp, p1, T1.out.1, by
    have := T1.out.2.nilRow 3 1
    rw [List.append_nil] at this
    have h2 := Own.back (l := p1) (atoms := []) (by rw [List.append_nil]; exact this)
    simpa [ints] using h2⟩
  clear HX HX1 T1
  go_loopg [5, 6] zs.length (fun mm v5 v6 wr => ∃ (i : Nat) (A5 : Option Addr) (c5 : Nat), mm = zs.length - i ∧ i ≤ zs.length ∧ v5 = .slice A5 i c5 ∧ v6 = .int .i64 i ∧ Hid (FiP w1.heap.size w1 g zs A5 c5 i wr))
  case atStart => exact ⟨0, none, 0, by omega, by omega, rfl, rfl, HF⟩
  case round =>
    obtain ⟨i, A5, c5, rfl, hi, rfl, rfl, HF1⟩ := hrel
    clear HF
    by_cases hlt : i < zs.length
    · have o1 : (i : Int) < (zs.length : Int) := by omega
      obtain ⟨ps, ht, ho⟩ := HF1.out.ex
      have HO := hide ho
      have HT := hide ht
      have HXW := hide (fun V (h : Below w1.heap.size w1 V) => HX2.out.below h (Nat.le_refl _))
      have hwi := HW.out _ (List.getElem_mem hlt)
      clear ht ho
      go_upto_region 11 with (fail)
      go_loopg [7] i (fun mm v7 V => ∃ k : Nat, mm = i - k ∧ k ≤ i ∧ v7 = .int .i64 k ∧ (∃ q, V = wr.drewN q) ∧ Hid (∀ j (h : j < zs.length), j < k → zs[j] ≠ zs[i]))
      case atStart => exact ⟨0, by omega, by omega, rfl, ⟨0, rfl⟩, hide (fun j h h0 => by omega)⟩
      case round =>
        obtain ⟨k, rfl, hk, rfl, ⟨q, rfl⟩, HK⟩ := hrel
        by_cases hlk : k < i
        · have o2 : (k : Int) < (i : Int) := by omega
          have hkz : k < zs.length := by omega
          obtain ⟨b, off, rfl, -, hc⟩ := HXW.out wr HO.out.below (by intro e; rw [e] at hlt; simp at hlt)
          have y0 := hc k hkz
          have y1 := hc i hlt
          rw [show zs.getD k 0 = zs[k] by simp [hkz]] at y0
          rw [show zs.getD i 0 = zs[i] by simp [hlt]] at y1
          have HS := hide (fun h : zs[k] ≠ zs[i] => show ∀ j (h : j < zs.length), j < k + 1 → zs[j] ≠ zs[i] from fun j h2 h3 => by
            by_cases e : j = k
            · subst e; exact h
            · exact HK.out j h2 (by omega))
          generalize zs[k] = u at y0 HS
          obtain ⟨v, hv⟩ : ∃ v, zs[i] = v := ⟨_, rfl⟩
          rw [hv] at y1
          have HV := hide hv
          clear hv
          have o3 : (0 : Int) ≤ (k : Int) := by omega
          have o4 : (k : Int) < (zs.length : Int) := by omega
          have o5 : (0 : Int) ≤ (i : Int) := by omega
          clear hc
          by_cases he : u = v
          · obtain ⟨m0, m1⟩ := int_eqb he
            clear he
            go_wp2
            go_quiet (fail)
            go_wp2
            go_ret
            exact ⟨rfl, HB.out.trans (((HO.out.drewN _).drewN _).below.mono HB.out.size)⟩
          · obtain ⟨m0, m1⟩ := int_neb he
            have HT2 := hide (HS.out (fun e => he (e.trans HV.out)))
            clear he
            go_wp2
            go_quiet (fail)
            go_wp2
            go_roundg (i - (k + 1))
            case measure => omega
            case rel => exact ⟨k + 1, by omega, by omega, by go_num, ⟨_, by first | rfl | (rw [World.drewN_drewN]; done)⟩, HT2⟩
        · obtain rfl : k = i := by omega
          have o2 : ¬ (k : Int) < (k : Int) := by omega
          have hno : zs[k] ∉ zs.take k := by
            intro hm
            obtain ⟨j, hj, e⟩ := List.getElem_of_mem hm
            rw [List.length_take] at hj
            rw [List.getElem_take] at e
            exact HK.out j (by omega) (by omega) e
          have HNO := hide hno
          have HO1 := hide (HO.out.drewN q)
          have hx1 := HXW.out (wr.drewN q) (HO.out.drewN q).below
          generalize wr.drewN q = W1 at HO1 hx1 ⊢
          obtain ⟨b, off, rfl, -, hc⟩ := hx1 (by intro e; rw [e] at hlt; simp at hlt)
          have y1 := hc k hlt
          rw [show zs.getD k 0 = zs[k] by simp [hlt]] at y1
          have o5 : (0 : Int) ≤ (k : Int) := by omega
          clear hc HO HK
          by_cases hneg : zs[k] < 0
          · generalize zs[k] = v at y1 hneg
            go_wp2
            go_ret
            exact ⟨rfl, HB.out.trans (HO1.out.below.mono HB.out.size)⟩
          · have hne1 : zs[k] ≠ -1 := by omega
            have KA := hide (task_to (x := fx zs[k]) HT.out ⟨HF1.out.ok, by unfold fR; rw [List.length_map, List.length_take, List.length_singleton]; omega, by omega⟩ HO1.out ⟨hwi, wf_7⟩ (f_ask hno hne1).1 (f_ask hno hne1).2.1 (f_ask hno hne1).2.2)
            have HOK := hide (HF1.out.ok.ask (x := fx zs[k]) ⟨hwi, wf_7⟩)
            rw [(f_ask hno hne1).2.1, (f_ask hno hne1).2.2] at HOK
            simp only [show (fx zs[k]).v = .agg #[.int .i64 zs[k], .int .i64 7, .bool true] from rfl] at KA
            have HSN := hide (show zs.take (k + 1) = zs.take k ++ [zs[k]] from List.take_succ_eq_append_getElem hlt)
            have HND := hide (HF1.out.nd)
            have HXA := hide (fun V (h : Below w1.heap.size w1 V) => show V.cell? ⟨b, off + k, none⟩ = some (.int .i64 zs[k]) from by
              obtain ⟨b', off', e, -, hc⟩ := HXW.out V h (by intro e; rw [e] at hlt; simp at hlt)
              cases e
              have := hc k hlt
              rwa [show zs.getD k 0 = zs[k] by simp [hlt]] at this)
            clear HF1 HT HO1 hwi HXW hno hne1
            obtain ⟨v, hv⟩ : ∃ v, v = zs[k] := ⟨_, rfl⟩
            rw [← hv] at y1 hneg KA HOK HSN HXA HNO
            clear hv
            obtain ⟨i0, hi0, hz0, hz1, hz2⟩ := info_parts info3
            go_wp2_with (first
              | (go_at_call 11; refine KA.out.mono ?_; rintro e w4 ⟨rfl, p4, t4, o4⟩; have T4 := hide t4; have O4 := hide o4; have y2 := HXA.out w4 o4.below; have hrow : (w4.alloc (.cells #[.int .i64 v] 3)).ownsRow w1.heap.size 3 1 (.slice A5 k c5) k (ints (zs.take k)) := (Own.alloc o4.front (.cells #[.int .i64 v] 3)).row; have hsz2 := (Own.alloc o4.front (.cells #[.int .i64 v] 3)).sz; clear t4 o4)
              | (at_builtin; go_must (refine wpList_append_src _ rfl _ _ 28 rfl w1.heap.size 3 i0 (.int .i64 0) 1 8 Try.underlying28 hi0 hz0 hz1 hz2 rfl (by decide) _ k _ rfl hrow _ _ 1 1 [.int .i64 v] rfl rfl (cells_new _ _ _) (by simp [Value.oneCell']) (by unfold maxLen; omega) (by omega) hsz2 ?_); intro v' w5 hown hg hat; obtain ⟨A7, c7, rfl⟩ := own_slice hown; have HG := hide (And.intro hown (And.intro hg hat)); clear hown hg hat))
            go_roundg (zs.length - (k + 1))
            case measure => omega
            case rel =>
              refine ⟨k + 1, A7, c7, by omega, by omega, rfl, by go_num, hide ⟨by rw [HSN.out]; exact HOK.out, ?_, p4, by rw [HSN.out]; exact T4.out, ?_⟩⟩
              · rw [HSN.out, List.nodup_append]
                exact ⟨HND.out, by simp, fun a ha b hb e => HNO.out (by rw [List.mem_singleton.1 hb] at e; exact e ▸ ha)⟩
              · rw [HSN.out, ints_snoc]
                have h1 := (Own.alloc O4.out.front (.cells #[.int .i64 v] 3)).growRow HG.out.1 HG.out.2.1 HG.out.2.2
                exact h1.back
    · obtain rfl : i = zs.length := by omega
      have o1 : ¬ (zs.length : Int) < (zs.length : Int) := by omega
      have hnd := HF1.out.nd
      rw [List.take_of_length_le (Nat.le_refl _)] at hnd
      have HQ : Hid (FiQ w1.heap.size w1 g (zs.length + 1) zs A5 c5 0 wr) := hide ⟨by have := HF1.out.ok; rwa [List.take_of_length_le (Nat.le_refl _)] at this, by have := HF1.out.ex; rwa [List.take_of_length_le (Nat.le_refl _)] at this⟩
      have HND := hide hnd
      clear HF1 hnd HX2
      go_upto_region 23 with (fail)
      go_loopg [9, 10] zs.length (fun mm v9 v10 V => ∃ j : Nat, mm = zs.length - j ∧ j ≤ zs.length ∧ v9 = .int .i64 (nowF zs j) ∧ v10 = .int .i64 j ∧ Hid (FiQ w1.heap.size w1 g (zs.length + 1) zs A5 c5 j V))
      case atStart => exact ⟨0, by omega, by omega, rfl, rfl, HQ⟩
      case round =>
        obtain ⟨j, rfl, hj, rfl, rfl, HQ1⟩ := hrel
        clear HQ
        obtain ⟨ps, ht, ho⟩ := HQ1.out.ex
        have hok := HQ1.out.ok
        by_cases hlt : j < zs.length
        · have o2 : (j : Int) < (zs.length : Int) := by omega
          have o3 : (0 : Int) ≤ (j : Int) := by omega
          have hd : zs.drop j = zs[j] :: zs.drop (j + 1) := List.drop_eq_getElem_cons hlt
          have hno : zs[j] ∉ zs.drop (j + 1) := by
            have h1 := HND.out.sublist (List.drop_sublist j zs)
            rw [hd, List.nodup_cons] at h1
            exact h1.1
          have hnx := nowF_succ hlt
          rw [hd] at ht hok
          obtain ⟨e1, e2, e3⟩ := f_rel (x := nowF zs j) hno
          have hlen : [fx (nowF zs j)].length + (fR (zs[j] :: zs.drop (j + 1))).length < 549755813888 := by unfold fR; simp only [List.length_map, List.length_cons, List.length_drop, List.length_nil]; omega
          have KR := hide (trel_to ht ⟨hok, hlen, by omega⟩ ho (nowF zs j) 7 wf_7 e1 e2 e3)
          have hok2 := hok.rel (nowF zs j) 7
          rw [e2, e3, ← hnx] at hok2
          have HOK2 := hide hok2
          have hwj := HW.out _ (List.getElem_mem hlt)
          have hlen2 : [fx zs[j]].length + (fR (zs.drop (j + 1))).length < 549755813888 := by unfold fR; simp only [List.length_map, List.length_cons, List.length_drop, List.length_nil]; omega
          have KH := hide (fun V p F (t : TB g [fx zs[j]] (fR (zs.drop (j + 1))) (zs.length + 1) p) (h : Own w1.heap.size w1 V (p ++ F)) => tholds_c t ⟨by rw [← hnx]; exact hok2, hlen2, by omega⟩ h zs[j] 7 wf_7)
          simp only [f_holds] at KH
          have HRW := hide (fun V X (h : Own w1.heap.size w1 V X) (hm : rowA 3 1 (.slice A5 zs.length c5) zs.length (ints zs) ∈ X) => row_at h hm hlt)
          have HNX := hide hnx
          clear hd hno hnx ht hok e1 e2 e3 hok2 ho hlen hlen2 HQ1
          generalize nowF zs j = nw at KR ⊢
          obtain ⟨y, hy⟩ : ∃ y, zs[j] = y := ⟨_, rfl⟩
          rw [hy] at KR KH HRW HNX hwj
          have HY := hide hy
          clear hy
          go_upto_region 26 with (go_at_call 14; refine KR.out.mono ?_; rintro e w4 ⟨A6, c6, p6, rfl, t6, o6⟩; have T6 := hide (And.intro t6 o6); clear t6 o6)
          obtain ⟨b6, o6, rfl, y0, -, -⟩ := off_at (A := A6) (c := c6) (l := [fx y]) (k := 0) T6.out.2 List.mem_cons_self (by simp)
          obtain ⟨b5, o5, rfl, y1⟩ := HRW.out w4 _ T6.out.2 (List.mem_cons_of_mem _ (List.mem_append_right _ List.mem_cons_self))
          simp only [Nat.zero_mul, Nat.add_zero, List.getElem_cons_zero] at y0
          have y0 : w4.cell? ⟨b6, o6, none⟩ = some (.int .i64 y) := y0
          have KH2 := hide (KH.out w4.drew p6 _ T6.out.1 (T6.out.2.back).drew)
          have HCE := hide (fun V (h : Own w1.heap.size w1 V (p6 ++ (offA 3 (.slice (some ⟨b6, o6, none⟩) [fx y].length c6) [fx y].length (cellsK [fx y]) :: [rowA 3 1 (.slice (some ⟨b5, o5, none⟩) zs.length c5) zs.length (ints zs)]))) => show V.cell? ⟨b6, o6, none⟩ = some (.int .i64 y) ∧ V.cell? ⟨b5, o5 + j, none⟩ = some (.int .i64 y) from by
            obtain ⟨b, o, e, h1, -, -⟩ := off_at (A := some ⟨b6, o6, none⟩) (c := c6) (l := [fx y]) (k := 0) h (List.mem_append_right _ List.mem_cons_self) (by simp)
            cases e
            obtain ⟨b, o, e, h2⟩ := HRW.out V _ h (List.mem_append_right _ (List.mem_cons_of_mem _ List.mem_cons_self))
            cases e
            simp only [Nat.zero_mul, Nat.add_zero, List.getElem_cons_zero] at h1
            exact ⟨h1, h2⟩)
          clear KR KH HRW
          go_cut [96] from 74 to 96 (fun v wx => v = .bool false ∧ Hid (Own w1.heap.size w1 wx (p6 ++ [rowA 3 1 (.slice (some ⟨b5, o5, none⟩) zs.length c5) zs.length (ints zs)])))
          case first =>
            go_region_held3 (fun V => V.cell? ⟨b6, o6, none⟩ = some (.int .i64 y) ∧ V.cell? ⟨b5, o5 + j, none⟩ = some (.int .i64 y)) (first | exact ⟨y0, y1⟩ | exact ⟨y2, y3⟩) (first
              | (go_at_call 16; refine KH2.out.mono ?_; rintro e w5 ⟨rfl, h5⟩; obtain ⟨y2, y3⟩ := HCE.out _ h5; have H5 := hide h5; clear h5))
            all_goals
              go_wp2
              go_meet
              exact ⟨rfl, hide (H5.out.sub (List.Sublist.append (List.Sublist.refl _) (List.sublist_cons_self _ _)))⟩
          case rest =>
            obtain ⟨rfl, HO5⟩ := hcut
            have HT6 := hide T6.out.1
            obtain ⟨b7, o7, e7, y2⟩ := row_at (l := zs) HO5.out (List.mem_append_right _ List.mem_cons_self) hlt
            cases e7
            rw [HY.out] at y2
            clear KH2 HCE y0 y1
            have HF5 : Hid (FiQ w1.heap.size w1 g (zs.length + 1) zs (some ⟨b5, o5, none⟩) c5 (j + 1) wc) := hide ⟨HOK2.out, p6, by rw [HNX.out]; exact T6.out.1, HO5.out⟩
            have HNX2 := HNX
            go_wp2
            go_roundg (zs.length - (j + 1))
            case measure => omega
            case rel => exact ⟨j + 1, by omega, by omega, by rw [HNX2.out], by go_num, HF5⟩
        · obtain rfl : j = zs.length := by omega
          have o2 : ¬ (zs.length : Int) < (zs.length : Int) := by omega
          rw [List.drop_of_length_le (Nat.le_refl _)] at ht hok
          obtain ⟨e1, e2, e3⟩ := f_end (nowF zs zs.length)
          have KR := hide (trel_to ht ⟨hok, by simp [fR], by omega⟩ ho (nowF zs zs.length) 7 wf_7 e1 e2 e3)
          have KF := hide (fun V p F (t7 : TB g [] [] (zs.length + 1) p) (h : Own w1.heap.size w1 V (p ++ F)) => tholders_n t7 ⟨Ok.nil, by simp, by omega⟩ h 7 wf_7 (xs := []) (by simp [onT, sortI]))
          clear ht hok e1 e2 e3 ho HQ1
          generalize nowF zs zs.length = nw at KR ⊢
          go_wp2_with (first
            | (go_at_call 15; refine (KF.out _ _ _ T6.out.1 T6.out.2).mono ?_; rintro e wb ⟨Ab, cb, rfl, ob⟩; have TB2 := hide ob; clear ob)
            | (go_at_call 14; refine KR.out.mono ?_; rintro e w4 ⟨A6, c6, p6, rfl, t6, o6⟩; have T6 := hide (And.intro t6 o6.tail); clear t6 o6))
          go_ret
          exact ⟨by simp, HB.out.trans (TB2.out.below.mono HB.out.size)⟩
theorem LocksFirst_walk (W : World) (A : Option Addr) (len cap : Nat) (zs : List Int) (hlen : zs.length = len) (hmax : len ≤ maxLen) (hwf : ∀ n ∈ zs, (Lit.int .i64 n).wf = true) (hc : zs ≠ [] → ∃ x, A = some x ∧ x.block < W.heap.size ∧ ∀ j, j < zs.length → W.cell? (x.add j) = some (.int .i64 (zs.getD j 0))) :
    Calls Try.prog 7 #[.slice A len cap] W fun e W' => e = .returned (.bool true) ∧ Below W.heap.size W W' := by
  subst hlen
  by_cases h : 40 < zs.length
  · exact first_out W A zs.length cap h
  · exact first_in W A cap zs (by omega) hwf (Ints.of_open hc)
end Go.Proofs.Ytcmiboipgngjaaa
