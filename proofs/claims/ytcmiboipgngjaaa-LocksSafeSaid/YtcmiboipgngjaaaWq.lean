/-
  The walk of LocksSafe. No condition.
-/
import Derived.Test.YtcmiboipgngjaaaLq
namespace Go.Proofs.Ytcmiboipgngjaaa
set_option linter.unusedVariables false
set_option linter.unusedSimpArgs false
open Go.RowKit Go.Maps

theorem safe_out (W : World) (A : Option Addr) (len cap : Nat) (n : Int) (h : 200 < len ∨ n < 1 ∨ 20 < n) : Calls Try.prog 5 #[.slice A len cap, .int .i64 n] W fun e W' => e = .returned (.bool true) ∧ Below W.heap.size W W' := by
  have HA := hide (alive_c W)
  by_cases h1 : (200 : Int) < (len : Int)
  · clear h
    go_enter Try.func5, Try.ntmps5
    go_wp2_with (go_at_call 9; refine HA.out.mono ?_; rintro e w1 ⟨rfl, hb⟩; have HB := hide hb; clear hb)
    go_ret
    exact ⟨rfl, HB.out⟩
  · by_cases h2 : n < 1
    · clear h
      go_enter Try.func5, Try.ntmps5
      go_wp2_with (go_at_call 9; refine HA.out.mono ?_; rintro e w1 ⟨rfl, hb⟩; have HB := hide hb; clear hb)
      go_ret
      exact ⟨rfl, HB.out⟩
    · have h3 : 20 < n := by omega
      clear h
      go_enter Try.func5, Try.ntmps5
      go_wp2_with (go_at_call 9; refine HA.out.mono ?_; rintro e w1 ⟨rfl, hb⟩; have HB := hide hb; clear hb)
      go_ret
      exact ⟨rfl, HB.out⟩
def bls (a : List Bool) : List Value := a.map Value.bool
theorem make35 (V : World) : (Instr.makeSlice 35 (.int .i64 10) (.int .i64 10)).run Try.prog V = .ok (.slice (some ⟨V.heap.size, 0, none⟩) 10 10) (V.alloc (.cells #[.bool false, .bool false, .bool false, .bool false, .bool false, .bool false, .bool false, .bool false, .bool false, .bool false] 4)) := by kernel_rfl
/-- the array of who is alone -/
def alA (bl : Nat) (a : List Bool) : Atom := rowA 4 1 (.slice (some ⟨bl, 0, none⟩) 10 10) 10 (bls a)
structure SfP (k : Nat) (w1 : World) (g bl q : Nat) (W : World) : Prop where
  ex : ∃ H R ps a, TB g H R q ps ∧ Ok H R ∧ H.length + R.length ≤ q ∧ SfI H a ∧ a.length = 10 ∧ Own k w1 W (ps ++ [alA bl a])
/-- behind the call -/
structure SfC (g q : Nat) (H H' R' got : List Lk) (ps : List Atom) (k : Int) : Prop where
  t : TB g H' R' (q + 1) ps
  ok : Ok H' R'
  cnt : H'.length + R'.length ≤ q + 1
  s : Stp H H' got k
  gl : got.length ≤ q + 1
section
variable {n : Nat} {w W : World} {X : List Atom} {bl : Nat} {a : List Bool}
theorem alA_cell (ho : Own n w W X) (h : alA bl a ∈ X) (ha : a.length = 10) {k : Nat} (hk : k < 10) : W.cell? ⟨bl, k, none⟩ = some (.bool (a.getD k false)) ∧ W.frozen? ⟨bl, k, none⟩ = false := by
  have hr : W.ownsRow 0 4 1 (.slice (some ⟨bl, 0, none⟩) 10 10) 10 (bls a) := ho.hold _ h
  refine ⟨?_, hr.frozenAt _⟩
  rw [hr.cellAt k (by omega)]
  simp [bls, show k < a.length by omega]
theorem alA_set {F : List Atom} (ho : Own n w W (alA bl a :: F)) (k : Nat) (v : Bool) : Own n w (W.setCell ⟨bl, k, none⟩ (.bool v)) (alA bl (a.set k v) :: F) := by
  have h := Own.setRow ho k (.bool v)
  have e : bls (a.set k v) = (bls a).set k (.bool v) := by unfold bls; rw [List.map_set]
  unfold alA
  rw [e]; exact h
end
theorem alF {n : Nat} {w W : World} {X : List Atom} {a b c : Atom} (h : Own n w W (X ++ (a :: b :: [c]))) : Own n w W (c :: (X ++ (a :: [b]))) := by
  refine h.perm ?_
  simpa using permB [X, [a], [b], [c]] [0, 1, 2, 3] [3, 0, 1, 2] (by decide)
theorem alB {n : Nat} {w W : World} {X : List Atom} {a b c : Atom} (h : Own n w W (c :: (X ++ (a :: [b])))) : Own n w W (X ++ (a :: b :: [c])) := by
  refine h.perm ?_
  simpa using permB [X, [a], [b], [c]] [3, 0, 1, 2] [0, 1, 2, 3] (by decide)
set_option maxHeartbeats 8000000 in
set_option maxRecDepth 100000 in
theorem safe_in (W : World) (A : Option Addr) (cap : Nat) (xs : List Ac) (n : Int) (hl : xs.length ≤ 200) (h1 : ¬ n < 1) (h2 : ¬ 20 < n) (hw : ∀ x ∈ xs, AcOk x) (hx : kAc.C W A xs) : Calls Try.prog 5 #[.slice A xs.length cap, .int .i64 n] W fun e W' => e = .returned (.bool true) ∧ Below W.heap.size W W' := by
  have HA := hide (alive_c W)
  have HN := hide (fun V => tnew_c (Own.start V))
  have t1 : ¬ (200 : Int) < (xs.length : Int) := by omega
  have HX := hide (fun V (h : Below W.heap.size W V) (k : Nat) (hk : k < xs.length) => acs_below hx h hk)
  have HW := hide hw
  have hmk := make35
  clear hx hw
  go_enter Try.func5, Try.ntmps5
  go_upto_region 7 with (first
    | (go_at_call 9; refine HA.out.mono ?_; rintro e w1 ⟨rfl, hb⟩; have HB := hide hb; clear hb)
    | (go_at_call 10; refine (HN.out _).mono ?_; rintro e w2 ⟨g, p0, rfl, t0, o0⟩; have T0 := hide (And.intro t0 o0); clear t0 o0))
  have HP : Hid (SfP w1.heap.size w1 g w2.heap.size 0 (w2.alloc (.cells #[.bool false, .bool false, .bool false, .bool false, .bool false, .bool false, .bool false, .bool false, .bool false, .bool false] 4))) := hide ⟨[], [], p0, List.replicate 10 false, T0.out.1, Ok.nil, Nat.le_refl _, SfI.start, by simp, by
    have h1 := T0.out.2.newRow (e := 4) (sz := 1) #[.bool false, .bool false, .bool false, .bool false, .bool false, .bool false, .bool false, .bool false, .bool false, .bool false] 10 (by unfold maxLen; omega) rfl
    exact h1.back⟩
  clear HA HN t1 hmk T0
  generalize w2.alloc (.cells #[.bool false, .bool false, .bool false, .bool false, .bool false, .bool false, .bool false, .bool false, .bool false, .bool false] 4) = w3 at HP ⊢
  generalize w2.heap.size = bl at HP ⊢
  go_loopg [8] xs.length (fun mm v8 wr => ∃ i : Nat, mm = xs.length - i ∧ i ≤ xs.length ∧ v8 = .int .i64 i ∧ Hid (SfP w1.heap.size w1 g bl i wr))
  case atStart => exact ⟨0, by omega, by omega, rfl, HP⟩
  case round =>
    obtain ⟨i, rfl, hi, rfl, HP1⟩ := hrel
    clear HP
    obtain ⟨H, R, ps, a, ht, hok, hcnt, hsf, hal, ho⟩ := HP1.out.ex
    by_cases hlt : i < xs.length
    · have o1 : (i : Int) < (xs.length : Int) := by omega
      have o0 : (0 : Int) ≤ (i : Int) := by omega
      have hbw : Below W.heap.size W wr := HB.out.trans (ho.below.mono HB.out.size)
      obtain ⟨ba, off, rfl, hba, y0, y1, y2, y3⟩ := HX.out wr hbw i hlt
      obtain ⟨hwy, hwt, hwg⟩ := HW.out _ (List.getElem_mem hlt)
      have HXW := hide (fun V (h : Below w1.heap.size w1 V) => show V.cell? ⟨ba, off + i * 4, none⟩ = some (.int .i64 xs[i].way) from by
        obtain ⟨b, o, e, -, h0, -⟩ := HX.out V (HB.out.trans (h.mono HB.out.size)) i hlt
        cases e; exact h0)
      generalize xs[i].way = wy at y0 HXW hwy
      generalize xs[i].lk.th = th at y1 hwt
      generalize xs[i].lk.tg = tg at y2 hwg
      generalize xs[i].lk.al = al at y3
      have HO := hide ((ho.newBlk #[.int .i64 th, .int .i64 tg, .bool al] 27).back)
      have HS := hide (show TB g H R i ps ∧ Sm H R i ∧ H.length + R.length ≤ i from ⟨ht, ⟨hok, by omega, by omega⟩, hcnt⟩)
      have HF := hide (show SfI H a ∧ a.length = 10 from ⟨hsf, hal⟩)
      have HBW := hide hbw
      clear ht hok hcnt hsf hal ho HP1 hbw
      by_cases g1 : th < 0
      · go_wp2
        go_ret
        exact ⟨rfl, HBW.out.alloc (by have := HBW.out.size; omega) _⟩
      · by_cases g2 : n ≤ th
        · go_wp2
          go_ret
          exact ⟨rfl, HBW.out.alloc (by have := HBW.out.size; omega) _⟩
        · by_cases g3 : tg < 0
          · go_wp2
            go_ret
            exact ⟨rfl, HBW.out.alloc (by have := HBW.out.size; omega) _⟩
          · by_cases g4 : 9 < tg
            · go_wp2
              go_ret
              exact ⟨rfl, HBW.out.alloc (by have := HBW.out.size; omega) _⟩
            · obtain ⟨k, rfl⟩ := Int.eq_ofNat_of_zero_le (show 0 ≤ tg by omega)
              have hk : k < 10 := by omega
              go_upto_region 13 with (fail)
              generalize wr.alloc (.cells #[.int .i64 th, .int .i64 k, .bool al] 27) = w4 at HO ⊢
              generalize wr.heap.size = b9 at HO ⊢
              clear y0 y1 y2 y3 HBW
              have hy0 := HXW.out w4 HO.out.below
              have hb4 : Blk w4 b9 #[.int .i64 th, .int .i64 k, .bool al] 27 := HO.out.hold (blkA b9 #[.int .i64 th, .int .i64 k, .bool al] 27) (by simp)
              have z0 := hb4.cell 0
              have z1 := hb4.cell 1
              have z2 := hb4.cell 2
              have HBL := hide (fun V X (h : Own w1.heap.size w1 V X) (hm : blkA b9 #[.int .i64 th, .int .i64 k, .bool al] 27 ∈ X) => show Blk V b9 #[.int .i64 th, .int .i64 k, .bool al] 27 from h.hold (blkA b9 #[.int .i64 th, .int .i64 k, .bool al] 27) hm)
              clear hb4 HXW
              go_upto_if 67 with (fail)
              go_cut [10, 11] from 62 to 81 (fun v10 v11 wx => ∃ (got H' R' : List Lk) (A' : Option Addr) (c' : Nat) (ps' : List Atom), v10 = .slice A' got.length c' ∧ Hid (SfC g i H H' R' got ps' k) ∧ Hid (Own w1.heap.size w1 wx (offA 3 (.slice A' got.length c') got.length (cellsK got) :: (ps' ++ (blkA b9 #[.int .i64 th, .int .i64 k, .bool al] 27 :: [alA bl a])))))
              case first =>
                by_cases hwz : wy = 0
                · obtain ⟨m0, m1⟩ := int_eqb hwz
                  have KA := hide (task_c HS.out.1 HS.out.2.1 HO.out ⟨th, k, al⟩ ⟨hwt, hwg⟩)
                  have HNX := hide (show (∀ ps', TB g (askH H R ⟨th, k, al⟩) (askR H R ⟨th, k, al⟩) (i + 1) ps' → SfC g i H (askH H R ⟨th, k, al⟩) (askR H R ⟨th, k, al⟩) (if askB H R ⟨th, k, al⟩ then [⟨th, k, al⟩] else []) ps' k) from fun ps' h => ⟨h, HS.out.2.1.ok.ask ⟨hwt, hwg⟩, by have := ask_len H R ⟨th, k, al⟩; have := HS.out.2.2; omega, by
                    cases hq : askB H R ⟨th, k, al⟩ with
                    | true => exact stp_yes hq
                    | false => exact stp_ask_no hq, by cases askB H R ⟨th, k, al⟩ <;> simp⟩)
                  simp only [show (⟨th, (k : Int), al⟩ : Lk).v = .agg #[.int .i64 th, .int .i64 k, .bool al] from rfl] at KA
                  clear HS HF hwz
                  cases hq : askB H R ⟨th, k, al⟩ with
                  | true =>
                    rw [hq] at KA HNX
                    clear hq
                    obtain ⟨i0, hi0, hz0, hz1, hz2⟩ := info_parts info27
                    go_wp2_with (first
                      | (go_at_call 11; (refine KA.out.mono ?_; rintro e w5 ⟨rfl, p5, t5, o5⟩; have hb5 := HBL.out w5 _ o5 (by simp); have q0 := hb5.cell 0; have q1 := hb5.cell 1; have q2 := hb5.cell 2; have T5 := hide t5; have O5 := hide o5; have hnews : ∀ j u, ([.int .i64 th, .int .i64 k, .bool al] : List Value)[j]? = some u → (w5.alloc (.cells #[.int .i64 th, .int .i64 k, .bool al] 27)).cell? ((⟨w5.heap.size, 0, none⟩ : Addr).add j) = some u := World.news_of_block (cs := #[.int .i64 th, .int .i64 k, .bool al]) (t := 27) (fr := (0, 0)) (heap_alloc_new w5 _); clear hb5 t5 o5))
                      | (at_builtin; go_must (refine wpList_append_off rfl _ _ 38 rfl 27 i0 _ 3 24 Try.underlying38 hi0 hz0 hz1 hz2 rfl _ 0 [] rfl (offRow.nil _ 3) ⟨w5.heap.size, 0, none⟩ 1 1 [.int .i64 th, .int .i64 k, .bool al] rfl rfl hnews ?_ ?_ ?_ ?_ ?_; (simp [Value.oneCell']); (unfold maxLen; omega); omega; omega; intro v' w6 hr hg hv; obtain ⟨A9, c9, rfl⟩ := off_slice hr; have H9 := hide (Own.growOff ((O5.out.alloc (.cells #[.int .i64 th, .int .i64 k, .bool al] 27)).nilOff 3) hr hg hv); clear hr hg hv)))
                    go_meet
                    exact ⟨[⟨th, k, al⟩], _, _, A9, c9, p5, rfl, hide (HNX.out p5 T5.out), hide H9.out⟩
                  | false =>
                    rw [hq] at KA HNX
                    clear hq
                    go_wp2_with (go_at_call 11; refine KA.out.mono ?_; rintro e w5 ⟨rfl, p5, t5, o5⟩; have T5 := hide t5; have O5 := hide (o5.nilOff 3); clear t5 o5)
                    go_meet
                    exact ⟨[], _, _, none, 0, p5, rfl, hide (HNX.out p5 T5.out), hide O5.out⟩
                · obtain ⟨m0, m1⟩ := int_neb hwz
                  have KR := hide (trel_to HS.out.1 HS.out.2.1 HO.out th k hwg rfl rfl rfl)
                  have HNX := hide (show (∀ ps', TB g (relH H R th k) (relR H R th k) i ps' → SfC g i H (relH H R th k) (relR H R th k) (gotP H R th k) ps' k) from fun ps' ⟨bt, bw, l, e, q1, q2⟩ => ⟨⟨bt, bw, l, e, q1, by omega⟩, HS.out.2.1.ok.rel th k, by have := got_cnt HS.out.2.1.ok th k; have := HS.out.2.2; omega, stp_rel th k, by have := HS.out.2.2; have := congrArg List.length (got_rest H R th k); have := onT_len k R; simp only [List.length_append] at *; omega⟩)
                  clear HS HF hwz
                  go_wp2_with (go_at_call 14; refine KR.out.mono ?_; rintro e w5 ⟨A5, c5, p5, rfl, t5, o5⟩; have T5 := hide t5; have O5 := hide o5; clear t5 o5)
                  go_meet
                  exact ⟨_, _, _, A5, c5, p5, rfl, hide (HNX.out p5 T5.out), hide O5.out⟩
              case rest =>
                obtain ⟨got, H', R', A', c', ps', rfl, HC, HO5⟩ := hcut
                clear z0 z1 z2 HO HS hy0
                have hsm : Sm H' R' (i + 1) := ⟨HC.out.ok, by have := HC.out.cnt; omega, by omega⟩
                have hb5 := HBL.out wc _ HO5.out (by simp)
                have z1 := hb5.cell 1
                have KH := hide (tholders_n HC.out.t hsm HO5.out.back k hwg rfl)
                have hml : (sortI ((onT (k : Int) H').map Lk.th)).length = (onT (k : Int) H').length := by rw [sortI_len, List.length_map]
                rw [hml] at KH
                obtain ⟨m, hm⟩ : ∃ m, (onT (k : Int) H').length = m := ⟨_, rfl⟩
                obtain ⟨G, hG⟩ : ∃ G, got.length = G := ⟨_, rfl⟩
                have HGL := hide hG
                have HML := hide hm
                have HTE := hide (fun (b0 : Bool) (hb : b0 = decide (m = G)) => SfI.step HF.out.1 HC.out.s hk HF.out.2 b0 (by rw [hm, hG]; exact hb))
                have hGb : G < 1099511627776 := by
                  have := HC.out.gl
                  omega
                have hmb : m < 1099511627776 := by
                  have h1 := onT_len k H'
                  have := HC.out.cnt
                  omega
                rw [hm] at KH
                rw [hG] at HO5 HTE KH ⊢
                clear hm hG hml hb5
                have KH2 := hide (fun V F (h : Own w1.heap.size w1 V (ps' ++ F)) => tholders_n HC.out.t hsm h k hwg (xs := sortI ((onT (k : Int) H').map Lk.th)) rfl)
                rw [show (sortI ((onT (k : Int) H').map Lk.th)).length = m by rw [sortI_len, List.length_map]; exact HML.out] at KH2
                have KO := hide (fun V F th' (h : Own w1.heap.size w1 V (ps' ++ F)) => tholds_c HC.out.t hsm h th' k hwg)
                have HAR := hide (fun (b0 : Bool) (r : Nat) => (arrS_len a got k r b0).trans HF.out.2)
                have HSU := hide (fun (b0 : Bool) (r : Nat) (h : r < got.length) => @arrS_succ a got k r b0 h)
                have HA0 := hide (fun (b0 : Bool) => show arrS a got k 0 b0 = if b0 then a.set k false else a from rfl)
                go_upto_if 89 with (go_at_call 15; refine KH.out.mono ?_; rintro e w5 ⟨A5, c5, rfl, o5⟩; have O5 := hide o5.tail; have hb6 := HBL.out w5 _ o5.tail (by simp); have z1 := hb6.cell 1; clear o5 hb6)
                go_cut [] from 82 to 93 (fun wx => Hid (Own w1.heap.size w1 wx (ps' ++ (offA 3 (.slice A' G c') G (cellsK got) :: (blkA b9 #[.int .i64 th, .int .i64 k, .bool al] 27 :: [alA bl (arrS a got k 0 (decide (m = G)))])))))
                case first =>
                  obtain ⟨y4, y5⟩ := alA_cell O5.out (a := a) (bl := bl) (by simp) HF.out.2 hk
                  by_cases hmg : m = G
                  · have q0 : ((m : Int) == (G : Int)) = true := by rw [hmg]; simp
                    have q1 : decide (m = G) = true := by simp [hmg]
                    have HAL := hide (show arrS a got k 0 (decide (m = G)) = a.set k false from by rw [q1]; exact HA0.out true)
                    clear hmg q1
                    go_wp2
                    go_meet
                    rw [HAL.out]
                    exact hide (alB (alA_set (alF O5.out) k false))
                  · have q0 : ((m : Int) == (G : Int)) = false := by simp; omega
                    have q1 : decide (m = G) = false := by simp [hmg]
                    have HAL := hide (show arrS a got k 0 (decide (m = G)) = a from by rw [q1]; exact HA0.out false)
                    clear hmg q1
                    go_wp2
                    go_meet
                    rw [HAL.out]
                    exact O5
                case rest =>
                  have HO6 := hcut
                  clear hcut KH z1
                  have HTE2 := hide (HTE.out _ rfl)
                  clear HTE
                  generalize decide (m = G) = b0 at HO6 HTE2
                  go_upto_region 21 with (fail)
                  go_loopg [12] G (fun mm v12 V => ∃ r : Nat, mm = G - r ∧ r ≤ G ∧ v12 = .int .i64 r ∧ Hid (Own w1.heap.size w1 V (ps' ++ (offA 3 (.slice A' G c') G (cellsK got) :: (blkA b9 #[.int .i64 th, .int .i64 k, .bool al] 27 :: [alA bl (arrS a got k r b0)])))))
                  case atStart => exact ⟨0, by omega, by omega, rfl, HO6⟩
                  case round =>
                    obtain ⟨r, rfl, hr, rfl, HO7⟩ := hrel
                    clear HO6
                    have hb7 := HBL.out wr _ HO7.out (by simp)
                    have z1 := hb7.cell 1
                    by_cases hrl : r < G
                    · have hrg : r < got.length := by rw [HGL.out]; exact hrl
                      have p1 : (r : Int) < (G : Int) := by omega
                      have p0 : (0 : Int) ≤ (r : Int) := by omega
                      have hmem := HO7.out
                      rw [← HGL.out] at hmem
                      obtain ⟨bg, og, rfl, u0, u1, u2⟩ := off_at (c := c') (l := got) hmem (List.mem_append_right _ List.mem_cons_self) hrg
                      obtain ⟨hgm, hgt⟩ := HC.out.s.mem _ (List.getElem_mem hrg)
                      have hhold : holdsP H' got[r].th k = true := holdsP_mem.2 ⟨_, hgm, rfl, hgt⟩
                      rw [hgt] at u1
                      obtain ⟨y4, y5⟩ := alA_cell HO7.out (a := arrS a got k r b0) (bl := bl) (by simp) (HAR.out b0 r) hk
                      have HSU2 := hide (HSU.out b0 r hrg)
                      have HOF := hide (fun V X (h : Own w1.heap.size w1 V X) (hm : offA 3 (.slice (some ⟨bg, og, none⟩) G c') G (cellsK got) ∈ X) => show V.cell? ⟨bg, og + r * 3, none⟩ = some (.int .i64 got[r].th) ∧ V.cell? ⟨bg, og + r * 3 + 1, none⟩ = some (.int .i64 k) from by
                        rw [← HGL.out] at hm
                        obtain ⟨b, o, e, h0, h1, -⟩ := off_at (c := c') (l := got) h hm hrg
                        cases e
                        rw [hgt] at h1
                        exact ⟨h0, h1⟩)
                      clear hgm hgt hmem hb7
                      generalize got[r].th = gth at u0 hhold HOF
                      generalize got[r].al = gal at u2 HSU2
                      go_upto_region 23 with (fail)
                      go_cut [] from 100 to 108 (fun wx => Hid (Own w1.heap.size w1 wx (ps' ++ (offA 3 (.slice (some ⟨bg, og, none⟩) G c') G (cellsK got) :: (blkA b9 #[.int .i64 th, .int .i64 k, .bool al] 27 :: [alA bl (arrS a got k (r + 1) b0)])))))
                      case first =>
                        go_region
                        all_goals
                          go_wp2
                          go_meet
                          rw [← HSU2.out]
                          first
                            | exact hide (alB (alA_set (alF HO7.out.drew) k gal))
                            | exact hide (alB (alA_set (alF HO7.out) k gal)).drew
                      case rest =>
                        have HO8 := hcut
                        clear hcut HO7 u0 u1 u2 z1 y4 y5 HSU2
                        obtain ⟨u0, u1⟩ := HOF.out wc _ HO8.out (by simp)
                        have z1 := (HBL.out wc _ HO8.out (by simp)).cell 1
                        have KO2 := hide (KO.out wc.drew _ gth HO8.out.drew)
                        rw [hhold] at KO2
                        have HCE := hide (fun V (h : Own w1.heap.size w1 V (ps' ++ (offA 3 (.slice (some ⟨bg, og, none⟩) G c') G (cellsK got) :: (blkA b9 #[.int .i64 th, .int .i64 k, .bool al] 27 :: [alA bl (arrS a got k (r + 1) b0)])))) => And.intro (HOF.out V _ h (by simp)) ((HBL.out V _ h (by simp)).cell 1))
                        clear hhold
                        go_upto_region 24 with (fail)
                        go_cut [128] from 109 to 128 (fun v wx => v = .bool false ∧ Hid (Own w1.heap.size w1 wx (ps' ++ (offA 3 (.slice (some ⟨bg, og, none⟩) G c') G (cellsK got) :: (blkA b9 #[.int .i64 th, .int .i64 k, .bool al] 27 :: [alA bl (arrS a got k (r + 1) b0)])))))
                        case first =>
                          go_region_held3 (fun V => V.cell? ⟨bg, og + r * 3, none⟩ = some (.int .i64 gth) ∧ V.cell? ⟨bg, og + r * 3 + 1, none⟩ = some (.int .i64 k) ∧ V.cell? ⟨b9, 1, none⟩ = some (.int .i64 k)) (first | exact ⟨u0, u1, z1⟩ | exact ⟨u3, u4, z3⟩) (first
                            | (go_at_call 16; refine KO2.out.mono ?_; rintro e w6 ⟨rfl, h6⟩; obtain ⟨⟨u3, u4⟩, z3⟩ := HCE.out w6 h6; have H6 := hide h6; clear h6))
                          all_goals
                            go_wp2
                            go_meet
                            exact ⟨rfl, H6⟩
                        case rest =>
                          obtain ⟨rfl, HO9⟩ := hcut
                          clear u0 u1 z1 HCE HOF KO2 HO8
                          go_wp2
                          go_roundg (G - (r + 1))
                          case measure => omega
                          case rel => exact ⟨r + 1, by omega, by omega, by go_num, HO9⟩
                    · obtain rfl : r = G := by omega
                      have p1 : ¬ (r : Int) < (r : Int) := by omega
                      obtain ⟨y4, y5⟩ := alA_cell HO7.out (a := arrS a got k r b0) (bl := bl) (by simp) (HAR.out b0 r) hk
                      have HSI := hide (HTE2.out k hk)
                      have p2 : (k : Int) < 10 := by omega
                      have p3 : (0 : Int) ≤ (k : Int) := by omega
                      have KH3 := hide (KH2.out wr _ HO7.out)
                      have HFI := hide (fun V (h : Own w1.heap.size w1 V (ps' ++ (offA 3 (.slice A' r c') r (cellsK got) :: (blkA b9 #[.int .i64 th, .int .i64 k, .bool al] 27 :: [alA bl (arrS a got k r b0)])))) => show SfP w1.heap.size w1 g bl (i + 1) V from ⟨H', R', ps', arrS a got k r b0, HC.out.t, HC.out.ok, HC.out.cnt, HTE2.out, HAR.out b0 r, h.sub (List.Sublist.append (List.Sublist.refl _) ((List.sublist_cons_self _ _).trans (List.sublist_cons_self _ _)))⟩)
                      clear hb7 KH2 KO
                      cases hv : (arrS a got k r b0).getD k false with
                      | false =>
                        rw [hv] at y4
                        clear hv HSI
                        go_wp2
                        go_roundg (xs.length - (i + 1))
                        case measure => omega
                        case rel => exact ⟨i + 1, by omega, by omega, by go_num, hide (HFI.out _ HO7.out)⟩
                      | true =>
                        rw [hv] at y4
                        have hm1 : ¬ (1 : Int) < (m : Int) := by have := HSI.out hv; rw [HML.out] at this; omega
                        clear hv HSI
                        go_wp2_with (go_at_call 15; refine KH3.out.mono ?_; rintro e w6 ⟨A6, c6, rfl, o6⟩; have O6 := hide o6.tail; clear o6)
                        go_roundg (xs.length - (i + 1))
                        case measure => omega
                        case rel => exact ⟨i + 1, by omega, by omega, by go_num, hide (HFI.out _ O6.out)⟩
    · obtain rfl : i = xs.length := by omega
      have o1 : ¬ (xs.length : Int) < (xs.length : Int) := by omega
      go_wp2
      go_ret
      exact ⟨rfl, HB.out.trans (ho.below.mono HB.out.size)⟩
theorem LocksSafe_walk (W : World) (A : Option Addr) (len cap : Nat) (xs : List Ac) (hlen : xs.length = len) (hcap : len ≤ cap) (hok : AcsOk xs) (hC : kAc.C W A xs) (n : Int) (hn : (Lit.int .i64 n).wf = true) :
    Calls Try.prog 5 #[.slice A len cap, .int .i64 n] W fun e W' => e = .returned (.bool true) ∧ Below W.heap.size W W' := by
  subst hlen
  by_cases h : 200 < xs.length ∨ n < 1 ∨ 20 < n
  · exact safe_out W A xs.length cap n h
  · exact safe_in W A cap xs n (by omega) (by omega) (by omega) hok.1 hC
end Go.Proofs.Ytcmiboipgngjaaa
