/-
  The walk of Release, over the things. Conditions: lengths.
-/
import Derived.Test.YtcmiboipgngjaaaN
namespace Go.Proofs.Ytcmiboipgngjaaa
set_option linter.unusedVariables false
set_option linter.unusedSimpArgs false
open Go.RowKit Go.Maps

section
variable {n : Nat} {w W : World} {F : List Atom} {g bt bw : Nat} {l l1 l2 : List Tm} {t : Tm} {f : Int → Option Lk} {M : (Int → Option Value) → Atom}
set_option maxHeartbeats 1000000 in
theorem release_no (h : Own n w W (tPartsM M g bt bw l f ++ F)) (k th : Int) (hw : (Lit.int .i64 k).wf = true) (hl : ∀ t ∈ l, t.h.length < 1099511627776) (hh : holdsL l k th = false) (hM : MapLike bt M := by first | assumption | exact mlike _) :
    Calls Try.prog 14 #[.pointer (some ⟨g, 0, none⟩), .int .i64 th, .int .i64 k] W fun e W' => e = .returned (.slice none 0 0) ∧ Own n w W' (tPartsM M g bt bw l f ++ F) := by
  have h1 := h.alloc (.cells #[.int .i64 th] 3)
  have HC := hide (hh ▸ holds_c h1 k th hw hl)
  have H1 := hide h1
  clear h h1
  go_enter Try.func14, Try.ntmps14
  go_wp2_with (go_at_call 16; refine HC.out.mono ?_; rintro e w2 ⟨rfl, hb2⟩; have HB2 := hide (H1.out.above hb2); clear hb2)
  go_ret
  exact ⟨rfl, HB2.out⟩
theorem drew_cell {W V : World} {a : Addr} {v : Value} (hb : Below W.drew.heap.size W.drew V) (h : W.cell? a = some v) : V.cell? a = some v := (hb.cell (World.block_lt_of_cell? W.drew _ h)).trans h
/-- the state of Release's loop -/
def RelP (M : (Int → Option Value) → Atom) (n : Nat) (w : World) (g bt bw bx : Nat) (th : Int) (l1 : List Tm) (t : Tm) (l2 : List Tm) (f : Int → Option Lk) (F : List Atom) (vo vh vw : Value) (os ds hs ws : List Lk) (W : World) : Prop :=
  Own n w W (offA 3 vo os.length (cellsK os) :: (tPartsM M g bt bw (l1 ++ ⟨t.n, t.x, vh, vw, hs, ws⟩ :: l2) (delF f ds) ++ (blkA bx #[.int .i64 th] 3 :: F)))
/-- what is granted so far, and what is to come -/
def RelQ (t : Tm) (th : Int) (os hs ws : List Lk) : Prop :=
  hs = t.h.filter (fun x => !(x.th == th)) ++ os ∧ os ++ (grantL hs ws).1 = (grantL (t.h.filter (fun x => !(x.th == th))) t.w).1 ∧ (grantL hs ws).2 = (grantL (t.h.filter (fun x => !(x.th == th))) t.w).2
def RelEnd (M : (Int → Option Value) → Atom) (n : Nat) (w : World) (g bt bw : Nat) (th : Int) (l1 : List Tm) (t : Tm) (l2 : List Tm) (f : Int → Option Lk) (F : List Atom) (gr rest : List Lk) (e : Ending) (W' : World) : Prop :=
  ∃ v vh vw, e = .returned v ∧ Own n w W' (offA 3 v gr.length (cellsK gr) :: (tPartsM M g bt bw (l1 ++ ⟨t.n, t.x, vh, vw, t.h.filter (fun x => !(x.th == th)) ++ gr, rest⟩ :: l2) (delF f gr) ++ F))
theorem RelQ.step {th : Int} {os hs ws : List Lk} {x : Lk} (h : RelQ t th os hs (x :: ws)) (hb : besideL hs x = true) : RelQ t th (os ++ [x]) (hs ++ [x]) ws := by
  obtain ⟨h1, h2, h3⟩ := h
  rw [grant_yes hb] at h2 h3
  exact ⟨by rw [h1, List.append_assoc], by rw [List.append_assoc]; exact h2, h3⟩
theorem RelQ.stop {th : Int} {os hs ws : List Lk} (h : RelQ t th os hs ws) (hb : ∀ x r, ws = x :: r → besideL hs x = false) : os = (grantL (t.h.filter (fun x => !(x.th == th))) t.w).1 ∧ ws = (grantL (t.h.filter (fun x => !(x.th == th))) t.w).2 := by
  obtain ⟨h1, h2, h3⟩ := h
  cases ws with
  | nil => rw [grantL] at h2 h3; exact ⟨by simpa using h2, h3⟩
  | cons x r => rw [grant_no (hb x r rfl)] at h2 h3; exact ⟨by simpa using h2, h3⟩
theorem RelQ.app {th : Int} {os hs ws : List Lk} (h : RelQ t th os hs ws) : os ++ ws = t.w := by
  obtain ⟨h1, h2, h3⟩ := h
  rw [← grant_split hs ws, ← List.append_assoc, h2, h3, grant_split]
theorem RelQ.len {th : Int} {os hs ws : List Lk} (h : RelQ t th os hs ws) : hs.length + ws.length ≤ t.h.length + t.w.length := by
  have h1 := congrArg List.length h.app
  have h2 := congrArg List.length h.1
  have h3 := List.length_filter_le (fun x => !(x.th == th)) t.h
  simp only [List.length_append] at h1 h2
  omega
theorem RelP.fin {bx : Nat} {th : Int} {vo vh vw : Value} {os hs ws : List Lk} (h : RelP M n w g bt bw bx th l1 t l2 f F vo vh vw os os hs ws W) (hq : RelQ t th os hs ws) (hb : ∀ x r, ws = x :: r → besideL hs x = false) :
    RelEnd M n w g bt bw th l1 t l2 f F (grantL (t.h.filter (fun x => !(x.th == th))) t.w).1 (grantL (t.h.filter (fun x => !(x.th == th))) t.w).2 (.returned vo) W := by
  obtain ⟨e1, e2⟩ := hq.stop hb
  rw [← e1, ← e2]
  refine ⟨vo, vh, vw, rfl, ?_⟩
  unfold RelP at h
  rw [← hq.1]
  exact h.sub ((List.Sublist.append (List.Sublist.refl _) (List.sublist_cons_self _ _)).cons_cons _)
theorem RelP.nil {bx : Nat} {th : Int} {vh vw : Value} {hs ws : List Lk} (h : Own n w W (tPartsM M g bt bw (l1 ++ ⟨t.n, t.x, vh, vw, hs, ws⟩ :: l2) f ++ (blkA bx #[.int .i64 th] 3 :: F))) : RelP M n w g bt bw bx th l1 t l2 f F (.slice none 0 0) vh vw [] [] hs ws W := by
  have e : delF f [] = f := by funext y; rfl
  unfold RelP
  rw [e]
  exact h.nilOff 3
section
variable {bx : Nat} {th : Int} {vo vh vw : Value} {os ds hs ws r : List Lk} {x : Lk} {Ah : Option Addr} {ch gw ow cw : Nat}
theorem RelP.reads (h : RelP M n w g bt bw bx th l1 t l2 f F vo (.slice Ah hs.length ch) (.slice (some ⟨gw, ow, none⟩) (r.length + 1) cw) os ds hs (x :: r) W) :
    W.cell? ⟨t.x, 0, none⟩ = some (.slice Ah hs.length ch) ∧ W.cell? ⟨t.x, 1, none⟩ = some (.slice (some ⟨gw, ow, none⟩) (r.length + 1) cw) ∧ W.cell? ⟨gw, ow, none⟩ = some (.int .i64 x.th) ∧ W.cell? ⟨gw, ow + 1, none⟩ = some (.int .i64 x.tg) ∧ W.cell? ⟨gw, ow + 2, none⟩ = some (.bool x.al) ∧ LksAt W Ah hs ∧ W.frozen? ⟨t.x, 1, none⟩ = false := by
  have ho := tm_open (show Own n w W (tPartsM M g bt bw (l1 ++ ⟨t.n, t.x, .slice Ah hs.length ch, .slice (some ⟨gw, ow, none⟩) (r.length + 1) cw, hs, x :: r⟩ :: l2) (delF f ds) ++ (blkA bx #[.int .i64 th] 3 :: F)) from h.tail)
  dsimp only at ho
  have hb : Blk W t.x #[.slice Ah hs.length ch, .slice (some ⟨gw, ow, none⟩) (r.length + 1) cw] 59 := ho.head
  have h1 : offRow W 3 (.slice Ah hs.length ch) hs.length (cellsK hs) := ho.tail.head
  have h2 : offRow W 3 (.slice (some ⟨gw, ow, none⟩) (r.length + 1) cw) (r.length + 1) (cellsK (x :: r)) := ho.tail.tail.head
  obtain ⟨g', o', e, hc⟩ := off_lks h2 (by simp)
  cases e
  obtain ⟨u0, u1, u2⟩ := hc 0 (by simp)
  simp only [Nat.zero_mul, Nat.add_zero, List.getElem_cons_zero] at u0 u1 u2
  exact ⟨hb.cell 0, hb.cell 1, u0, u1, u2, off_lks h1, hb.frozen 1⟩
theorem RelP.box (h : RelP M n w g bt bw bx th l1 t l2 f F vo vh vw os ds hs ws W) (cs : Array Value) : RelP M n w g bt bw bx th l1 t l2 f (blkA W.heap.size cs 27 :: F) vo vh vw os ds hs ws (W.alloc (.cells cs 27)) := by
  unfold RelP at h ⊢
  refine (h.newBlk cs 27).perm ?_
  simpa using permB [[blkA W.heap.size cs 27], [offA 3 vo os.length (cellsK os)], tPartsM M g bt bw (l1 ++ ⟨t.n, t.x, vh, vw, hs, ws⟩ :: l2) (delF f ds), [blkA bx #[.int .i64 th] 3], F] [0, 1, 2, 3, 4] [1, 2, 3, 0, 4] (by decide)
theorem RelP.unbox {a : Atom} (h : RelP M n w g bt bw bx th l1 t l2 f (a :: F) vo vh vw os ds hs ws W) : RelP M n w g bt bw bx th l1 t l2 f F vo vh vw os ds hs ws W := by
  unfold RelP at h ⊢
  exact h.sub ((List.Sublist.append (List.Sublist.refl _) ((List.sublist_cons_self _ _).cons_cons _)).cons_cons _)
theorem RelP.opened (h : RelP M n w g bt bw bx th l1 t l2 f F vo vh vw os ds hs ws W) : Own n w W (blkA t.x #[vh, vw] 59 :: offA 3 vh hs.length (cellsK hs) :: offA 3 vw ws.length (cellsK ws) :: (Tm.rest M g bt bw l1 t l2 (delF f ds) ++ (offA 3 vo os.length (cellsK os) :: blkA bx #[.int .i64 th] 3 :: F))) := by
  unfold RelP at h
  have h2 := tm_open (t := ⟨t.n, t.x, vh, vw, hs, ws⟩) (F := offA 3 vo os.length (cellsK os) :: blkA bx #[.int .i64 th] 3 :: F) h.back
  unfold Tm.rest at h2 ⊢
  rw [locT_set (t := t) (t' := ⟨t.n, t.x, vh, vw, hs, ws⟩) rfl rfl] at h2
  exact h2
theorem RelP.shut (h : Own n w W (blkA t.x #[vh, vw] 59 :: offA 3 vh hs.length (cellsK hs) :: offA 3 vw ws.length (cellsK ws) :: (Tm.rest M g bt bw l1 t l2 (delF f ds) ++ (offA 3 vo os.length (cellsK os) :: blkA bx #[.int .i64 th] 3 :: F)))) : RelP M n w g bt bw bx th l1 t l2 f F vo vh vw os ds hs ws W := by
  have h2 := tm_shut (t := t) (t' := ⟨t.n, t.x, vh, vw, hs, ws⟩) rfl rfl h
  unfold RelP
  exact h2.front
theorem RelP.cut {A' : Option Addr} {c' : Nat} (h : RelP M n w g bt bw bx th l1 t l2 f F vo vh (.slice (some ⟨gw, ow, none⟩) (r.length + 1) cw) os ds hs (x :: r) W)
    (hq : ∀ V xs, offRow V 3 (.slice (some ⟨gw, ow, none⟩) (r.length + 1) cw) (r.length + 1) xs → offRow V 3 (.slice A' r.length c') r.length (xs.drop 3)) (hb : (Value.slice A' r.length c').ownBlock = (Value.slice (some ⟨gw, ow, none⟩) (r.length + 1) cw).ownBlock) :
    RelP M n w g bt bw bx th l1 t l2 f F vo vh (.slice A' r.length c') os ds hs r (W.setCell ⟨t.x, 1, none⟩ (.slice A' r.length c')) := by
  have h2 := h.opened.setBlk 1 (.slice A' r.length c')
  have h3 := h2.f2
  have h4 := h3.turn (a' := offA 3 (.slice A' r.length c') r.length (cellsK r)) hb (hq _ _ h3.head)
  exact RelP.shut h4.f1.f2.f1
theorem RelP.del (h : RelP M n w g bt bw bx th l1 t l2 f F vo vh vw os ds hs ws W) (x : Lk) (hw : (Lit.int .i64 x.th).wf = true) (ty : TypeId) :
    ∃ W4, (Builtin.delete_ #[51, 3] ty #[.map (some bw), .int .i64 x.th]).run Try.prog W = .ok (.tuple #[]) W4 ∧ RelP M n w g bt bw bx th l1 t l2 f F vo vh vw os (ds ++ [x]) hs ws W4 := by
  unfold RelP at h
  obtain ⟨W4, h1, h2⟩ := del_waits (F := offA 3 vo os.length (cellsK os) :: blkA bx #[.int .i64 th] 3 :: F) h.back x hw ty
  exact ⟨W4, h1, h2.front⟩
end
set_option maxHeartbeats 4000000 in
set_option maxRecDepth 100000 in
theorem release_go (h : Own n w W (tPartsM M g bt bw (l1 ++ t :: l2) f ++ F)) (k th : Int) (hw : (Lit.int .i64 k).wf = true) (hfind : (l1 ++ t :: l2).find? (fun t => t.n == k) = some t) (hl : ∀ u ∈ l1 ++ t :: l2, u.h.length < 1099511627776) (htl : t.h.length + t.w.length < 1099511627776)
    (hww : ∀ x ∈ t.w, (Lit.int .i64 x.th).wf = true) (hh : t.h.any (fun x => x.th == th) = true) (hM : MapLike bt M := by first | assumption | exact mlike _) :
    Calls Try.prog 14 #[.pointer (some ⟨g, 0, none⟩), .int .i64 th, .int .i64 k] W fun e W' => RelEnd M n w g bt bw th l1 t l2 f F (grantL (t.h.filter (fun x => !(x.th == th))) t.w).1 (grantL (t.h.filter (fun x => !(x.th == th))) t.w).2 e W' := by
  have h1 := (h.newBlk #[.int .i64 th] 3).back
  have hho : holdsL (l1 ++ t :: l2) k th = true := by unfold holdsL; rw [hfind]; exact hh
  have hhc := holds_c h1 k th hw hl
  rw [hho] at hhc
  have HC := hide hhc
  have H1 := hide h1
  have hmf := hmf_
  unfold Go.Proofs.Ytcmiboipgngjaaa.hmf at hmf
  have HLK := hide (fun V (h : Own n w V (tPartsM M g bt bw (l1 ++ t :: l2) f ++ (blkA W.heap.size #[.int .i64 th] 3 :: F))) => locT_some hfind ▸ look_things h k hw)
  have HWW := hide hww
  clear h h1 hhc hho hww hl hh
  go_enter Try.func14, Try.ntmps14
  go_upto_region 4 with (go_at_call 16; refine HC.out.mono ?_; rintro e w2 ⟨rfl, hb2⟩; have HB2 := hide (H1.out.above hb2); clear hb2; have z0 := (tab_cells HB2.out).1; have hlk := HLK.out _ HB2.out)
  generalize W.heap.size = bx at HB2 ⊢
  obtain ⟨Ah, ch, Aw, cw, e1, e2, c0, c1, hkh, hkw⟩ := tm_cells HB2.out
  have hop := (tm_open HB2.out).f1
  rw [e1] at hop
  have HD := hide (delete_c (t := th) (b := bx) hop (by simp) (by omega))
  clear hkh hkw hop HC HLK H1 z0 hlk
  go_upto_region 5 with (go_at_call 32; go_must (refine HD.out.mono ?_; rintro e w3 ⟨v3, rfl, h3⟩; obtain ⟨A3, c3, rfl⟩ := off_slice h3.head; have HE := hide h3; have p0 : w3.cell? ⟨t.x, 0, none⟩ = some (.slice Ah t.h.length ch) := h3.tail.head.cell 0; have p1 : w3.frozen? ⟨t.x, 0, none⟩ = false := h3.tail.head.frozen 0; clear h3))
  have h4 := HE.out.f1.setBlk 0 (.slice A3 (t.h.filter (fun x => !(x.th == th))).length c3)
  have h5 := tm_shut (t := t) (t' := ⟨t.n, t.x, .slice A3 (t.h.filter (fun x => !(x.th == th))).length c3, t.vw, t.h.filter (fun x => !(x.th == th)), t.w⟩) rfl rfl h4
  have HS := hide (RelP.nil h5)
  clear h4 h5 HE HD p0 p1 c0 c1 e1 e2 HB2
  generalize w3.setCell ⟨t.x, 0, none⟩ (.slice A3 (t.h.filter (fun x => !(x.th == th))).length c3) = w4 at HS ⊢
  have HQ : RelQ t th [] (t.h.filter (fun x => !(x.th == th))) t.w := ⟨by simp, by simp, rfl⟩
  have hfl := List.length_filter_le (fun x => !(x.th == th)) t.h
  go_wp2
  go_loopg [8] t.w.length (fun mm v8 wr => ∃ os hs ws A8 c8 vh vw, mm = ws.length ∧ v8 = .slice A8 os.length c8 ∧ RelQ t th os hs ws ∧ Hid (RelP M n w g bt bw bx th l1 t l2 f F (.slice A8 os.length c8) vh vw os os hs ws wr))
  case atStart => exact ⟨[], _, t.w, none, 0, _, t.vw, rfl, rfl, HQ, HS⟩
  case round =>
    obtain ⟨os, hs, ws, A8, c8, vh, vw, rfl, rfl, HQ1, HR⟩ := hrel
    have hlen := HQ1.len
    have happ := HQ1.app
    obtain ⟨Ah, ch, Aw, cw, e1, e2, c0, c1, hkh, hkw⟩ := tm_cells HR.out.tail
    dsimp only at c0 c1 hkh hkw e1 e2
    subst e1 e2
    have HFIN := hide (fun V (h : RelP M n w g bt bw bx th l1 t l2 f F (.slice A8 os.length c8) (.slice Ah hs.length ch) (.slice Aw ws.length cw) os os hs ws V) => RelP.fin h HQ1)
    cases ws with
    | nil =>
      have HF := hide (fun V h => HFIN.out V h (fun x r e => by cases e))
      clear HFIN hkh hkw
      have c1 : wr.cell? ⟨t.x, 1, none⟩ = some (.slice Aw 0 cw) := c1
      go_upto_region 6 with (fail)
      go_region
      all_goals
        go_wp2
        go_ret
        exact HF.out _ (show RelP M n w g bt bw bx th l1 t l2 f F (.slice A8 os.length c8) (.slice Ah hs.length ch) (.slice Aw 0 cw) os os hs [] _ from Own.drew HR.out)
    | cons x r =>
      have c1 : wr.cell? ⟨t.x, 1, none⟩ = some (.slice Aw (r.length + 1) cw) := c1
      obtain ⟨gw, ow, rfl, hcw⟩ := hkw (by simp)
      obtain ⟨u0, u1, u2⟩ := hcw 0 (by simp)
      simp only [Nat.zero_mul, Nat.add_zero, List.getElem_cons_zero] at u0 u1 u2
      have HB := hide (beside_c Ah ch hs x wr.drew (hkh.below (Below.drew (Below.refl _ _))) (by omega))
      have hxw := HWW.out x (by rw [← happ]; simp)
      have HSTEP := hide (fun hb => HQ1.step hb)
      clear hcw hkh
      unfold Lk.v at HB
      cases hb : besideL hs x with
      | false =>
        rw [hb] at HB
        have HF := hide (fun V h => HFIN.out V h (fun y s e => by cases e; exact hb))
        clear HFIN HSTEP hb
        go_upto_region 6 with (fail)
        go_region_held3 (fun V => V.cell? ⟨t.x, 0, none⟩ = some (.slice Ah hs.length ch) ∧ V.cell? ⟨t.x, 1, none⟩ = some (.slice (some ⟨gw, ow, none⟩) (r.length + 1) cw) ∧ V.cell? ⟨gw, ow, none⟩ = some (.int .i64 x.th) ∧ V.cell? ⟨gw, ow + 1, none⟩ = some (.int .i64 x.tg) ∧ V.cell? ⟨gw, ow + 2, none⟩ = some (.bool x.al)) (first | exact ⟨c0, c1, u0, u1, u2⟩ | exact ⟨d0, d1, d2, d3, d4⟩) (first
          | (go_at_call 26; refine HB.out.mono ?_; rintro e w5 ⟨rfl, hb5⟩; have HB5 := hide (show Own n w w5 _ from (Own.drew HR.out).above hb5); have d0 := drew_cell hb5 c0; have d1 := drew_cell hb5 c1; have d2 := drew_cell hb5 u0; have d3 := drew_cell hb5 u1; have d4 := drew_cell hb5 u2; clear hb5))
        all_goals
          go_wp2
          go_ret
          exact HF.out _ HB5.out
      | true =>
        rw [hb] at HB
        have HNQ := HSTEP.out hb
        clear HFIN HSTEP hb
        have HR1 : Hid (RelP M n w g bt bw bx th l1 t l2 f F (.slice A8 os.length c8) (.slice Ah hs.length ch) (.slice (some ⟨gw, ow, none⟩) (r.length + 1) cw) os os hs (x :: r) wr) := HR
        clear HR
        obtain ⟨A', c', hsl, hcq, hcb⟩ := cut38 gw ow r.length cw (off_le (show offRow wr 3 (.slice (some ⟨gw, ow, none⟩) (r.length + 1) cw) (r.length + 1) (cellsK (x :: r)) from HR1.out.opened.tail.tail.head))
        have HCQ := hide (And.intro hcq hcb)
        clear hcq hcb
        go_upto_region 6 with (fail)
        go_cut [53] from 32 to 85 (fun v wx => v = .bool true ∧ Hid (RelP M n w g bt bw bx th l1 t l2 f F (.slice A8 os.length c8) (.slice Ah hs.length ch) (.slice (some ⟨gw, ow, none⟩) (r.length + 1) cw) os os hs (x :: r) wx))
        case first =>
          go_region_held3 (fun V => V.cell? ⟨t.x, 0, none⟩ = some (.slice Ah hs.length ch) ∧ V.cell? ⟨t.x, 1, none⟩ = some (.slice (some ⟨gw, ow, none⟩) (r.length + 1) cw) ∧ V.cell? ⟨gw, ow, none⟩ = some (.int .i64 x.th) ∧ V.cell? ⟨gw, ow + 1, none⟩ = some (.int .i64 x.tg) ∧ V.cell? ⟨gw, ow + 2, none⟩ = some (.bool x.al)) (first | exact ⟨c0, c1, u0, u1, u2⟩ | exact ⟨d0, d1, d2, d3, d4⟩) (first
            | (go_at_call 26; refine HB.out.mono ?_; rintro e w5 ⟨rfl, hb5⟩; have HB5 := hide (show Own n w w5 _ from (Own.drew HR1.out).above hb5); have d0 := drew_cell hb5 c0; have d1 := drew_cell hb5 c1; have d2 := drew_cell hb5 u0; have d3 := drew_cell hb5 u1; have d4 := drew_cell hb5 u2; clear hb5))
          all_goals
            go_wp2
            go_meet
            exact ⟨rfl, HB5⟩
        case rest =>
          obtain ⟨rfl, HR2⟩ := hcut
          clear c0 c1 u0 u1 u2 HB HR1
          obtain ⟨c0, c1, u0, u1, u2, -, z1⟩ := HR2.out.reads
          have hbx := RelP.box HR2.out #[.int .i64 x.th, .int .i64 x.tg, .bool x.al]
          obtain ⟨k0, k1, -, -, -, -, k2⟩ := hbx.reads
          have HR3 := hide (hbx.cut HCQ.out.1 HCQ.out.2)
          clear hbx
          go_upto_region 9 with (fail)
          generalize (wc.alloc (.cells #[.int .i64 x.th, .int .i64 x.tg, .bool x.al] 27)).setCell ⟨t.x, 1, none⟩ (.slice A' r.length c') = w6 at HR3 ⊢
          generalize wc.heap.size = bl at HR3 ⊢
          clear k0 k1 k2 c0 c1 u0 u1 u2 z1 hsl
          have hb6 : Blk w6 bl #[.int .i64 x.th, .int .i64 x.tg, .bool x.al] 27 := HR3.out.hold (blkA bl #[.int .i64 x.th, .int .i64 x.tg, .bool x.al] 27) (by simp)
          have y0 := hb6.cell 0
          have y3 : w6.cell? ⟨g, 1, none⟩ = some (.map (some bw)) := (tab_cells HR3.out.tail).2.1
          obtain ⟨w7, hrun, h7⟩ := RelP.del (W := w6.drew) (Own.drew HR3.out) x hxw 0
          have H7 := hide h7
          clear h7 hb6
          go_cut [] from 71 to 76 (fun wx => Hid (RelP M n w g bt bw bx th l1 t l2 f (blkA bl #[.int .i64 x.th, .int .i64 x.tg, .bool x.al] 27 :: F) (.slice A8 os.length c8) (.slice Ah hs.length ch) (.slice A' r.length c') os (os ++ [x]) hs r wx))
          case first =>
            go_region
            all_goals
              go_wp2
              go_meet
              exact H7
          case rest =>
            clear H7 hrun y0 y3 HR3
            have HR4 := hcut
            clear hcut
            have hb7 : Blk wc bl #[.int .i64 x.th, .int .i64 x.tg, .bool x.al] 27 := HR4.out.hold (blkA bl #[.int .i64 x.th, .int .i64 x.tg, .bool x.al] 27) (by simp)
            have y0 := hb7.cell 0
            have y1 := hb7.cell 1
            have y2 := hb7.cell 2
            have hrl : r.length < 1099511627776 := by simp only [List.length_cons] at hlen; omega
            have HP := hide (put_c (i := 0) (W := wc.drew) HR4.out.opened.drew rfl x (by omega))
            unfold Lk.v at HP
            clear hb7
            go_upto_region 10 with (fail)
            go_cut [] from 77 to 81 (fun wx => ∃ vh', Hid (RelP M n w g bt bw bx th l1 t l2 f (blkA bl #[.int .i64 x.th, .int .i64 x.tg, .bool x.al] 27 :: F) (.slice A8 os.length c8) vh' (.slice A' r.length c') os (os ++ [x]) (hs ++ [x]) r wx))
            case first =>
              go_region_with (go_at_call 27; refine HP.out.mono ?_; rintro e w8 ⟨rfl, vh', h8⟩; have H8 := hide h8; clear h8)
              all_goals
                go_wp2
                go_meet
                exact ⟨vh', hide (RelP.shut (by rw [List.length_append]; exact H8.out))⟩
            case rest =>
              obtain ⟨vh', HR5⟩ := hcut
              clear HP y0 y1 y2 HR4
              have hb8 : Blk wc bl #[.int .i64 x.th, .int .i64 x.tg, .bool x.al] 27 := HR5.out.hold (blkA bl #[.int .i64 x.th, .int .i64 x.tg, .bool x.al] 27) (by simp)
              have y0 := hb8.cell 0
              have y1 := hb8.cell 1
              have y2 := hb8.cell 2
              obtain ⟨i0, hi0, hz0, hz1, hz2⟩ := info_parts info27
              have hoff : ∀ o, offRow (wc.alloc o) 3 (.slice A8 os.length c8) os.length (cellsK os) := fun o => (Own.alloc HR5.out o).head
              have hol : os.length < 1099511627776 := by have := congrArg List.length happ; simp only [List.length_append, List.length_cons] at this; omega
              have hnews : ∀ j u, ([.int .i64 x.th, .int .i64 x.tg, .bool x.al] : List Value)[j]? = some u → (wc.alloc (.cells #[.int .i64 x.th, .int .i64 x.tg, .bool x.al] 27)).cell? ((⟨wc.heap.size, 0, none⟩ : Addr).add j) = some u := World.news_of_block (cs := #[.int .i64 x.th, .int .i64 x.tg, .bool x.al]) (t := 27) (fr := (0, 0)) (heap_alloc_new wc _)
              go_wp2_with (at_builtin; go_must (refine wpList_append_off rfl _ _ 38 rfl 27 i0 _ 3 24 Try.underlying38 hi0 hz0 hz1 hz2 rfl _ _ _ rfl (hoff _) ⟨wc.heap.size, 0, none⟩ 1 1 [.int .i64 x.th, .int .i64 x.tg, .bool x.al] rfl rfl hnews ?_ ?_ ?_ ?_ ?_; (simp [Value.oneCell']); (unfold maxLen; omega); omega; omega; intro v' w' hr hg hv; obtain ⟨A9, c9, rfl⟩ := off_slice hr; have H9 := hide (Own.growOff (HR5.out.alloc _) hr hg hv); clear hr hg hv))
              go_roundg r.length
              case measure => simp
              case rel =>
                refine ⟨os ++ [x], hs ++ [x], r, A9, c9, vh', .slice A' r.length c', by omega, by rw [List.length_append]; rfl, HNQ, hide (RelP.unbox (a := blkA bl #[.int .i64 x.th, .int .i64 x.tg, .bool x.al] 27) ?_)⟩
                unfold RelP
                rw [List.length_append, cellsK_append]
                exact H9.out
end
end Go.Proofs.Ytcmiboipgngjaaa
