/-
  The walk of Ask, over the things. Conditions: lengths.
-/
import Derived.Test.YtcmiboipgngjaaaE
namespace Go.Proofs.Ytcmiboipgngjaaa
set_option linter.unusedVariables false
set_option linter.unusedSimpArgs false
open Go.RowKit Go.Maps

section
variable {n : Nat} {w W : World} {F : List Atom} {g bt bw : Nat} {l l1 l2 : List Tm} {f : Int → Option Lk}
/-- what region 1 reads, in both of its worlds -/
theorem ask_reads {M : (Int → Option Value) → Atom} (h : Own n w W (tPartsM M g bt bw l f ++ F)) {bx : Nat} {th : Int} (hw : (Lit.int .i64 th).wf = true) (q0 : W.cell? ⟨bx, 0, none⟩ = some (.int .i64 th)) (hM : MapLike bt M := by first | assumption | exact mlike _) :
    W.cell? ⟨g, 1, none⟩ = some (.map (some bw)) ∧ (W.alloc (.cells #[.int .i64 0, .int .i64 0, .bool false] 27)).cell? ⟨g, 1, none⟩ = some (.map (some bw)) ∧ (W.alloc (.cells #[.int .i64 0, .int .i64 0, .bool false] 27)).cell? ⟨bx, 0, none⟩ = some (.int .i64 th) ∧
    (Instr.lookup 51 (.map (some bw)) (.int .i64 th) true).run Try.prog W.drew = .ok (.tuple #[(waitF f th).getD (.agg #[.int .i64 0, .int .i64 0, .bool false]), .bool (waitF f th).isSome]) W.drew ∧
    (Instr.lookup 51 (.map (some bw)) (.int .i64 th) true).run Try.prog (W.alloc (.cells #[.int .i64 0, .int .i64 0, .bool false] 27)).drew = .ok (.tuple #[(waitF f th).getD (.agg #[.int .i64 0, .int .i64 0, .bool false]), .bool (waitF f th).isSome]) (W.alloc (.cells #[.int .i64 0, .int .i64 0, .bool false] 27)).drew := by
  have h2 := h.alloc (.cells #[.int .i64 0, .int .i64 0, .bool false] 27)
  exact ⟨(tab_cells h).2.1, (tab_cells h2).2.1, (Below.heap_cell_alloc W _ _ (World.block_lt_of_cell? _ _ q0)).trans q0, look_waits h.drew th hw, look_waits h2.drew th hw⟩
set_option maxHeartbeats 2000000 in
theorem ask_wait (h : Own n w W (tParts g bt bw l f ++ F)) (x y : Lk) (hw : (Lit.int .i64 x.th).wf = true) (hf : f x.th = some y) :
    Calls Try.prog 11 #[.pointer (some ⟨g, 0, none⟩), x.v] W fun e W' => e = .returned (.bool false) ∧ Own n w W' (tParts g bt bw l f ++ F) := by
  have h1 := h.alloc (.cells #[.int .i64 x.th, .int .i64 x.tg, .bool x.al] 27)
  have q0 : (W.alloc (.cells #[.int .i64 x.th, .int .i64 x.tg, .bool x.al] 27)).cell? ⟨W.heap.size, 0, none⟩ = some (.int .i64 x.th) := by simp
  obtain ⟨z1, z2, q1, hlk1, hlk2⟩ := ask_reads h1 hw q0
  simp only [waitF, hf, Option.map_some, Option.getD_some, Option.isSome_some] at hlk1 hlk2
  unfold Lk.v at hlk1 hlk2 ⊢
  have H1 := hide h1
  clear h h1
  go_enter Try.func11, Try.ntmps11
  go_wp2
  generalize W.alloc (.cells #[.int .i64 x.th, .int .i64 x.tg, .bool x.al] 27) = W1 at H1 z1 z2 hlk1 hlk2 q0 q1 ⊢
  go_region
  all_goals
    go_wp2
    go_ret
    exact ⟨rfl, (H1.out.alloc _).drew⟩
/-- the region that asks whether a thread waits -/
theorem box_back {b : Nat} {cs : Array Value} {ty : TypeId} {X : List Atom} (h : Own n w W (blkA b cs ty :: (X ++ F))) : Own n w W (X ++ (blkA b cs ty :: F)) := h.back
theorem OfR.split {k : Int} {l l' : List Tm} {t : Tm} (h : OfR l k l' t) : t.n = k ∧ ∃ l1 l2, l' = l1 ++ t :: l2 := by
  rcases h with ⟨rfl, h⟩ | ⟨h, rfl, x, rfl⟩
  · exact find_split h
  · exact ⟨rfl, l, [], rfl⟩
set_option maxHeartbeats 4000000 in
theorem ask_held (h : Own n w W (tParts g bt bw l f ++ F)) (x : Lk) (hw : (Lit.int .i64 x.th).wf = true) (hw2 : (Lit.int .i64 x.tg).wf = true) (hf : f x.th = none) (hl : ∀ t ∈ l, t.h.length < 1099511627776) (hh : holdsL l x.tg x.th = true) :
    Calls Try.prog 11 #[.pointer (some ⟨g, 0, none⟩), x.v] W fun e W' => e = .returned (.bool false) ∧ Own n w W' (tParts g bt bw l f ++ F) := by
  have h1 := (h.newBlk #[.int .i64 x.th, .int .i64 x.tg, .bool x.al] 27).back
  have q0 : (W.alloc (.cells #[.int .i64 x.th, .int .i64 x.tg, .bool x.al] 27)).cell? ⟨W.heap.size, 0, none⟩ = some (.int .i64 x.th) := by simp
  obtain ⟨z1, z2, q1, hlk1, hlk2⟩ := ask_reads h1 hw q0
  simp only [waitF, hf, Option.map_none, Option.getD_none, Option.isSome_none] at hlk1 hlk2
  have HC := hide (fun V (h : Own n w V (tParts g bt bw l f ++ (blkA W.heap.size #[.int .i64 x.th, .int .i64 x.tg, .bool x.al] 27 :: F))) => hh ▸ holds_c h x.tg x.th hw2 hl)
  unfold Lk.v at ⊢
  have H1 := hide h1
  clear h h1
  go_enter Try.func11, Try.ntmps11
  go_upto_region 1 with fail
  generalize W.alloc (.cells #[.int .i64 x.th, .int .i64 x.tg, .bool x.al] 27) = W1 at H1 z1 z2 hlk1 hlk2 q0 q1 ⊢
  generalize W.heap.size = bx at H1 q0 q1 HC ⊢
  go_cut [6] from 5 to 17 (fun v wx => v = .bool false ∧ Hid (Own n w wx (tParts g bt bw l f ++ (blkA bx #[.int .i64 x.th, .int .i64 x.tg, .bool x.al] 27 :: F))))
  case first =>
    go_region
    all_goals
      go_wp2
      go_meet
      exact ⟨rfl, hide (H1.out.alloc _).drew⟩
  case rest =>
    obtain ⟨rfl, HC1⟩ := hcut
    have hb : Blk wc bx #[.int .i64 x.th, .int .i64 x.tg, .bool x.al] 27 := HC1.out.hold (blkA bx #[.int .i64 x.th, .int .i64 x.tg, .bool x.al] 27) (by simp)
    have y0 := hb.cell 0
    have y1 := hb.cell 1
    have HC2 := hide (HC.out wc HC1.out)
    clear HC z1 z2 hlk1 hlk2 q0 q1 hb
    go_wp2_with (go_at_call 16; refine HC2.out.mono ?_; rintro e w' ⟨rfl, hb2⟩; have HB2 := hide hb2; clear hb2)
    go_ret
    exact ⟨rfl, (HC1.out.above HB2.out).sub (List.Sublist.append (List.Sublist.refl _) (List.sublist_cons_self _ _))⟩
/-- what Ask makes of the things when the thread neither waits nor holds -/
def AskGo (n : Nat) (w : World) (g bt bw : Nat) (l : List Tm) (f : Int → Option Lk) (F : List Atom) (x : Lk) (e : Ending) (W' : World) : Prop :=
  ∃ l' t l1 l2, OfR l x.tg l' t ∧ l' = l1 ++ t :: l2 ∧
    ((t.w = [] ∧ besideL t.h x = true ∧ e = .returned (.bool true) ∧ ∃ vh, Own n w W' (tParts g bt bw (l1 ++ ⟨t.n, t.x, vh, t.vw, t.h ++ [x], t.w⟩ :: l2) f ++ F))
    ∨ (¬ (t.w = [] ∧ besideL t.h x = true) ∧ e = .returned (.bool false) ∧ ∃ vw, Own n w W' (tParts g bt bw (l1 ++ ⟨t.n, t.x, t.vh, vw, t.h, t.w ++ [x]⟩ :: l2) (fun y => if y = x.th then some x else f y) ++ F)))
theorem waitF_put (f : Int → Option Lk) (x : Lk) : waitF (fun y => if y = x.th then some x else f y) = fun y => if y = x.th then some x.v else waitF f y := by
  funext y
  unfold waitF
  dsimp only
  split <;> rfl
theorem waitF_some {f : Int → Option Lk} {y : Int} : (waitF f y).isSome = (f y).isSome := by unfold waitF; cases f y <;> rfl
/-- the waits turn -/
theorem put_waits (h : Own n w W (tParts g bt bw l f ++ F)) (x : Lk) (hw : (Lit.int .i64 x.th).wf = true) (m : List Int) (hm : ∀ y, (f y).isSome = true → y ∈ m) (hml : m.length < 1099511627776) :
    ∃ W4, (Instr.mapUpdate 51 (.map (some bw)) (.int .i64 x.th) x.v).run Try.prog W = .ok () W4 ∧ Own n w W4 (tParts g bt bw l (fun y => if y = x.th then some x else f y) ++ F) := by
  have h2 : Own n w W (mpA bw (waitF f) :: blkA g #[.map (some bt), .map (some bw)] 53 :: mpA bt (locT l) :: (l.flatMap Tm.parts ++ F)) := h.f2
  obtain ⟨W4, hrun, h4, -⟩ := put_mp h2 51 27 Try.underlying51 m (fun y hy => hm y (by rwa [waitF_some] at hy)) hml x.th x.v hw
  refine ⟨W4, hrun, ?_⟩
  rw [← waitF_put] at h4
  exact h4.f1.f2.f1
set_option maxHeartbeats 8000000 in
set_option maxRecDepth 100000 in
theorem ask_go (h : Own n w W (tParts g bt bw l f ++ F)) (x : Lk) (hw : (Lit.int .i64 x.th).wf = true) (hw2 : (Lit.int .i64 x.tg).wf = true) (hf : f x.th = none) (hll : l.length < 1099511627776) (hl : ∀ t ∈ l, t.h.length < 1099511627776 ∧ t.w.length < 1099511627776) (hh : holdsL l x.tg x.th = false)
    (m : List Int) (hm : ∀ y, (f y).isSome = true → y ∈ m) (hml : m.length < 1099511627776) :
    Calls Try.prog 11 #[.pointer (some ⟨g, 0, none⟩), x.v] W fun e W' => AskGo n w g bt bw l f F x e W' := by
  have h1 := (h.newBlk #[.int .i64 x.th, .int .i64 x.tg, .bool x.al] 27).back
  have q0 : (W.alloc (.cells #[.int .i64 x.th, .int .i64 x.tg, .bool x.al] 27)).cell? ⟨W.heap.size, 0, none⟩ = some (.int .i64 x.th) := by simp
  obtain ⟨z1, z2, q1, hlk1, hlk2⟩ := ask_reads h1 hw q0
  simp only [waitF, hf, Option.map_none, Option.getD_none, Option.isSome_none] at hlk1 hlk2
  have HC := hide (fun V (h : Own n w V (tParts g bt bw l f ++ (blkA W.heap.size #[.int .i64 x.th, .int .i64 x.tg, .bool x.al] 27 :: F))) => hh ▸ holds_c h x.tg x.th hw2 (fun t ht => (hl t ht).1))
  have HO := hide (fun V (h : Own n w V (tParts g bt bw l f ++ (blkA W.heap.size #[.int .i64 x.th, .int .i64 x.tg, .bool x.al] 27 :: F))) => of_c h x.tg hw2 hll)
  have HP := hide (fun V b i cs v m l F => @put_c n w V F b i m cs v l)
  have HB := hide (fun A c l V => beside_c A c l x V)
  unfold Lk.v at HP HB ⊢
  have H1 := hide h1
  have HL := hide hl
  have HM := hide hm
  clear h h1 hm hl
  go_enter Try.func11, Try.ntmps11
  go_upto_region 1 with fail
  generalize W.alloc (.cells #[.int .i64 x.th, .int .i64 x.tg, .bool x.al] 27) = W1 at H1 z1 z2 hlk1 hlk2 q0 q1 ⊢
  generalize W.heap.size = bx at H1 q0 q1 HC HO ⊢
  go_cut [6] from 5 to 17 (fun v wx => v = .bool false ∧ Hid (Own n w wx (tParts g bt bw l f ++ (blkA bx #[.int .i64 x.th, .int .i64 x.tg, .bool x.al] 27 :: F))))
  case first =>
    go_region
    all_goals
      go_wp2
      go_meet
      exact ⟨rfl, hide (H1.out.alloc _).drew⟩
  case rest =>
    obtain ⟨rfl, HC1⟩ := hcut
    have hb : Blk wc bx #[.int .i64 x.th, .int .i64 x.tg, .bool x.al] 27 := HC1.out.hold (blkA bx #[.int .i64 x.th, .int .i64 x.tg, .bool x.al] 27) (by simp)
    have y0 := hb.cell 0
    have y1 := hb.cell 1
    have HC2 := hide (HC.out wc HC1.out)
    clear HC z1 z2 hlk1 hlk2 q0 q1 hb
    go_upto_region 5 with (first | (go_at_call 16; refine HC2.out.mono ?_; rintro e w2 ⟨rfl, hb2⟩; have HC3 := hide (HC1.out.above hb2); have y2 := (show Blk w2 bx #[.int .i64 x.th, .int .i64 x.tg, .bool x.al] 27 from HC3.out.hold (blkA bx #[.int .i64 x.th, .int .i64 x.tg, .bool x.al] 27) (by simp)).cell 1; clear hb2) | (go_at_call 25; refine (HO.out _ HC3.out).mono ?_; rintro e w3 ⟨l', t, hof, rfl, ho3⟩; have HO3 := hide (And.intro hof ho3); clear hof ho3))
    obtain ⟨hof, ho3⟩ := HO3.out
    obtain ⟨htn, l1, l2, rfl⟩ := hof.split
    obtain ⟨Ah, ch, Aw, cw, e1, e2, c0, c1, hkh, hkw⟩ := tm_cells ho3
    have hb3 : Blk w3 bx #[.int .i64 x.th, .int .i64 x.tg, .bool x.al] 27 := ho3.hold (blkA bx #[.int .i64 x.th, .int .i64 x.tg, .bool x.al] 27) (by simp)
    have v0 := hb3.cell 0
    have v1 := hb3.cell 1
    have v2 := hb3.cell 2
    have hlt : t.h.length < 1099511627776 ∧ t.w.length < 1099511627776 := by
      rcases hof with ⟨_, h⟩ | ⟨_, _, y, rfl⟩
      · exact HL.out t (List.mem_of_find?_eq_some h)
      · exact ⟨by simp, by simp⟩
    have HO4 := hide ho3
    have HOF := hide hof
    have HB1 := hide (HB.out Ah ch t.h w3.drew (hkh.below (Below.drew (Below.refl _ _))) (by omega))
    clear hof ho3 hkh hkw hb3 HB HC2 HC3 HO y2 HO3
    go_cut [46] from 31 to 46 (fun v wx => v = .bool (t.w.isEmpty && besideL t.h x) ∧ Hid (Own n w wx (tParts g bt bw (l1 ++ t :: l2) f ++ (blkA bx #[.int .i64 x.th, .int .i64 x.tg, .bool x.al] 27 :: F))))
    case first =>
      cases hq : t.w.isEmpty with
      | true =>
        have hz : t.w.length = 0 := by simpa using hq
        rw [hz] at c1
        have HQ := hide hq
        clear hz hq
        go_region_with (go_at_call 26; refine HB1.out.mono ?_; rintro e w4 ⟨rfl, hb4⟩; have HB4 := hide hb4; clear hb4)
        all_goals
          go_wp2
          go_meet
          exact ⟨by rw [HQ.out]; rfl, hide (HO4.out.drew.above HB4.out)⟩
      | false =>
        have hz : ((t.w.length : Int) == 0) = false := by cases hw : t.w with | nil => rw [hw] at hq; cases hq | cons => simp; omega
        have HQ := hide hq
        clear hq
        go_region
        all_goals
          go_wp2
          go_meet
          exact ⟨by rw [HQ.out]; rfl, hide HO4.out.drew⟩
    case rest =>
      obtain ⟨rfl, HC5⟩ := hcut
      have hb5 : Blk wc bx #[.int .i64 x.th, .int .i64 x.tg, .bool x.al] 27 := HC5.out.hold (blkA bx #[.int .i64 x.th, .int .i64 x.tg, .bool x.al] 27) (by simp)
      have s0 := hb5.cell 0
      have s1 := hb5.cell 1
      have s2 := hb5.cell 2
      have HC6 := hide (tm_open HC5.out)
      clear hb5 v0 v1 v2 c0 c1 y0 y1 HB1 HO4 HC1 H1
      cases hq : (t.w.isEmpty && besideL t.h x) with
      | true =>
        have HQ := hide hq
        have HP1 := hide (HP.out wc.drew t.x 0 #[t.vh, t.vw] t.vh t.h.length t.h _ HC6.out.drew rfl x hlt.1)
        clear hq HP
        go_wp2_with (fail)
        go_region_with (go_at_call 27; refine HP1.out.mono ?_; rintro e w6 ⟨rfl, vh', h6⟩; have HB6 := hide h6; clear h6)
        all_goals
          go_wp2
          go_ret
          have h7 : Own n w w6 (blkA t.x #[vh', t.vw] 59 :: offA 3 vh' (t.h ++ [x]).length (cellsK (t.h ++ [x])) :: offA 3 t.vw t.w.length (cellsK t.w) :: (Tm.rest (mpA bt) g bt bw l1 t l2 f ++ (blkA bx #[.int .i64 x.th, .int .i64 x.tg, .bool x.al] 27 :: F))) := by rw [List.length_append]; exact HB6.out
          have h8 := tm_shut (t := t) (t' := ⟨t.n, t.x, vh', t.vw, t.h ++ [x], t.w⟩) rfl rfl h7
          have hqq := HQ.out
          rw [Bool.and_eq_true, List.isEmpty_iff] at hqq
          exact ⟨_, t, l1, l2, HOF.out, rfl, .inl ⟨hqq.1, hqq.2, rfl, vh', h8.sub (List.Sublist.append (List.Sublist.refl _) (List.sublist_cons_self _ _))⟩⟩
      | false =>
        have HQ := hide hq
        have HP1 := hide (HP.out wc.drew t.x 1 #[t.vh, t.vw] t.vw t.w.length t.w _ HC6.out.drew.f2.f1 rfl x hlt.2)
        clear hq HP
        go_upto_region 8 with (fail)
        go_cut [] from 52 to 56 (fun wx => ∃ vw, Hid (Own n w wx (tParts g bt bw (l1 ++ ⟨t.n, t.x, t.vh, vw, t.h, t.w ++ [x]⟩ :: l2) f ++ (blkA bx #[.int .i64 x.th, .int .i64 x.tg, .bool x.al] 27 :: F))))
        case first =>
          go_region_with (go_at_call 27; refine HP1.out.mono ?_; rintro e w6 ⟨rfl, vw', h6⟩; have HB6 := hide h6; clear h6)
          all_goals
            go_wp2
            go_meet
            have h7 : Own n w w6 (blkA t.x #[t.vh, vw'] 59 :: offA 3 vw' (t.w ++ [x]).length (cellsK (t.w ++ [x])) :: offA 3 t.vh t.h.length (cellsK t.h) :: (Tm.rest (mpA bt) g bt bw l1 t l2 f ++ (blkA bx #[.int .i64 x.th, .int .i64 x.tg, .bool x.al] 27 :: F))) := by rw [List.length_append]; exact HB6.out
            exact ⟨vw', hide (tm_shut (t := t) (t' := ⟨t.n, t.x, t.vh, vw', t.h, t.w ++ [x]⟩) rfl rfl h7.f2.f1)⟩
        case rest =>
          obtain ⟨vw', HC7⟩ := hcut
          have hb7 : Blk wc bx #[.int .i64 x.th, .int .i64 x.tg, .bool x.al] 27 := HC7.out.hold (blkA bx #[.int .i64 x.th, .int .i64 x.tg, .bool x.al] 27) (by simp)
          have r0 := hb7.cell 0
          have r1 := hb7.cell 1
          have r2 := hb7.cell 2
          have r3 := (tab_cells HC7.out).2.1
          obtain ⟨w8, hrun, h8⟩ := put_waits HC7.out.drew x hw m HM.out hml
          unfold Lk.v at hrun
          have H8 := hide h8
          clear h8 hb7 HP1 s0 s1 s2
          go_upto_region 9 with (fail)
          go_region
          all_goals
            go_wp2
            go_ret
            exact ⟨_, t, l1, l2, HOF.out, rfl, .inr ⟨fun hqq => by have := HQ.out; rw [hqq.1, hqq.2] at this; simp at this, rfl, vw', H8.out.sub (List.Sublist.append (List.Sublist.refl _) (List.sublist_cons_self _ _))⟩⟩
end
end Go.Proofs.Ytcmiboipgngjaaa
