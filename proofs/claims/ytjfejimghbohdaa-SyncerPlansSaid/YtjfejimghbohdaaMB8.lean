/-
  The walk of Both. Conditions: the calls are few.
  The law DepsDrain. No condition.
  Which changes are needed, as the document's own text reckons it: from the last to the first. Plain words.
  The document's own Need. Conditions: the rows are few.
  The walk of deps.Graph.Need. Conditions: the rows are few.
-/
import Derived.Test.YtjfejimghbohdaaMB7
import Derived.Deep.LoopGhost
import Derived.Deep.CutBlock
import Derived.Deep.RegionWith
import Derived.OwnWalk
namespace Go.Proofs.Ytjfejimghbohdaa
set_option linter.unusedVariables false
set_option linter.unusedSimpArgs false
open Go.RowKit Go.Maps

set_option maxHeartbeats 8000000 in
set_option maxRecDepth 100000 in
theorem both_c {w W : World} {F : List Atom} (ho : Own w.heap.size w W F) (A : Option Addr) (c : Nat) (l : List Ac) (hC : kAc.C w A l) (hf : Few l) (hok : ∀ x ∈ l, AcOk x) :
    Calls Try.prog 9 #[.slice A l.length c] W fun e W' => ∃ g b, e = .returned (.tuple #[.pointer (some ⟨g, 0, none⟩), .pointer (some ⟨b, 0, none⟩), .bool true]) ∧ BP w.heap.size w g b (rowsOf l) F W' := by
  have HC := hide (fun k (hk : k < l.length) => acs_at hC hk)
  have HN := hide (gnew_c ho)
  have HF := hide hf
  have HOK := hide (fun k (hk : k < l.length) => hok l[k] (List.getElem_mem hk))
  have HRL := hide (fun k (hk : k ≤ l.length) => rowsOf_le l k hk)
  have HRS := hide (fun k (hk : k < l.length) => rowsOf_snoc hk)
  have HOS := hide (fun k (hk : k < l.length) => onsum_snoc hk)
  have HOT := hide (fun k => onsum_take l k)
  clear hC ho hf hok
  go_enter Try.func9, Try.ntmps9
  go_upto_region 5 with (go_at_call 15; refine HN.out.mono ?_; rintro e W1 ⟨g, pg, rfl, hg, h1⟩; have HG1 := hide hg; have H1 := hide ((h1.nilRow 39 3).newBlk #[.slice none 0 0] 37); clear hg h1)
  generalize W1.alloc (.cells #[.slice none 0 0] 37) = W2 at H1 ⊢
  generalize W1.heap.size = b at H1 ⊢
  have HP0 := hide (show BP w.heap.size w g b (rowsOf (l.take 0)) F W2 from ⟨pg, rParts b (.slice none 0 0) [], HG1.out, ⟨_, [], rfl, rfl⟩, (show Own w.heap.size w W2 (rParts b (.slice none 0 0) [] ++ (pg ++ F)) from H1.out).swp⟩)
  clear H1 HG1 HN
  go_wp2
  go_loopg [7] l.length (fun m i wr => ∃ k : Nat, k ≤ l.length ∧ m = l.length - k ∧ i = .int .i64 k ∧ Hid (BP w.heap.size w g b (rowsOf (l.take k)) F wr))
  case atStart => exact ⟨0, by omega, by omega, rfl, HP0⟩
  case round =>
    obtain ⟨wo, rfl⟩ : ∃ wo, wo = wr := ⟨_, rfl⟩
    obtain ⟨k, hk, rfl, rfl, HB⟩ := hrel
    have hll := HF.out.1
    by_cases hlt : k < l.length
    · obtain ⟨ba, off, Ao, co, rfl, hba, y0, y1, y2, hI⟩ := HC.out k hlt
      have hbel := HB.out.below
      have z0 := (hbel.cell (p := ⟨ba, off + k * 3, none⟩) hba).trans y0
      have z1 := (hbel.cell (p := ⟨ba, off + k * 3 + 1, none⟩) hba).trans y1
      have z2 := (hbel.cell (p := ⟨ba, off + k * 3 + 2, none⟩) hba).trans y2
      have hrk := HRL.out k hk
      have hrs := HRS.out k hlt
      have hos := HOS.out k hlt
      have hot := HOT.out (k + 1)
      have hok := HOK.out k hlt
      have hfew := HF.out.2
      rw [stepR_eq] at hrs
      have hrlen : (rowsOf (l.take k)).length + 1 < 274877906944 := by omega
      have hrtot : tot (rowsOf (l.take k)) + l[k].on.length < 274877906944 := by omega
      have honl : l[k].on.length < 274877906944 := by omega
      have hbuf : I64 l[k].buf := i64_of_wf hok.2.1
      have hsm : Sm (rowsOf (l.take k)) ∧ WfR (rowsOf (l.take k)) := by obtain ⟨_, _, hg, _, _⟩ := HB.out; exact ⟨hg.sm, hg.wf⟩
      generalize rowsOf (l.take k) = r at HB hrk hrs hrlen hrtot hsm
      generalize l[k].way = way at y0 z0 hrs
      generalize l[k].buf = buf at y1 z1 hrs hbuf
      generalize l[k].on = on at y2 z2 hI hrs hos hrtot honl
      have o1 : (0 : Int) ≤ (k : Int) := by omega
      have o2 : (k : Int) < (l.length : Int) := by omega
      have HI := hide hI
      have HRK := hide hrs
      have HSM := hide hsm
      have HBF := hide hbuf
      have HRLN := hide (And.intro hrlen (And.intro hrtot honl))
      have HAB := hide (HB.out.cons (W' := wo.alloc (.cells #[.int .i64 way, .int .i64 buf, .slice Ao on.length co] 57)) (a := blkA wo.heap.size #[.int .i64 way, .int .i64 buf, .slice Ao on.length co] 57) (fun X hX => hX.newBlk _ _))
      clear hbel y0 y1 y2 hI hrk hrs hos hot hok hfew hrlen hrtot honl hbuf hsm HP0
      go_upto_region 9 with (fail)
      generalize wo.alloc (.cells #[.int .i64 way, .int .i64 buf, .slice Ao on.length co] 57) = W3 at HAB ⊢
      generalize wo.heap.size = t8 at HAB ⊢
      have hb3 : Blk W3 t8 #[.int .i64 way, .int .i64 buf, .slice Ao on.length co] 57 := HAB.out.hold (x := blkA t8 #[.int .i64 way, .int .i64 buf, .slice Ao on.length co] 57) List.mem_cons_self
      have a0 : W3.cell? ⟨t8, 0, none⟩ = some (.int .i64 way) := hb3.cell 0
      have a1 : W3.cell? ⟨t8, 1, none⟩ = some (.int .i64 buf) := hb3.cell 1
      have a2 : W3.cell? ⟨t8, 2, none⟩ = some (.slice Ao on.length co) := hb3.cell 2
      clear hb3 z0 z1 z2
      by_cases hw0 : way = 0
      · obtain ⟨m0, m1⟩ := int_eqb hw0
        rw [if_pos hw0] at HRK
        clear hw0
        go_upto_region 12 with (first
          | (at_builtin; go_must (obtain ⟨j0, ji, jz0, jz1, jz2⟩ := info_parts info3x; refine wpList_append_src _ rfl _ _ 23 rfl w.heap.size 3 j0 (.int .i64 0) 1 8 Try.underlying23 ji jz0 jz1 jz2 rfl (by decide) (.slice none 0 0) 0 [] rfl (World.ownsRow_nil _ _ _ _) w.heap.size Ao on.length co (ints on) rfl (by rw [ints_len, Nat.mul_one]) (HI.out.below HAB.out.below (Nat.le_refl _)).cells (by intro u hu; unfold ints at hu; obtain ⟨z, _, rfl⟩ := List.mem_map.1 hu; rfl) (by have := HRLN.out.2.2; unfold maxLen; omega) (by have := HRLN.out.2.2; omega) HAB.out.sz ?_); intro v' w4 hown hg hat; rw [Nat.zero_add, List.nil_append] at hown; obtain ⟨A9, c9, rfl⟩ := own_slice hown; have H4 := hide (show BP w.heap.size w g b r (rowA 3 1 (.slice A9 on.length c9) on.length (ints on) :: blkA t8 #[.int .i64 way, .int .i64 buf, .slice Ao on.length co] 57 :: F) w4 from HAB.out.cons (fun X hX => (hX.nilRow 3 1).growRow hown hg hat)); have b1 : w4.cell? ⟨t8, 1, none⟩ = some (.int .i64 buf) := (H4.out.hold (x := blkA t8 #[.int .i64 way, .int .i64 buf, .slice Ao on.length co] 57) (by simp) : Blk _ _ _ _).cell 1; clear hown hg hat ji jz0 jz1 jz2 j0)
          | (go_at_call 16; refine (H4.out.gadd buf HBF.out A9 c9 on HRLN.out.1 HRLN.out.2.1 (Reads.row (c := c9) (k := on.length) List.mem_cons_self)).mono ?_; rintro e W5 ⟨rfl, h5⟩; have H5 := hide h5; clear h5))
        have HZ := hide (show ∃ xs : List Value, xs.length = on.length ∧ HP w.heap.size w g b (addR r buf on) r (rowA 3 1 (.slice A9 on.length c9) on.length xs :: blkA t8 #[.int .i64 way, .int .i64 buf, .slice Ao on.length co] 57 :: F) W5 from ⟨ints on, ints_len on, H5.out⟩)
        clear H5 H4 HAB HB a0 a1 a2 b1 m0 m1
        generalize hav : addV r on = av
        obtain ⟨v1, v2⟩ := av
        go_wp2
        go_loopg [12] on.length (fun m i W => ∃ j : Nat, j ≤ on.length ∧ m = on.length - j ∧ i = .int .i64 j ∧ Hid (∃ xs : List Value, xs.length = on.length ∧ HP w.heap.size w g b (addR r buf on) r (rowA 3 1 (.slice A9 on.length c9) on.length xs :: blkA t8 #[.int .i64 way, .int .i64 buf, .slice Ao on.length co] 57 :: F) W))
        case atStart => exact ⟨0, by omega, by omega, rfl, HZ⟩
        case round =>
          obtain ⟨j, hj, rfl, rfl, HX⟩ := hrel
          have honl := HRLN.out.2.2
          by_cases hlt2 : j < on.length
          · obtain ⟨xs, hxl, hX⟩ := HX.out
            have hrow : wr.ownsRow 0 3 1 (.slice A9 on.length c9) on.length xs := hX.hold (x := rowA 3 1 (.slice A9 on.length c9) on.length xs) List.mem_cons_self
            obtain ⟨g9, rfl⟩ := row_form hrow (by omega)
            have y0 : wr.cell? ⟨g9, j, none⟩ = some (xs[j]'(by omega)) := by rw [hrow.cellAt j (by omega)]; simp [show j < xs.length by omega]
            have f0 : wr.frozen? ⟨g9, j, none⟩ = false := hrow.frozenAt j
            have q1 : (0 : Int) ≤ (j : Int) := by omega
            have q2 : (j : Int) < (on.length : Int) := by omega
            have HN := hide (show ∃ xs : List Value, xs.length = on.length ∧ HP w.heap.size w g b (addR r buf on) r (rowA 3 1 (.slice (some ⟨g9, 0, none⟩) on.length c9) on.length xs :: blkA t8 #[.int .i64 way, .int .i64 buf, .slice Ao on.length co] 57 :: F) (wr.setCell ⟨g9, j, none⟩ (.int .i64 0)) from
              ⟨xs.set j (.int .i64 0), by rw [List.length_set]; exact hxl, hX.turn (fun X hX' => hX'.setRow j (.int .i64 0))⟩)
            generalize xs[j]'(by omega) = x0 at y0
            clear hxl hX hrow HX
            go_wp2
            go_roundg (on.length - (j + 1))
            case measure => omega
            case rel => exact ⟨j + 1, by omega, by omega, by go_num, HN⟩
          · obtain rfl : j = on.length := by omega
            have q1 : ¬ (on.length : Int) < (on.length : Int) := by omega
            obtain ⟨xs, hxl, hX⟩ := HX.out
            have hbk : Blk wr t8 #[.int .i64 way, .int .i64 buf, .slice Ao on.length co] 57 := hX.hold (x := blkA t8 #[.int .i64 way, .int .i64 buf, .slice Ao on.length co] 57) (by simp)
            have b1 : wr.cell? ⟨t8, 1, none⟩ = some (.int .i64 buf) := hbk.cell 1
            have b2 : wr.cell? ⟨t8, 2, none⟩ = some (.slice Ao on.length co) := hbk.cell 2
            have HRA := hide (hX.radd HSM.out.1 Ao co honl (Reads.old HI.out))
            rw [hav] at HRA
            clear hbk hX hxl HX HZ
            have e1 : (v1 != v1) = false := by simp
            have e2 : (v2 != v2) = false := by simp
            go_wp2_with (first
              | (go_at_call 25; refine HRA.out.mono ?_; rintro e W6 ⟨rfl, h6⟩; have H6 := hide h6.tail.tail; clear h6)
              | (go_at_call 26; refine (num_c _ _).mono ?_; rintro e w' ⟨rfl, rfl⟩))
            go_roundg (l.length - (k + 1))
            case measure => omega
            case rel => exact ⟨k + 1, by omega, by omega, by go_num, hide (by rw [HRK.out]; exact H6.out)⟩
      · obtain ⟨m0, m1⟩ := int_neb hw0
        rw [if_neg hw0] at HRK
        clear hw0
        have HW := hide (BP.gwr (show BP w.heap.size w g b r (blkA t8 #[.int .i64 way, .int .i64 buf, .slice Ao on.length co] 57 :: F) W3.drew from by obtain ⟨p1, p2, h1, h2, h3⟩ := HAB.out; exact ⟨p1, p2, h1, h2, h3.drew⟩) buf HBF.out)
        have HNL := hide (show (nextR r buf).length < 1099511627776 from by
          have h := HRLN.out.1
          have : (nextR r buf).length ≤ r.length := by unfold nextR castL; rw [List.length_map]; exact Nat.le_trans (List.length_filter_le _ _) (by simp)
          omega)
        clear HB HAB HI
        go_upto_region 19 with (fail)
        go_cut [80] from 71 to 80 (fun v wx => v = .bool false ∧ Hid (BP w.heap.size w g b (writtenR r buf) F wx))
        case first =>
          go_region_with (first
            | (go_at_call 12; refine HW.out.mono ?_; rintro e W4 ⟨A4, c4, rfl, h4⟩; have d1 : W4.cell? ⟨t8, 1, none⟩ = some (.int .i64 buf) := (HP.hold h4 (x := blkA t8 #[.int .i64 way, .int .i64 buf, .slice Ao on.length co] 57) (by simp) : Blk _ _ _ _).cell 1; have H4 := hide (HP.rwr h4 HSM.out.2 HSM.out.1); clear h4)
            | (go_at_call 27; refine H4.out.mono ?_; rintro e W5 ⟨A5, c5, rfl, h5⟩; have H5 := hide (BP.same h5 HNL.out); clear h5)
            | (go_at_call 18; refine H5.out.mono ?_; rintro e W6 ⟨rfl, h6⟩; have H6 := hide h6.tail; clear h6))
          all_goals
            go_wp2_with (fail)
            go_meet
            exact ⟨rfl, H6⟩
        case rest =>
          obtain ⟨rfl, HQ⟩ := hcut
          go_wp2
          go_roundg (l.length - (k + 1))
          case measure => omega
          case rel => exact ⟨k + 1, by omega, by omega, by go_num, hide (by rw [HRK.out]; exact HQ.out)⟩
    · obtain rfl : k = l.length := by omega
      have o3 : ¬ (l.length : Int) < (l.length : Int) := by omega
      go_wp2
      go_ret3
      have h := HB.out
      rw [List.take_length] at h
      exact ⟨_, _, rfl, h⟩
end Go.Proofs.Ytjfejimghbohdaa
namespace Go.Proofs.Ytjfejimghbohdaa
set_option linter.unusedVariables false
set_option linter.unusedSimpArgs false
open Go.RowKit Go.Maps

section
variable {n g b : Nat} {w W : World} {F : List Atom} {r : List Rc}
theorem BP.left (h : BP n w g b r F W) : Calls Try.prog 20 #[.pointer (some ⟨g, 0, none⟩)] W fun e W' => e = .returned (.int .i64 (leftR r : Int)) ∧ W = W' := by
  obtain ⟨pg, pr, hg, hr, ho⟩ := h
  exact gleft_c hg ho
theorem BP.rleft (h : BP n w g b r F W) : Calls Try.prog 22 #[.pointer (some ⟨b, 0, none⟩)] W fun e W' => e = .returned (.int .i64 (leftR r : Int)) ∧ W = W' := by
  obtain ⟨pg, pr, hg, hr, ho⟩ := h
  exact rleft_c hr hg.sm (fun a ha => ho.hold a (List.mem_append_right _ (List.mem_append_left _ ha)))
theorem BP.ready (h : BP n w g b r F W) (h0 : 0 < leftR r) : Calls Try.prog 23 #[.pointer (some ⟨g, 0, none⟩)] W fun e W' => ∃ xs ga c, e = .returned (.slice (some ⟨ga, 0, none⟩) xs.length c) ∧ readyR r xs ∧ 0 < xs.length ∧ BP n w g b r (rowA 3 1 (.slice (some ⟨ga, 0, none⟩) xs.length c) xs.length (ints xs) :: F) W' := by
  obtain ⟨pg, pr, hg, hr, ho⟩ := h
  refine (gready_c hg ho).mono ?_
  rintro e W' ⟨v, xs, rfl, hx, ho'⟩
  have hp : 0 < xs.length := List.length_pos_iff.2 (ready_some hg.wf h0 hx)
  obtain ⟨A, c, rfl⟩ := own_slice ho'.row
  obtain ⟨ga, rfl⟩ := row_form ho'.row (by omega)
  exact ⟨xs, ga, c, rfl, hx, hp, pg, pr, hg, hr, ho'.push⟩
theorem drewN3 (W : World) (a b c : Nat) : ((W.drewN a).drewN b).drewN c = W.drewN (a + b + c) := by simp [World.drewN_drewN, Nat.add_assoc]
theorem HP.drewN {rw r : List Rc} (h : HP n w g b rw r F W) (q : Nat) : HP n w g b rw r F (W.drewN q) := by
  obtain ⟨pg, pr, hg, hr, ho⟩ := h
  exact ⟨pg, pr, hg, hr, ho.drewN q⟩
theorem HP.setDone {rw r : List Rc} {out : List Int} {k i : Nat} (h : HP n w g b rw (setD r (out.take k)) F W) (hk : k < out.length) (hx : out[k] = (i : Int)) (hir : i < r.length) :
    ∃ gl cl dn, W.cell? ⟨b, 0, none⟩ = some (.slice (some ⟨gl, 0, none⟩) r.length cl) ∧ W.cell? ⟨gl, i * 3 + 2, none⟩ = some (.bool dn) ∧ W.frozen? ⟨gl, i * 3 + 2, none⟩ = false ∧
      HP n w g b rw (setD r (out.take (k + 1))) F (W.setCell ⟨gl, i * 3 + 2, none⟩ (.bool true)).drew := by
  obtain ⟨pg, pr, hg, ⟨vl, l, rfl, h1⟩, ho⟩ := h
  have ho := ho.swp
  have hTK := List.take_succ_eq_append_getElem hk
  rw [hx] at hTK
  have hlm : l.length = r.length := by rw [← List.length_map (f := Rg.c), h1, setD_len]
  have hil : i < l.length := by omega
  have hrl : W.ownsRow 0 39 3 vl l.length (cellsR l) := ho.hold (rowA 39 3 vl l.length (cellsR l)) (by simp [rParts])
  obtain ⟨Al, cl, rfl⟩ := own_slice hrl
  obtain ⟨gl, rfl⟩ := row_form hrl (by omega)
  have hbk : Blk W b #[.slice (some ⟨gl, 0, none⟩) l.length cl] 37 := ho.hold (blkA b #[.slice (some ⟨gl, 0, none⟩) l.length cl] 37) (by simp [rParts])
  refine ⟨gl, cl, l[i].c.done, by rw [← hlm]; exact hbk.cell 0, by rw [hrl.cellAt (i * 3 + 2) (by omega), cellsR_at hil (by omega)]; rfl, hrl.frozenAt _, pg, rParts b (.slice (some ⟨gl, 0, none⟩) l.length cl) (l.set i ⟨⟨l[i].c.buf, l[i].c.on, true⟩, l[i].von⟩), hg, ⟨_, _, rfl, ?_⟩, ?_⟩
  · rw [hTK, setD_snoc r _ i hir, ← h1, List.map_set]
    congr 1
    have e : (l.map Rg.c).getD i zr = l[i].c := by simp [hil]
    rw [e]
  · have hO1 := (Own.f1 ho).setRow (i * 3 + 2) (.bool true)
    rw [cellsR_set hil (by omega) (.bool true) ⟨⟨l[i].c.buf, l[i].c.on, true⟩, l[i].von⟩ rfl] at hO1
    have h := hO1.f1.drew
    unfold rParts
    rw [rg_set hil (⟨⟨l[i].c.buf, l[i].c.on, true⟩, l[i].von⟩ : Rg) rfl rfl, List.length_set]
    exact Own.swp (p := _ :: _ :: _) h
end
end Go.Proofs.Ytjfejimghbohdaa
namespace Go.Proofs.Ytjfejimghbohdaa
set_option linter.unusedVariables false
set_option linter.unusedSimpArgs false
open Go.RowKit Go.Maps

def markS (s : Int → Bool) (x : Int) : Int → Bool := fun y => if y = x then true else s y
theorem markS_self (s : Int → Bool) (x : Int) : markS s x x = true := if_pos rfl
theorem markS_old {s : Int → Bool} {x y : Int} (h : s y = true) : markS s x y = true := by unfold markS; split; rfl; exact h
structure N1 (r : List Rc) (ids : List Int) (k : Nat) (s : Int → Bool) : Prop where
  at_ : ∀ x, s x = true ↔ x ∈ ids.take k ∧ good r x
theorem N1.start (r : List Rc) (ids : List Int) : N1 r ids 0 (fun _ => false) := ⟨fun x => ⟨(fun h => by cases h), (fun h => by simp at h)⟩⟩
theorem N1.skip {r : List Rc} {ids : List Int} {k : Nat} {s : Int → Bool} (h : N1 r ids k s) (hk : k < ids.length) (hg : ¬ good r ids[k]) : N1 r ids (k + 1) s := ⟨fun x => by
  rw [h.at_, List.take_succ_eq_append_getElem hk, List.mem_append, List.mem_singleton]
  constructor
  · rintro ⟨h1, h2⟩; exact ⟨.inl h1, h2⟩
  · rintro ⟨h1 | rfl, h2⟩
    · exact ⟨h1, h2⟩
    · exact absurd h2 hg⟩
theorem N1.mark {r : List Rc} {ids : List Int} {k : Nat} {s : Int → Bool} (h : N1 r ids k s) (hk : k < ids.length) (hg : good r ids[k]) : N1 r ids (k + 1) (markS s ids[k]) := ⟨fun x => by
  rw [List.take_succ_eq_append_getElem hk, List.mem_append, List.mem_singleton]
  unfold markS
  by_cases e : x = ids[k]
  · rw [if_pos e]
    exact ⟨fun _ => ⟨.inr e, e ▸ hg⟩, fun _ => rfl⟩
  · rw [if_neg e, h.at_]
    constructor
    · rintro ⟨h1, h2⟩; exact ⟨.inl h1, h2⟩
    · rintro ⟨h1 | h1, h2⟩
      · exact ⟨h1, h2⟩
      · exact absurd h1 e⟩
structure N2 (r : List Rc) (ids : List Int) (t : Int) (s : Int → Bool) : Prop where
  sound : ∀ x, s x = true → Reach r ids x
  idsC : ∀ x ∈ ids, good r x → s x = true
  onC : ∀ y, t < y → s y = true → ∀ x ∈ (rd r y).on, good r x → s x = true
theorem N1.final {r : List Rc} {ids : List Int} {s : Int → Bool} (h : N1 r ids ids.length s) : N2 r ids ((r.length : Int) - 1) s := by
  have h := h.at_
  rw [List.take_length] at h
  refine ⟨fun x hx => .id ((h x).1 hx).1 ((h x).1 hx).2, fun x hx hg => (h x).2 ⟨hx, hg⟩, fun y hy hs => ?_⟩
  have := ((h y).1 hs).2.2.1
  omega
theorem N2.skip {r : List Rc} {ids : List Int} {t : Int} {s : Int → Bool} (h : N2 r ids t s) (hs : s t = false) : N2 r ids (t - 1) s :=
  ⟨h.sound, h.idsC, fun y hy hsy => by
    by_cases e : y = t
    · rw [e, hs] at hsy; cases hsy
    · exact h.onC y (by omega) hsy⟩
structure N3 (r : List Rc) (ids : List Int) (t : Int) (j : Nat) (s : Int → Bool) : Prop where
  two : N2 r ids t s
  self : s t = true
  part : ∀ x ∈ (rd r t).on.take j, good r x → s x = true
theorem N3.start {r : List Rc} {ids : List Int} {t : Int} {s : Int → Bool} (h : N2 r ids t s) (hs : s t = true) : N3 r ids t 0 s := ⟨h, hs, fun x hx => by simp at hx⟩
theorem N3.skip {r : List Rc} {ids : List Int} {t : Int} {j : Nat} {s : Int → Bool} (h : N3 r ids t j s) (hj : j < (rd r t).on.length) (hg : ¬ good r (rd r t).on[j]) : N3 r ids t (j + 1) s :=
  ⟨h.two, h.self, fun x hx hgx => by
    rw [List.take_succ_eq_append_getElem hj, List.mem_append, List.mem_singleton] at hx
    rcases hx with hx | rfl
    · exact h.part x hx hgx
    · exact absurd hgx hg⟩
theorem N3.mark {r : List Rc} {ids : List Int} {t : Int} {j : Nat} {s : Int → Bool} (h : N3 r ids t j s) (hj : j < (rd r t).on.length) (hg : good r (rd r t).on[j]) (hlt : (rd r t).on[j] < t) : N3 r ids t (j + 1) (markS s (rd r t).on[j]) := by
  have hm : ∀ {x}, s x = true → markS s (rd r t).on[j] x = true := fun h => markS_old h
  refine ⟨⟨fun x hx => ?_, fun x hx hgx => hm (h.two.idsC x hx hgx), fun y hy hs x hx hgx => hm (h.two.onC y hy ?_ x hx hgx)⟩, hm h.self, fun x hx hgx => ?_⟩
  · unfold markS at hx
    by_cases e : x = (rd r t).on[j]
    · rw [e]; exact .on (h.two.sound t h.self) (List.getElem_mem hj) hg
    · rw [if_neg e] at hx; exact h.two.sound x hx
  · unfold markS at hs
    rwa [if_neg (by omega)] at hs
  · rw [List.take_succ_eq_append_getElem hj, List.mem_append, List.mem_singleton] at hx
    rcases hx with hx | rfl
    · exact hm (h.part x hx hgx)
    · exact markS_self _ _
theorem N3.final {r : List Rc} {ids : List Int} {t : Int} {s : Int → Bool} (h : N3 r ids t (rd r t).on.length s) : N2 r ids (t - 1) s :=
  ⟨h.two.sound, h.two.idsC, fun y hy hsy x hx hgx => by
    by_cases e : y = t
    · subst e
      exact h.part x (by rw [List.take_length]; exact hx) hgx
    · exact h.two.onC y (by omega) hsy x hx hgx⟩
theorem N2.final {r : List Rc} {ids : List Int} {s : Int → Bool} (h : N2 r ids (-1) s) (x : Int) : s x = true ↔ Reach r ids x := by
  refine ⟨h.sound x, fun hr => ?_⟩
  induction hr with
  | id hx hg => exact h.idsC _ hx hg
  | on hy hx hg ih => exact h.onC _ (by have := hy.good.1; omega) ih _ hx hg
theorem rising_castL {p : Nat → Bool} (N : Nat) : Rising (castL ((List.range N).filter p)) := by
  unfold castL Rising
  rw [List.pairwise_map]
  exact (List.pairwise_lt_range.filter p).imp (fun h => by omega)
theorem need_fin {r : List Rc} {ids : List Int} {s : Int → Bool} (h : N2 r ids (-1) s) : needR r ids (prefR (fun i : Nat => s (i : Int)) r.length) := by
  refine ⟨rising_castL _, fun x => ?_⟩
  rw [← h.final x]
  unfold prefR castL
  rw [List.mem_map]
  constructor
  · rintro ⟨i, hi, rfl⟩
    exact (List.mem_filter.1 hi).2
  · intro hs
    have hg := (h.sound x hs).good
    obtain ⟨i, rfl⟩ := Int.eq_ofNat_of_zero_le hg.1
    exact ⟨i, List.mem_filter.2 ⟨List.mem_range.2 (by have := hg.2.1; omega), hs⟩, rfl⟩
theorem need_one {r : List Rc} {ids xs ys : List Int} (h1 : needR r ids xs) (h2 : needR r ids ys) : xs = ys := rising_ext h1.1 h2.1 fun x => by rw [h1.2 x, h2.2 x]
/-- a row of marks -/
def wL (N : Nat) (s : Int → Bool) : List Value := (List.range N).map (fun i : Nat => Value.bool (s (i : Int)))
theorem wL_at {N : Nat} {s : Int → Bool} {i : Nat} (h : i < N) : (wL N s)[i]? = some (.bool (s (i : Int))) := by unfold wL; simp [h]
theorem wL_set {N : Nat} {s : Int → Bool} {i : Nat} (h : i < N) : (wL N s).set i (.bool true) = wL N (markS s (i : Int)) := by
  refine List.ext_getElem (by simp [wL]) fun j h1 h2 => ?_
  have hj : j < N := by simpa [wL] using h2
  rw [List.getElem_set]
  unfold wL markS
  by_cases e : i = j
  · subst e; simp
  · have e2 : ¬ (j : Int) = (i : Int) := by omega
    simp [e, e2]
theorem wL_zero (N : Nat) : wL N (fun _ => false) = List.replicate N (.bool false) := List.ext_getElem (by simp [wL]) fun j h1 h2 => by simp [wL]
end Go.Proofs.Ytjfejimghbohdaa
namespace Go.Proofs.Ytjfejimghbohdaa
set_option linter.unusedVariables false
set_option linter.unusedSimpArgs false
open Go.RowKit Go.Maps

theorem info4n : (Try.prog.info? 4).map (fun i => (i.zero, i.size, i.bytes)) = some (some (.bool false), 1, 1) := by kernel_rfl
def WP (n : Nat) (w : World) (wb N : Nat) (s : Int → Bool) (G : List Atom) (W : World) : Prop := Own n w W (rowA 4 1 (.slice (some ⟨wb, 0, none⟩) N N) N (wL N s) :: G)
section
variable {n b wb N : Nat} {w W : World} {F ps G : List Atom} {r : List Rc} {s : Int → Bool}
theorem WP.cell (h : WP n w wb N s G W) {i : Nat} (hi : i < N) : W.cell? ⟨wb, i, none⟩ = some (.bool (s (i : Int))) := by
  have := h.head
  exact (World.ownsRow.cellAt this i (by omega)).trans (wL_at hi)
theorem WP.frozen (h : WP n w wb N s G W) (i : Nat) : W.frozen? ⟨wb, i, none⟩ = false := World.ownsRow.frozenAt h.head _
theorem WP.set (h : WP n w wb N s G W) {i : Nat} (hi : i < N) : WP n w wb N (markS s (i : Int)) G (W.setCell ⟨wb, i, none⟩ (.bool true)) := by
  have := Own.setRow h i (.bool true)
  rw [wL_set hi] at this
  exact this
theorem good_iff {r : List Rc} {i : Nat} (hi : i < r.length) : good r (i : Int) ↔ (r.getD i zr).done = false := by
  have e : rd r (i : Int) = r.getD i zr := by unfold rd; rw [Int.toNat_natCast]
  unfold good
  rw [e]
  exact ⟨fun h => h.2.2, fun h => ⟨by omega, by omega, h⟩⟩
set_option maxHeartbeats 8000000 in
set_option maxRecDepth 100000 in
theorem rneed_c (hg : IsR b r ps) (hw : WfR r) (hs : Sm r) (ho : Own n w W (ps ++ F)) (A : Option Addr) (c : Nat) (ids : List Int) (hl : ids.length < 274877906944) (hr : Reads n w F A ids) :
    Calls Try.prog 37 #[.pointer (some ⟨b, 0, none⟩), .slice A ids.length c] W fun e W' => ∃ v xs, e = .returned v ∧ needR r ids xs ∧ Own n w W' (rowA 3 1 v xs.length (ints xs) :: (ps ++ F)) := by
  obtain ⟨Al, cl, x0⟩ := hg.slice (fun a ha => ho.hold a (List.mem_append_left _ ha))
  have hlen := hs.len
  have hmk : ∀ (V : World), (Instr.makeSlice 83 (.int .i64 (r.length : Int)) (.int .i64 (r.length : Int))).run Try.prog V = .ok (.slice (some ⟨V.heap.size, 0, none⟩) r.length r.length) (V.alloc (.cells (madeCells #[.bool false] r.length) 4)) := fun V => by
    obtain ⟨i0, hi, hz0, hz1, hz2⟩ := info_parts info4n
    have := run_make (P := Try.prog) V 83 4 i0 (.bool false) Try.underlying83 hi hz0 .i64 .i64 (r.length : Int) (r.length : Int) (by omega) (by omega) (by rw [hz2]; omega) (by omega)
    rw [hz1] at this
    simpa [Value.cells] using this
  have H1 := hide (show WP n w W.heap.size r.length (fun _ => false) (ps ++ F) (W.alloc (.cells (madeCells #[.bool false] r.length) 4)) from by
    have := ho.newRow (e := 4) (sz := 1) (madeCells #[.bool false] r.length) r.length (by unfold maxLen; omega) (by rw [size_madeCells]; omega)
    rw [toList_madeCells_one, ← wL_zero] at this
    exact this)
  have HG := hide hg
  have HW := hide hw
  have HS := hide hs
  have HR := hide hr
  clear hg hw hs ho hr
  go_enter Try.func37, Try.ntmps37
  go_upto_region 2 with (fail)
  generalize W.alloc (.cells (madeCells #[.bool false] r.length) 4) = W1 at H1 ⊢
  generalize W.heap.size = wb at H1 ⊢
  clear hmk x0
  go_wp2
  go_loopg [6] ids.length (fun m i W => ∃ (k : Nat) (s : Int → Bool), k ≤ ids.length ∧ m = ids.length - k ∧ i = .int .i64 k ∧ Hid (N1 r ids k s) ∧ Hid (WP n w wb r.length s (ps ++ F) W))
  case atStart => exact ⟨0, _, by omega, by omega, rfl, hide (N1.start r ids), H1⟩
  case round =>
    obtain ⟨k, s, hk, rfl, rfl, HN, HO⟩ := hrel
    clear H1
    have hq : ∀ a ∈ ps, a.Q wr := fun a ha => HO.out.hold a (List.mem_cons_of_mem _ (List.mem_append_left _ ha))
    have HRC := hide (fun (i : Nat) (hi : i < r.length) => HG.out.cellAt hq hi)
    obtain ⟨Al, cl, x0⟩ := HG.out.slice hq
    clear hq
    by_cases hlt : k < ids.length
    · obtain ⟨ba, oa, rfl, _, hc⟩ := (HR.out wr (HO.out.sub ((List.sublist_append_right _ _).cons _))) (by intro e; rw [e] at hlt; simp at hlt)
      have y0 := hc k hlt
      have hgd : ids.getD k 0 = ids[k] := by simp [hlt]
      rw [hgd] at y0
      have HSK := hide (fun h => HN.out.skip hlt h)
      have HMK := hide (fun h => HN.out.mark hlt h)
      have o1 : (0 : Int) ≤ (k : Int) := by omega
      have o2 : (k : Int) < (ids.length : Int) := by omega
      clear hc hgd
      generalize ids[k] = x at y0 HSK HMK
      by_cases hx0 : 0 ≤ x
      · obtain ⟨i, rfl⟩ := Int.eq_ofNat_of_zero_le hx0
        by_cases hxl : i < r.length
        · obtain ⟨gl, c', von, x0', -, -, x3, -⟩ := HRC.out i hxl
          obtain ⟨rfl, rfl⟩ : Al = some ⟨gl, 0, none⟩ ∧ cl = c' := by rw [x0] at x0'; injection x0' with h; injection h with h1 h2 h3; exact ⟨h1, h3⟩
          clear x0'
          have o3 : (i : Int) < (r.length : Int) := by omega
          have o4 : (0 : Int) ≤ (i : Int) := by omega
          have HGI := hide (good_iff hxl)
          cases hd : (r.getD i zr).done with
          | true =>
            have HE := hide (HSK.out (fun h => by rw [HGI.out.1 h] at hd; cases hd))
            rw [hd] at x3
            clear hd
            go_wp2
            go_quiet (fail)
            go_wp2
            go_roundg (ids.length - (k + 1))
            case measure => omega
            case rel => exact ⟨k + 1, s, by omega, by omega, by go_num, HE, hide (HO.out.drewN _)⟩
          | false =>
            have HE := hide (HMK.out (HGI.out.2 hd))
            rw [hd] at x3
            have z0 := HO.out.cell hxl
            have zf := HO.out.frozen i
            have HZ := hide (HO.out.set hxl)
            clear hd
            go_wp2
            go_quiet (fail)
            go_wp2
            go_roundg (ids.length - (k + 1))
            case measure => omega
            case rel => exact ⟨k + 1, markS s (i : Int), by omega, by omega, by go_num, HE, hide (by first | exact HZ.out.drewN _ | exact (HO.out.drewN _ : WP _ _ _ _ _ _ _).set hxl)⟩
        · have o3 : ¬ (i : Int) < (r.length : Int) := by omega
          have o3' : r.length ≤ i := by omega
          have HE := hide (HSK.out (fun h => by have := h.2.1; omega))
          go_wp2
          go_quiet (fail)
          go_wp2
          go_roundg (ids.length - (k + 1))
          case measure => omega
          case rel => exact ⟨k + 1, s, by omega, by omega, by go_num, HE, hide (HO.out.drewN _)⟩
      · have o4 : decide (0 ≤ x) = false := decide_eq_false hx0
        have HE := hide (HSK.out (fun h => hx0 h.1))
        clear hx0
        go_wp2
        go_quiet (fail)
        go_wp2
        go_roundg (ids.length - (k + 1))
        case measure => omega
        case rel => exact ⟨k + 1, s, by omega, by omega, by go_num, HE, hide (HO.out.drewN _)⟩
    · obtain rfl : k = ids.length := by omega
      have o2 : ¬ (ids.length : Int) < (ids.length : Int) := by omega
      have HN2 := hide HN.out.final
      have hlen := HS.out.len
      have p1 : IntKind.i64.wrap ((r.length : Int) - 1) = (r.length : Int) - 1 := IntWalk.i64_in _ (by omega)
      clear HRC HN
      go_wp2
      obtain ⟨t0, ht0⟩ : ∃ t0 : Int, t0 = (r.length : Int) - 1 := ⟨_, rfl⟩
      rw [← ht0]
      have HT0 := hide ht0
      clear ht0 p1
      go_loopg [7] r.length (fun m i W => ∃ (t : Int) (s : Int → Bool), i = .int .i64 t ∧ Hid (-1 ≤ t ∧ t < (r.length : Int)) ∧ Hid (m = (t + 1).toNat) ∧ Hid (N2 r ids t s) ∧ Hid (WP n w wb r.length s (ps ++ F) W))
      case atStart => exact ⟨t0, s, rfl, hide (by have := HT0.out; omega), hide (by have := HT0.out; omega), hide (by rw [HT0.out]; exact HN2.out), HO⟩
      case round =>
        obtain ⟨t, s, rfl, HT, HM, HN, HO⟩ := hrel
        clear HN2 HT0
        have hq : ∀ a ∈ ps, a.Q wr := fun a ha => HO.out.hold a (List.mem_cons_of_mem _ (List.mem_append_left _ ha))
        obtain ⟨Al, cl, x0⟩ := HG.out.slice hq
        by_cases ht : 0 ≤ t
        · obtain ⟨i, rfl⟩ := Int.eq_ofNat_of_zero_le ht
          have hil : i < r.length := by have := HT.out; omega
          have z0 := HO.out.cell hil
          have p0 : (0 : Int) ≤ (i : Int) := by omega
          have p2 : (i : Int) < (r.length : Int) := by omega
          obtain ⟨tj, htj⟩ : ∃ tj, tj = (i : Int) - 1 := ⟨_, rfl⟩
          have HM' := hide (show (tj + 1).toNat < gk from by have := HM.out; omega)
          have HT' := hide (show -1 ≤ tj ∧ tj < (r.length : Int) from by omega)
          have p3 : IntKind.i64.wrap ((i : Int) - 1) = tj := by rw [htj]; exact IntWalk.i64_in _ (by omega)
          have HTJ := hide htj
          clear htj
          clear ht
          cases hsi : s (i : Int) with
          | false =>
            rw [hsi] at z0
            have HE := hide (show N2 r ids tj s from by rw [HTJ.out]; exact HN.out.skip hsi)
            clear hsi hq
            go_wp2
            go_roundg (tj + 1).toNat
            case measure => exact HM'.out
            case rel => exact ⟨tj, s, rfl, HT', hide rfl, HE, HO⟩
          | true =>
            rw [hsi] at z0
            have HE := hide (N3.start HN.out hsi)
            have hxon := HW.out.on i hil
            have honl := HS.out.on i hil
            have hrd : rd r (i : Int) = r.getD i zr := by unfold rd; rw [Int.toNat_natCast]
            have HRD := hide hrd
            obtain ⟨on, hone⟩ : ∃ on, (r.getD i zr).on = on := ⟨_, rfl⟩
            rw [hone] at hxon honl
            have HXO := hide hxon
            have HONL := hide honl
            have HONE := hide hone
            clear hsi hq hxon honl hrd x0 hone
            go_upto_region 12 with (fail)
            go_loopg [8] on.length (fun m v W => ∃ (j : Nat) (s : Int → Bool), j ≤ on.length ∧ m = on.length - j ∧ v = .int .i64 j ∧ Hid (N3 r ids (i : Int) j s) ∧ Hid (WP n w wb r.length s (ps ++ F) W))
            case atStart => exact ⟨0, s, by omega, by omega, rfl, HE, HO⟩
            case round =>
              obtain ⟨j, s, hj, rfl, rfl, HN, HO⟩ := hrel
              clear HE z0
              have hq : ∀ a ∈ ps, a.Q wr := fun a ha => HO.out.hold a (List.mem_cons_of_mem _ (List.mem_append_left _ ha))
              have HRC := hide (fun (i : Nat) (hi : i < r.length) => HG.out.cellAt hq hi)
              obtain ⟨gl, cl, von, u0, -, u2, -, hon⟩ := HRC.out i hil
              obtain ⟨Ao, co, rfl⟩ := own_slice hon
              have HSK := hide (fun (h1 : j < (rd r (i : Int)).on.length) h2 => HN.out.skip h1 h2)
              have HMK := hide (fun (h1 : j < (rd r (i : Int)).on.length) h2 h3 => HN.out.mark h1 h2 h3)
              have HFN := hide (fun (h : j = (rd r (i : Int)).on.length) => (h ▸ HN.out : N3 r ids (i : Int) (rd r (i : Int)).on.length s).final)
              have hone2 : (rd r (i : Int)).on = on := by rw [HRD.out]; exact HONE.out
              simp only [hone2] at HSK HMK HFN
              rw [HONE.out] at u2 hon
              have hxo := HXO.out
              have hoi := Ints.of_own (B := wr.heap.size) hon (Nat.le_refl _)
              have honl := HONL.out
              clear hon hq HN
              have q1 : (0 : Int) ≤ (j : Int) := by omega
              by_cases hjl : j < on.length
              · obtain ⟨ba, oa, rfl, _, hc⟩ := hoi (by intro e; rw [e] at hjl; simp at hjl)
                have y0 := hc j hjl
                have hgd : on.getD j 0 = on[j] := by simp [hjl]
                rw [hgd] at y0
                have hx := hxo on[j] (List.getElem_mem hjl)
                have HSK2 := hide (HSK.out hjl)
                have HMK2 := hide (HMK.out hjl)
                clear hc hgd hxo HSK HMK HFN
                generalize on[j] = x at y0 hx HSK2 HMK2
                obtain ⟨t, rfl⟩ := Int.eq_ofNat_of_zero_le hx.1
                have htl : t < r.length := by omega
                have q2 : (j : Int) < (on.length : Int) := by omega
                have q3 : (0 : Int) ≤ (t : Int) := by omega
                have q4 : (t : Int) < (r.length : Int) := by omega
                obtain ⟨gl', c', von', x0', -, -, x3, -⟩ := HRC.out t htl
                obtain ⟨rfl, rfl⟩ : gl = gl' ∧ cl = c' := by rw [u0] at x0'; injection x0' with h; injection h with h1 h2 h3; injection h1 with h1; injection h1 with h1; exact ⟨h1, h3⟩
                clear x0'
                have HGI := hide (good_iff htl)
                have HLT := hide (show (t : Int) < (i : Int) from hx.2)
                clear hx HRC
                cases hd : (r.getD t zr).done with
                | true =>
                  have HE := hide (HSK2.out (fun h => by rw [HGI.out.1 h] at hd; cases hd))
                  rw [hd] at x3
                  clear hd
                  go_wp2
                  go_quiet (fail)
                  go_wp2
                  go_roundg (on.length - (j + 1))
                  case measure => omega
                  case rel => exact ⟨j + 1, s, by omega, by omega, by go_num, HE, hide (HO.out.drewN _)⟩
                | false =>
                  have HE := hide (HMK2.out (HGI.out.2 hd) HLT.out)
                  rw [hd] at x3
                  have z0 := HO.out.cell htl
                  have zf := HO.out.frozen t
                  have HZ := hide (HO.out.set htl)
                  clear hd
                  go_wp2
                  go_quiet (fail)
                  go_wp2
                  go_roundg (on.length - (j + 1))
                  case measure => omega
                  case rel => exact ⟨j + 1, markS s (t : Int), by omega, by omega, by go_num, HE, hide (by first | exact HZ.out.drewN _ | exact (HO.out.drewN _ : WP _ _ _ _ _ _ _).set htl)⟩
              · have HE := hide (show N2 r ids tj s from by rw [HTJ.out]; exact HFN.out (by omega))
                have q2 : ¬ (j : Int) < (on.length : Int) := by omega
                go_wp2
                go_roundg (tj + 1).toNat
                case measure => exact HM'.out
                case rel => exact ⟨tj, s, rfl, HT', hide rfl, HE, HO⟩
        · have ht1 : t = -1 := by have := HT.out; omega
          have HF := hide (show N2 r ids (-1) s from ht1 ▸ HN.out)
          clear ht1
          obtain rfl : t = -1 := by have := HT.out; omega
          have HH := hide (fun k : Nat => And.intro (prefR_yes (p := fun i : Nat => s (i : Int)) (k := k)) (And.intro (prefR_no (p := fun i : Nat => s (i : Int)) (k := k)) (prefR_len (fun i : Nat => s (i : Int)) k)))
          have HFN := hide (need_fin HF.out)
          have HP0 := hide (show prefR (fun i : Nat => s (i : Int)) 0 = [] from rfl)
          have HO0 := hide (Own.nilRow HO.out 3 1)
          clear hq HN HM HF HO ht
          go_wp2
          go_loopg [10, 9] r.length (fun mm i v W => ∃ (k m : Nat) (A : Option Addr) (c : Nat), k ≤ r.length ∧ mm = r.length - k ∧ i = .int .i64 k ∧ v = .slice A m c ∧ Hid (m = (prefR (fun i : Nat => s (i : Int)) k).length) ∧ Hid (Own n w W (rowA 3 1 (.slice A m c) m (ints (prefR (fun i : Nat => s (i : Int)) k)) :: rowA 4 1 (.slice (some ⟨wb, 0, none⟩) r.length r.length) r.length (wL r.length s) :: (ps ++ F))))
          case atStart => exact ⟨0, 0, none, 0, by omega, by omega, rfl, rfl, hide (by rw [HP0.out]; rfl), hide (by rw [HP0.out]; exact HO0.out)⟩
          case round =>
            obtain ⟨k, m, A, c, hk, rfl, rfl, rfl, HM, HO⟩ := hrel
            clear HO0 x0
            by_cases hlt : k < r.length
            · have z0 : wr.cell? ⟨wb, k, none⟩ = some (.bool (s (k : Int))) := WP.cell (s := s) (Own.tail HO.out) hlt
              have o1 : (0 : Int) ≤ (k : Int) := by omega
              have o2 : (k : Int) < (r.length : Int) := by omega
              obtain ⟨h1, h2, h3⟩ := HH.out k
              have HML := hide (show m < 274877906944 from by have := HM.out; omega)
              have hml := HML.out
              cases hsk : s (k : Int) with
              | true =>
                rw [hsk] at z0
                have HE := hide (h1 hsk)
                clear h1 h2 h3 hsk
                go_wp2_with (at_builtin; go_must (obtain ⟨i0, hi, hz0, hz1, hz2⟩ := info_parts info3; refine wpList_append_own_at _ rfl _ _ 23 rfl n 3 i0 (.int .i64 0) 1 8 Try.underlying23 hi hz0 hz1 hz2 rfl (by decide) _ _ _ rfl (HO.out.row.alloc _) ⟨wr.heap.size, 0, none⟩ 1 1 [.int .i64 k] rfl rfl (cell_one_new _ _ _) (by simp [Value.oneCell']) (by have := HML.out; unfold maxLen; omega) (by have := HML.out; omega) (by have := HO.out.sz; simp; omega) ?_); intro v' w4 hown' hgrow _ hat; obtain ⟨A6, c6, rfl⟩ := own_slice hown'; have H4 := hide ((HO.out.alloc _).growRow hown' hgrow hat); clear hown' hgrow hat)
                go_roundg (r.length - (k + 1))
                case measure => omega
                case rel => exact ⟨k + 1, m + 1, A6, c6, by omega, by omega, by go_num, rfl, hide (by rw [HE.out, HM.out, List.length_append]; rfl), hide (by rw [HE.out]; have := H4.out; rw [show ints (prefR (fun i : Nat => s (i : Int)) k) ++ [Value.int .i64 (k : Int)] = ints (prefR (fun i : Nat => s (i : Int)) k ++ [(k : Int)]) from by simp [ints]] at this; exact this)⟩
              | false =>
                rw [hsk] at z0
                have HE := hide (h2 hsk)
                clear h1 h2 h3 hsk
                go_wp2
                go_roundg (r.length - (k + 1))
                case measure => omega
                case rel => exact ⟨k + 1, m, A, c, by omega, by omega, by go_num, rfl, hide (by rw [HE.out, HM.out]), hide (by rw [HE.out]; exact HO.out)⟩
            · obtain rfl : k = r.length := by omega
              have o3 : ¬ (r.length : Int) < (r.length : Int) := by omega
              go_wp2
              go_ret
              exact ⟨_, rfl, _, HFN.out, by rw [← HM.out]; exact HO.out.f1.tail⟩
end
end Go.Proofs.Ytjfejimghbohdaa
namespace Go.Proofs.Ytjfejimghbohdaa
set_option linter.unusedVariables false
set_option linter.unusedSimpArgs false
open Go.RowKit Go.Maps

theorem row_pop {W : World} {n g c : Nat} {e : TypeId} {k : Nat} {way : List Int} {x : Int} (h : W.ownsRow n e 1 (.slice (some ⟨g, 0, none⟩) (k + 1) c) (k + 1) (ints (way ++ [x]))) (hk : way.length = k) : W.ownsRow n e 1 (.slice (some ⟨g, 0, none⟩) k c) k (ints way) := by
  obtain ⟨h1, h2⟩ := h
  rcases h2 with ⟨h2, _⟩ | ⟨g', cap, cur, he, hb, hh, h3, h4, h5, h6⟩
  · cases h2
  · cases he
    refine ⟨by rw [ints_len]; omega, .inr ⟨g, c, cur, rfl, hb, hh, by omega, h4, h5, ?_⟩⟩
    have h7 : (cur.toList.take ((k + 1) * 1)).take k = (ints (way ++ [x])).take k := by rw [h6]
    rw [List.take_take, Nat.min_eq_left (by omega)] at h7
    rw [Nat.mul_one, h7]
    unfold ints
    rw [List.map_append, List.take_append_of_le_length (by simp; omega), List.take_of_length_le (by simp; omega)]
theorem OwnV.ne_cell {w : World} {b s : Nat} {f : Int → Option Value} (h : OwnV Try.prog 3 w b f s) {a j : Nat} {v : Value} (hc : w.cell? ⟨a, j, none⟩ = some v) : a ≠ b := fun e => by
  obtain ⟨es, clock, ho⟩ := h.obj
  subst e
  simp [World.cell?, ho] at hc
theorem Ints.grownMap {w w' : World} {b s B : Nat} {f : Int → Option Value} {A : Option Addr} {zs : List Int} (hm : OwnV Try.prog 3 w b f s) (h : Ints B w A zs) (hg : w.grownBy w' (some b)) : Ints B w' A zs := fun hne => by
  obtain ⟨k, off, e, hk, hc⟩ := h hne
  exact ⟨k, off, e, hk, fun j hj => hg.cell (hc j hj) (fun e => hm.ne_cell (hc j hj) (Option.some.inj e))⟩
theorem setF_mark (s : Int → Bool) (id : Int) : setF (fun x => if x = id then true else s x) = fun x => if x = id then some (.bool true) else setF s x := by
  funext x
  unfold setF
  by_cases e : x = id <;> simp [e]
theorem Of_get {r : List Rc} {i : Nat} (h : i < (Of r).l.length) : (Of r).l[i] = ofC r i := by simp [Of]
def NeP (n : Nat) (w : World) (ps F : List Atom) (sb : Nat) (A : Option Addr) (k c : Nat) (way : List Int) (s : Int → Bool) (W : World) : Prop :=
  Own n w W (rowA 3 1 (.slice A k c) k (ints way) :: mpA sb (setF s) :: (ps ++ F))
section
variable {n g : Nat} {w W : World} {F ps : List Atom} {r : List Rc}
set_option maxHeartbeats 4000000 in
theorem need_c (hg : Gr g r ps) (ho : Own n w W (ps ++ F)) (A : Option Addr) (c : Nat) (ids : List Int) (hl : ids.length < 274877906944) (hr : Reads n w F A ids) :
    Calls Try.prog 14 #[.pointer (some ⟨g, 0, none⟩), .slice A ids.length c] W fun e W' => ∃ v xs, e = .returned v ∧ needR r ids xs ∧ Own n w W' (rowA 3 1 v xs.length (ints xs) :: (ps ++ F)) := by
  have h1 := ho.new (.map #[] 0) (mpA W.heap.size (setF (fun _ => false))) rfl ⟨0, OwnV.made W Try.prog 3⟩
  have hX := hr (W.alloc (.map #[] 0)) (h1.tail.sub (List.sublist_append_right _ _))
  have HCL := hide (clone31_c A ids.length c (ints ids) (W.alloc (.map #[] 0)) (by rw [ints_len]; omega) hX.cells (by intro u hu; unfold ints at hu; obtain ⟨z, _, rfl⟩ := List.mem_map.1 hu; rfl) (by omega))
  have HO := hide h1
  have HG := hide hg
  have hmm := @run_makeMap Try.prog
  obtain ⟨sb, hsb⟩ : ∃ sb, W.heap.size = sb := ⟨_, rfl⟩
  rw [hsb] at HO
  have HSB := hide hsb
  clear ho hr hX h1 hg hsb
  go_enter Try.func14, Try.ntmps14
  go_wp2_with (go_at_call 33; refine HCL.out.mono ?_; rintro e W1 ⟨v, rfl, hv, hb⟩; obtain ⟨A1, c1, rfl⟩ := own_slice hv; have H1 := hide (show NeP n w ps F sb A1 ids.length c1 ids (fun _ => false) W1 from HO.out.moreRow hb hv); clear hv hb)
  rw [HSB.out]
  have HM := hide (show rest r (fun _ => false) + ids.length ≤ tot r + r.length + ids.length from by have := rest_le r (fun _ => false); omega)
  go_loopg [6] (rest r (fun _ => false) + ids.length) (fun m v W => ∃ (A : Option Addr) (k c : Nat) (way : List Int) (s : Int → Bool), v = .slice A k c ∧ way.length = k ∧ Hid (m = rest r s + k) ∧ Hid (m ≤ tot r + r.length + ids.length) ∧ Hid (NInv r ids s way) ∧ Hid (NeP n w ps F sb A k c way s W))
  case atStart => exact ⟨A1, ids.length, c1, ids, fun _ => false, rfl, rfl, hide rfl, HM, hide (NInv.start r ids), H1⟩
  case round =>
    obtain ⟨A2, k, c2, way, s, rfl, hk, HM1, HM2, HI, HN⟩ := hrel
    have HK := hide hk
    clear hk H1 HCL HO HSB
    by_cases h0 : 0 < k
    · obtain ⟨j, hj⟩ : ∃ j, k = j + 1 := ⟨k - 1, by omega⟩
      have hne : way ≠ [] := by intro e; have := HK.out; rw [e] at this; simp at this; omega
      obtain ⟨l, x, hwx⟩ : ∃ l x, way = l ++ [x] := ⟨way.dropLast, way.getLast hne, (List.dropLast_concat_getLast hne).symm⟩
      subst hwx
      have hlj : l.length = j := by have := HK.out; simp at this; omega
      have hrow : wr.ownsRow n 3 1 (.slice A2 k c2) k (ints (l ++ [x])) := HN.out.row
      obtain ⟨ga, rfl⟩ := row_form hrow (by omega)
      have x0 : wr.cell? ⟨ga, j, none⟩ = some (.int .i64 x) := by
        have := hrow.cellAt j (by omega)
        rw [this]
        unfold ints
        rw [List.map_append, List.getElem?_append_right (by simp; omega)]
        simp [hlj]
      have hkc : k ≤ c2 := by
        rcases hrow.2 with ⟨h2, _⟩ | ⟨g', cap, cur, he, hb, hh, h3, h4, h5, h6⟩
        · cases h2
        · cases he; exact h3
      have p0 : (0 : Int) < (k : Int) := by omega
      have p1 : IntKind.i64.wrap ((k : Int) - 1) = (j : Int) := by
        have e : ((k : Int) - 1) = (j : Int) := by omega
        rw [e]; exact IntWalk.i64_in _ (by have := HM1.out; have := HM2.out; have := HG.out.len; have := HG.out.tot; omega)
      have p2 : (0 : Int) ≤ (j : Int) := by omega
      have p3 : (j : Int) < (k : Int) := by omega
      have p4 : (j : Int) ≤ (c2 : Int) := by omega
      have HJ := hide hj
      have HLJ := hide hlj
      have HP := hide (show Own n w wr (rowA 3 1 (.slice (some ⟨ga, 0, none⟩) j c2) j (ints l) :: mpA sb (setF s) :: (ps ++ F)) from by
        have h := HN.out
        subst hj
        exact h.turn (a' := rowA 3 1 (.slice (some ⟨ga, 0, none⟩) j c2) j (ints l)) rfl (row_base (row_pop hrow hlj)))
      have hq : ∀ a ∈ ps, a.Q wr := fun a ha => HN.out.hold a (List.mem_cons_of_mem _ (List.mem_cons_of_mem _ (List.mem_append_left _ ha)))
      have HC := hide (is_c HG.out.is hq HG.out.fit x)
      have hskip : (¬ good r x ∨ s x = true) → Hid (NInv r ids s l) := fun h => hide (HI.out.skip h)
      clear hj hlj hne hrow hkc
      by_cases hb : 0 ≤ x ∧ x < (r.length : Int)
      · have hB : isB (Of r) x = true := by rw [isB_of]; simpa using hb
        rw [hB] at HC
        clear hB
        obtain ⟨i, rfl⟩ := Int.eq_ofNat_of_zero_le hb.1
        have hil : i < r.length := by omega
        have hil' : i < (Of r).l.length := by rw [Of_len]; exact hil
        obtain ⟨gl, vl, cl, bb, nb, von, vto, rfl, z0, -, z1, -, -, z4, -, -, hon, -⟩ := HG.out.is.cellAt hq hil'
        rw [Of_len] at z0
        rw [Of_get hil'] at z4 hon
        have hdn : (ofC r i).done = (rd r (i : Int)).done := by unfold rd; rw [Int.toNat_natCast]; rfl
        have hov : (ofC r i).on = (rd r (i : Int)).on := by unfold rd; rw [Int.toNat_natCast]; rfl
        rw [hdn] at z4
        rw [hov] at hon
        obtain ⟨sz, hmS⟩ : ∃ z, OwnV Try.prog 3 wr sb (setF s) z := HN.out.tail.head
        have hsz : sz ≤ r.length := by
          have := hmS.size_le ((List.range r.length).map (fun i : Nat => (i : Int))) (fun x hx => mem_rangeI (by
            have h : s x = true := by unfold setF at hx; cases hs : s x with | true => rfl | false => rw [hs] at hx; simp at hx
            have := (HI.out.sound x h).good
            exact ⟨this.1, this.2.1⟩))
          simpa using this
        have hwi : (Lit.int .i64 (i : Int)).wf = true := wf64 (by have := HG.out.len; unfold I64; omega)
        have hlk : (Instr.lookup 71 (.map (some sb)) (.int .i64 (i : Int)) false).run Try.prog wr = .ok (.bool (s i)) wr := by
          have := hmS.look0 Try.underlying3 Try.underlying71 (zero4 wr) (i : Int) hwi
          rw [this]
          unfold setF
          cases s (i : Int) <;> rfl
        have q1 : (i : Int) < (r.length : Int) := by omega
        have q0 : (0 : Int) ≤ (i : Int) := by omega
        have HSZ := hide hsz
        have hlen := HG.out.len
        have HL := hide hlen
        have HONL := hide (show (rd r (i : Int)).on.length ≤ tot r from by unfold rd; rw [Int.toNat_natCast]; exact on_le_tot hil)
        have HT := hide HG.out.tot
        have HMK := hide (fun hd : (rd r (i : Int)).done = false => fun hs : s i = false => And.intro (rest_mark (r := r) (s := s) hb hs) (HI.out.mark ⟨hb.1, hb.2, hd⟩))
        have HSK := hide hskip
        have HOR := hide hon
        have HMS := hide hmS
        have HGD := hide (show good r (i : Int) ↔ (rd r (i : Int)).done = false from ⟨fun h => h.2.2, fun h => ⟨hb.1, hb.2, h⟩⟩)
        clear hdn hov hil hil' hsz hlen hq hskip hon hb hmS
        cases hd : (rd r (i : Int)).done with
        | true =>
          rw [hd] at z4
          have HS := HSK.out (.inl (fun h => by rw [HGD.out.1 h] at hd; cases hd))
          clear hd
          go_wp2_with (go_at_call 32; refine HC.out.mono ?_; rintro e w' ⟨rfl, rfl⟩)
          go_roundg (rest r s + j)
          case measure => have := HM1.out; have := HJ.out; omega
          case rel => exact ⟨_, j, c2, l, s, rfl, HLJ.out, hide rfl, hide (by have := HM1.out; have := HJ.out; have := HM2.out; omega), HS, HP⟩
        | false =>
          rw [hd] at z4
          cases hs : s (i : Int) with
          | true =>
            rw [hs] at hlk
            have HS := HSK.out (.inr hs)
            clear hd hs
            go_wp2_with (go_at_call 32; refine HC.out.mono ?_; rintro e w' ⟨rfl, rfl⟩)
            go_roundg (rest r s + j)
            case measure => have := HM1.out; have := HJ.out; omega
            case rel => exact ⟨_, j, c2, l, s, rfl, HLJ.out, hide rfl, hide (by have := HM1.out; have := HJ.out; have := HM2.out; omega), HS, HP⟩
          | false =>
            rw [hs] at hlk
            have HM := hide (HMK.out hd hs)
            obtain ⟨Ao, co, rfl⟩ := own_slice HOR.out
            have HOI := hide (Ints.of_own (B := wr.heap.size) HOR.out (Nat.le_refl _))
            generalize honv : (rd r (i : Int)).on = on at z1 HOI HOR HONL HM
            have HONV := hide honv
            clear hd hs honv
            go_upto_region 7 with (go_at_call 32; refine HC.out.mono ?_; rintro e w' ⟨rfl, rfl⟩)
            have hmx : sz < maxLen := by have := HSZ.out; have := HL.out; unfold maxLen; omega
            have HMX := hide hmx
            clear hmx
            go_upto_region 8 with (with_reducible refine wpList_putV rfl _ _ _ 71 (.inl rfl) 3 4 Try.underlying3 Try.underlying71 sb sz (setF s) rfl HMS.out HMX.out (i : Int) (.bool true) rfl rfl hwi ?_; intro w5 hown5 hg5; have HG5 := hide (And.intro hown5 hg5); clear hown5 hg5)
            obtain ⟨hown5, hg5⟩ := HG5.out
            clear HG5
            rw [← setF_mark] at hown5
            have y0 := hg5.cell z0 (fun e => HMS.out.ne_cell z0 (Option.some.inj e))
            have y1 := hg5.cell z1 (fun e => HMS.out.ne_cell z1 (Option.some.inj e))
            have H5 := hide ((HP.out.f1.grow hg5 (fun k hk => .inl hk) (a' := mpA sb (setF (fun x => if x = (i : Int) then true else s x))) ⟨_, hown5⟩).f1)
            have HO5 := hide (HOI.out.grownMap HMS.out hg5)
            clear hown5 hg5
            go_wp2_with (at_builtin; go_must (obtain ⟨i0, hi, hz0, hz1, hz2⟩ := info_parts infoCl3; refine wpList_append_src _ rfl _ _ 23 rfl n 3 i0 (.int .i64 0) 1 8 Try.underlying23 hi hz0 hz1 hz2 rfl (by decide) _ j (ints l) rfl H5.out.row wr.heap.size Ao on.length co (ints on) rfl (by rw [ints_len, Nat.mul_one]) HO5.out.cells (by intro u hu; unfold ints at hu; obtain ⟨z, _, rfl⟩ := List.mem_map.1 hu; rfl) (by have := HONL.out; have := HT.out; have := HJ.out; have := HM1.out; have := HM2.out; have := HL.out; unfold maxLen; omega) (by have := HONL.out; have := HT.out; have := HJ.out; have := HM1.out; have := HM2.out; have := HL.out; omega) H5.out.sz ?_); intro v' w6 hown hg hat; obtain ⟨A6, c6, rfl⟩ := own_slice hown; have H6 := hide (H5.out.growRow hown hg hat); clear hown hg hat hi hz0 hz1 hz2 i0)
            go_roundg (rest r (fun x => if x = (i : Int) then true else s x) + (j + on.length))
            case measure => have := HM1.out; have := HJ.out; have := HM.out.1; omega
            case rel => exact ⟨_, j + on.length, c6, l ++ on, fun x => if x = (i : Int) then true else s x, rfl, by rw [List.length_append, HLJ.out], hide rfl, hide (by have := HM1.out; have := HJ.out; have := HM2.out; have := HM.out.1; omega), hide HM.out.2, hide (by have := H6.out; rw [show ints l ++ ints on = ints (l ++ on) from by simp [ints]] at this; exact this)⟩
      · have hB : isB (Of r) x = false := by rw [isB_of]; simpa using hb
        rw [hB] at HC
        have HS := hskip (.inl (fun h => hb ⟨h.1, h.2.1⟩))
        clear hB hb hq hskip
        go_wp2_with (go_at_call 32; refine HC.out.mono ?_; rintro e w' ⟨rfl, rfl⟩)
        go_roundg (rest r s + j)
        case measure => have := HM1.out; have := HJ.out; omega
        case rel => exact ⟨_, j, c2, l, s, rfl, HLJ.out, hide rfl, hide (by have := HM1.out; have := HJ.out; have := HM2.out; omega), HS, HP⟩
    · obtain rfl : k = 0 := by omega
      obtain rfl : way = [] := List.length_eq_zero_iff.1 HK.out
      have p0 : ¬ (0 : Int) < ((0 : Nat) : Int) := by omega
      obtain ⟨sz, hmS⟩ : ∃ z, OwnV Try.prog 3 wr sb (setF s) z := HN.out.tail.head
      have hsz : sz ≤ r.length := by
        have := hmS.size_le ((List.range r.length).map (fun i : Nat => (i : Int))) (fun x hx => mem_rangeI (by
          have h : s x = true := by unfold setF at hx; cases hs : s x with | true => rfl | false => rw [hs] at hx; simp at hx
          have := (HI.out.sound x h).good
          exact ⟨this.1, this.2.1⟩))
        simpa using this
      have HS := hide (sortedB_c wr.heap.size sb sz (setF s) (wr.alloc (.cells #[.map (some sb)] 71)) (cellNew _ _ _) (hmS.alloc _) (by have := HG.out.len; omega))
      have HE := hide ((HN.out.tail.tail.alloc (.cells #[.map (some sb)] 71)))
      clear hmS hsz
      go_wp2_with (first
        | (go_at_call 35; refine (keys39_c _ _).mono ?_; rintro e w' ⟨rfl, rfl⟩)
        | (go_at_call 34; refine HS.out.mono ?_; rintro e w5 ⟨v, xs, rfl, hr, hx, hrow, hb5⟩; have HR := hide (And.intro hr (And.intro hx (And.intro hrow hb5))); clear hr hx hrow hb5))
      go_ret
      obtain ⟨hr, hx, hrow, hb5⟩ := HR.out
      refine ⟨v, xs, rfl, ⟨hr, fun x => (hx x).trans ?_⟩, HE.out.moreRow hb5 hrow⟩
      rw [← HI.out.final x]
      unfold setF
      cases s x <;> simp
end
end Go.Proofs.Ytjfejimghbohdaa
