/-
  The document's graph again: written keeps the rows of what changes hang on; its Copy, which shares them. Conditions: the rows are few.
  The document's Plan. Conditions: the rows are few, the changes are there.
  A chain of changes, in plain words.
  Plans where nothing hangs on anything, and plans of a chain: plain words.
  How often a buffer stands in a plan, and what is done at its end: plain words.
  The law SyncerLeast. No condition.
-/
import Derived.Test.YtjfejimghbohdaaMB11
namespace Go.Proofs.Ytjfejimghbohdaa
set_option linter.unusedVariables false
set_option linter.unusedSimpArgs false
open Go.RowKit Go.Maps

/-- the document's graph, with the rows of what its changes hang on -/
def IsRr (b : Nat) (r : List Rc) (R ps : List Atom) : Prop := ∃ vl l, ps = rParts b vl l ∧ l.map Rg.c = r ∧ l.map rgA = R
theorem IsRr.is {b : Nat} {r : List Rc} {R ps : List Atom} (h : IsRr b r R ps) : IsR b r ps := by
  obtain ⟨vl, l, h1, h2, -⟩ := h
  exact ⟨vl, l, h1, h2⟩
section
variable {n b : Nat} {w W : World} {F ps R : List Atom} {r : List Rc}
def RwQ (n : Nat) (w : World) (b : Nat) (R F : List Atom) (v : Value) (out : List Int) (r : List Rc) (W : World) : Prop :=
  ∃ ps, IsRr b r R ps ∧ Own n w W (rowA 3 1 v out.length (ints out) :: (ps ++ F))
set_option maxHeartbeats 4000000 in
theorem rwrittenR_c (hg : IsRr b r R ps) (hw : WfR r) (hs : Sm r) (ho : Own n w W (ps ++ F)) (buf : Int) :
    Calls Try.prog 27 #[.pointer (some ⟨b, 0, none⟩), .int .i64 buf] W fun e W' => ∃ v ps', e = .returned v ∧ IsRr b (writtenR r buf) R ps' ∧ Own n w W' (rowA 3 1 v (nextR r buf).length (ints (nextR r buf)) :: (ps' ++ F)) := by
  have HN := hide (rnext_c hg.is hw hs ho buf)
  have HG := hide hg
  have hmem := fun x (hx : x ∈ nextR r buf) => nextR_range hx
  have hol : (nextR r buf).length ≤ r.length := by
    unfold nextR castL
    rw [List.length_map]
    exact Nat.le_trans (List.length_filter_le _ _) (by simp)
  have hlen := hs.len
  have HLEN := hide hlen
  unfold writtenR
  generalize nextR r buf = out at HN hmem hol ⊢
  have HMEM := hide hmem
  have HOL := hide hol
  clear hmem ho hg hw hs hlen hol
  go_enter Try.func27, Try.ntmps27
  go_upto_region 2 with (go_at_call 40; refine HN.out.mono ?_; rintro e W1 ⟨v, rfl, h1⟩; obtain ⟨Av, cv, rfl⟩ := own_slice h1.row; have H1 := hide h1; clear h1)
  have HP0 := hide (show RwQ n w b R F (.slice Av out.length cv) out (setD r (out.take 0)) W1 from ⟨ps, by rw [List.take_zero, setD_nil]; exact HG.out, H1.out⟩)
  clear H1 HN HG
  go_wp2
  go_loopw [6] (fun i W => ∃ k : Nat, k ≤ out.length ∧ i = .int .i64 k ∧ Hid (RwQ n w b R F (.slice Av out.length cv) out (setD r (out.take k)) W)) (fun i _ => out.length - (intOf i).toNat)
  case atStart => exact ⟨0, by omega, rfl, HP0⟩
  case round =>
    obtain ⟨k, hk, rfl, HP⟩ := hrel
    by_cases hlt : k < out.length
    · obtain ⟨ps, ⟨vl, l, rfl, h1, hrr⟩, ho⟩ := HP.out
      have HRR := hide hrr
      clear hrr
      have hrv : wr.ownsRow n 3 1 (.slice Av out.length cv) out.length (ints out) := ho.row
      obtain ⟨gv, rfl⟩ := row_form hrv (by omega)
      have y0 := hrv.cellAt k (by omega)
      rw [ints_at hlt] at y0
      have hx := HMEM.out _ (List.getElem_mem hlt)
      have hTK := List.take_succ_eq_append_getElem hlt
      generalize out[k] = x at y0 hx hTK
      obtain ⟨i, rfl⟩ := Int.eq_ofNat_of_zero_le hx.1
      have hir : i < r.length := by omega
      have hlm : l.length = r.length := by rw [← List.length_map (f := Rg.c), h1, setD_len]
      have hil : i < l.length := by omega
      have hrl : wr.ownsRow 0 39 3 vl l.length (cellsR l) := ho.hold (rowA 39 3 vl l.length (cellsR l)) (by simp [rParts])
      obtain ⟨Al, cl, rfl⟩ := own_slice hrl
      obtain ⟨gl, rfl⟩ := row_form hrl (by omega)
      have hbk : Blk wr b #[.slice (some ⟨gl, 0, none⟩) l.length cl] 37 := ho.hold (blkA b #[.slice (some ⟨gl, 0, none⟩) l.length cl] 37) (by simp [rParts])
      have x0 : wr.cell? ⟨b, 0, none⟩ = some (.slice (some ⟨gl, 0, none⟩) l.length cl) := hbk.cell 0
      have x2 : wr.cell? ⟨gl, i * 3 + 2, none⟩ = some (.bool l[i].c.done) := by rw [hrl.cellAt (i * 3 + 2) (by omega), cellsR_at hil (by omega)]; rfl
      have f2 : wr.frozen? ⟨gl, i * 3 + 2, none⟩ = false := hrl.frozenAt _
      have o1 : (0 : Int) ≤ (k : Int) := by omega
      have o2 : (k : Int) < (out.length : Int) := by omega
      have o3 : (0 : Int) ≤ (i : Int) := by omega
      have o4 : (i : Int) < (l.length : Int) := by omega
      have hO1 := ho.f2.setRow (i * 3 + 2) (.bool true)
      rw [cellsR_set hil (by omega) (.bool true) ⟨⟨l[i].c.buf, l[i].c.on, true⟩, l[i].von⟩ rfl] at hO1
      have HN := hide (show RwQ n w b R F (.slice (some ⟨gv, 0, none⟩) out.length cv) out (setD r (out.take (k + 1))) (wr.setCell ⟨gl, i * 3 + 2, none⟩ (.bool true)).drew from by
        refine ⟨rParts b (.slice (some ⟨gl, 0, none⟩) l.length cl) (l.set i ⟨⟨l[i].c.buf, l[i].c.on, true⟩, l[i].von⟩), ⟨_, _, rfl, ?_, (rg_set hil (⟨⟨l[i].c.buf, l[i].c.on, true⟩, l[i].von⟩ : Rg) rfl rfl).trans HRR.out⟩, ?_⟩
        · rw [hTK, setD_snoc r _ i hir, ← h1, List.map_set]
          congr 1
          have e : (l.map Rg.c).getD i zr = l[i].c := by simp [hil]
          rw [e]
        · have h := hO1.f2.f2.drew
          unfold rParts
          rw [rg_set hil (⟨⟨l[i].c.buf, l[i].c.on, true⟩, l[i].von⟩ : Rg) rfl rfl, List.length_set]
          exact h)
      have HOLL := hide (show out.length < 274877906944 from by have := HOL.out; have := HLEN.out; omega)
      have hll := HOLL.out
      clear hO1 ho hrv hx h1 hbk hrl HP hlm hTK hir
      generalize l[i].c.done = dn at x2
      clear hil
      go_upto_region 5 with (fail)
      go_region
      generalize (wr.setCell ⟨gl, i * 3 + 2, none⟩ (.bool true)).drew = Wz at HN ⊢
      clear x0 x2 f2 y0
      go_wp2
      go_roundw
      case rel => exact ⟨k + 1, by omega, by go_num, HN⟩
      case measure => simp [intOf]; omega
    · obtain rfl : k = out.length := by omega
      have o3 : ¬ (out.length : Int) < (out.length : Int) := by omega
      go_wp2
      go_ret
      obtain ⟨ps, hg, ho⟩ := HP.out
      rw [List.take_length] at hg
      exact ⟨_, rfl, ps, hg, ho⟩
theorem rcopy_c (hg : IsR b r ps) (hs : r.length < 274877906944) (ho : Own n w W (ps ++ F)) :
    Calls Try.prog 36 #[.pointer (some ⟨b, 0, none⟩)] W fun e W' => ∃ c vl l vl', e = .returned (.pointer (some ⟨c, 0, none⟩)) ∧ ps = rParts b vl l ∧ l.map Rg.c = r ∧ Own n w W' (rParts c vl' l ++ (blkA b #[vl] 37 :: rowA 39 3 vl l.length (cellsR l) :: F)) := by
  obtain ⟨vl, l, rfl, h1⟩ := hg
  have hlm : l.length = r.length := by rw [← h1, List.length_map]
  have hrl : W.ownsRow 0 39 3 vl l.length (cellsR l) := ho.hold (rowA 39 3 vl l.length (cellsR l)) (by simp [rParts])
  obtain ⟨Al, cl, rfl⟩ := own_slice hrl
  have hbk : Blk W b #[.slice Al l.length cl] 37 := ho.hold (blkA b #[.slice Al l.length cl] 37) (by simp [rParts])
  have x0 : W.cell? ⟨b, 0, none⟩ = some (.slice Al l.length cl) := hbk.cell 0
  have HCL := hide (show Cells W.heap.size W Al (cellsR l) from fun hne => by
    have hcl := cellsR_len l
    have h0 : 0 < l.length := by
      rcases Nat.eq_zero_or_pos l.length with h | h
      · exact absurd (List.length_eq_zero_iff.1 (by omega)) hne
      · exact h
    obtain ⟨gl, rfl⟩ := row_form hrl h0
    have h2 : W.cell? ⟨gl, 0, none⟩ = some ((cellsR l)[0]'(by omega)) := (hrl.cellAt 0 (by omega)).trans (List.getElem?_eq_getElem _)
    refine ⟨gl, 0, rfl, World.block_lt_of_cell? _ _ h2, fun i u hu => ?_⟩
    obtain ⟨hi, -⟩ := List.getElem?_eq_some_iff.1 hu
    rw [Nat.zero_add]
    exact (hrl.cellAt i (by omega)).trans hu)
  have HON := hide (show ∀ u ∈ cellsR l, u.oneCell' = true from fun u hu => by
    obtain ⟨x, hx, hu⟩ := List.mem_flatMap.1 hu
    have hrow : W.ownsRow 0 3 1 x.von x.c.on.length (ints x.c.on) := ho.hold (rgA x) (by simp only [rParts, List.mem_append, List.mem_cons, List.mem_map]; exact .inl (.inr (.inr ⟨_, hx, rfl⟩)))
    obtain ⟨A, c, e⟩ := own_slice hrow
    unfold Rg.cells at hu
    rw [e] at hu
    simp only [List.mem_cons, List.not_mem_nil, or_false] at hu
    rcases hu with rfl | rfl | rfl <;> rfl)
  have HO := hide ho
  have H1 := hide h1
  have HLM := hide (show l.length < 274877906944 from by omega)
  clear hrl hbk ho h1 hlm hs
  go_enter Try.func36, Try.ntmps36
  go_wp2_with (at_builtin; go_must (obtain ⟨i0, hi, hz0, hz1, hz2⟩ := info_parts info45; refine wpList_append_src _ rfl _ _ 35 rfl n 39 i0 _ 3 40 Try.underlying35 hi hz0 hz1 hz2 rfl (by decide) (.slice none 0 0) 0 [] rfl (World.ownsRow_nil _ _ _ _) W.heap.size Al l.length cl (cellsR l) rfl (by rw [cellsR_len]) HCL.out HON.out (by have := HLM.out; unfold maxLen; omega) (by have := HLM.out; omega) HO.out.sz ?_); intro v1 w1 hown hg hat; rw [List.nil_append, Nat.zero_add] at hown; obtain ⟨A1, c1, rfl⟩ := own_slice hown; have H2 := hide ((HO.out.nilRow 39 3).growRow hown hg hat); clear hown hg hat hi hz0 hz1 hz2 i0)
  go_ret
  refine ⟨w1.heap.size, _, l, .slice A1 l.length c1, rfl, rfl, H1.out, ?_⟩
  have h3 := H2.out.newBlk #[.slice A1 l.length c1] 37
  refine h3.perm ?_
  show (blkA w1.heap.size #[.slice A1 l.length c1] 37 :: rowA 39 3 (.slice A1 l.length c1) l.length (cellsR l) :: (blkA b #[.slice Al l.length cl] 37 :: rowA 39 3 (.slice Al l.length cl) l.length (cellsR l) :: (l.map rgA ++ F))).Perm (blkA w1.heap.size #[.slice A1 l.length c1] 37 :: rowA 39 3 (.slice A1 l.length c1) l.length (cellsR l) :: (l.map rgA ++ (blkA b #[.slice Al l.length cl] 37 :: rowA 39 3 (.slice Al l.length cl) l.length (cellsR l) :: F)))
  exact .cons _ (.cons _ ((List.Perm.cons _ List.perm_middle.symm).trans List.perm_middle.symm))
end
end Go.Proofs.Ytjfejimghbohdaa
namespace Go.Proofs.Ytjfejimghbohdaa
set_option linter.unusedVariables false
set_option linter.unusedSimpArgs false
open Go.RowKit Go.Maps

/-- sb, bz: whether one of xs may be written, and the least buffer of these -/
def BestK (rk : List Rc) (xs : List Int) (sb : Bool) (bz : Int) : Prop :=
  (sb = false → ∀ x ∈ xs, mayR rk x.toNat = false) ∧ (sb = true → (∃ x ∈ xs, mayR rk x.toNat = true ∧ (rk.getD x.toNat zr).buf = bz) ∧ ∀ x ∈ xs, mayR rk x.toNat = true → bz ≤ (rk.getD x.toNat zr).buf)
section
variable {rk : List Rc} {xs ids : List Int} {sb : Bool} {bz x : Int}
theorem BestK.start (rk : List Rc) (z : Int) : BestK rk [] false z := ⟨fun _ x hx => (by cases hx), fun h => (by cases h)⟩
theorem BestK.no (h : BestK rk xs sb bz) (hx : mayR rk x.toNat = false) : BestK rk (xs ++ [x]) sb bz := by
  refine ⟨fun hs y hy => ?_, fun hs => ⟨?_, fun y hy hm => ?_⟩⟩
  · rcases List.mem_append.1 hy with hy | hy
    · exact h.1 hs y hy
    · rw [List.mem_singleton.1 hy]; exact hx
  · obtain ⟨y, hy, h1⟩ := (h.2 hs).1
    exact ⟨y, List.mem_append_left _ hy, h1⟩
  · rcases List.mem_append.1 hy with hy | hy
    · exact (h.2 hs).2 y hy hm
    · rw [List.mem_singleton.1 hy] at hm; rw [hm] at hx; cases hx
theorem BestK.keep (h : BestK rk xs true bz) (hx : bz ≤ (rk.getD x.toNat zr).buf) : BestK rk (xs ++ [x]) true bz := by
  refine ⟨fun hs => (by cases hs), fun hs => ⟨?_, fun y hy hm => ?_⟩⟩
  · obtain ⟨y, hy, h1⟩ := (h.2 hs).1
    exact ⟨y, List.mem_append_left _ hy, h1⟩
  · rcases List.mem_append.1 hy with hy | hy
    · exact (h.2 hs).2 y hy hm
    · rw [List.mem_singleton.1 hy]; exact hx
theorem BestK.take (h : BestK rk xs sb bz) (hm : mayR rk x.toNat = true) (hx : sb = true → (rk.getD x.toNat zr).buf ≤ bz) : BestK rk (xs ++ [x]) true (rk.getD x.toNat zr).buf := by
  refine ⟨fun hs => (by cases hs), fun _ => ⟨⟨x, by simp, hm, rfl⟩, fun y hy hmy => ?_⟩⟩
  rcases List.mem_append.1 hy with hy | hy
  · cases sb with
    | true => have := (h.2 rfl).2 y hy hmy; have := hx rfl; omega
    | false => rw [h.1 rfl y hy] at hmy; cases hmy
  · rw [List.mem_singleton.1 hy]; omega
theorem BestK.best (h : BestK rk xs sb bz) (hn : needR rk ids xs) (hw : WfR rk) (hne : xs ≠ []) : bestR rk ids bz := by
  have hmem : ∀ i : Nat, Reach rk ids (i : Int) → (i : Int) ∈ xs := fun i hi => (hn.2 _).2 hi
  cases sb with
  | false =>
    obtain ⟨y, hy⟩ := List.exists_mem_of_ne_nil _ hne
    obtain ⟨b, i, hr, hm, -⟩ := reach_cand hw ⟨y, (hn.2 y).1 hy⟩
    have := h.1 rfl _ (hmem i hr)
    rw [Int.toNat_natCast] at this
    rw [this] at hm; cases hm
  | true =>
    obtain ⟨⟨y, hy, hm, hb⟩, h2⟩ := h.2 rfl
    have hr := (hn.2 y).1 hy
    obtain ⟨i, rfl⟩ := Int.eq_ofNat_of_zero_le hr.good.1
    refine ⟨⟨i, hr, ?_, ?_⟩, ?_⟩
    · simpa using hm
    · simpa using hb
    · rintro b' ⟨j, hj, hmj, hbj⟩
      have := h2 _ (hmem j hj) (by rw [Int.toNat_natCast]; exact hmj)
      rw [Int.toNat_natCast, hbj] at this
      exact this
end
section
variable {n b c : Nat} {w W : World} {F ps R : List Atom} {r rk : List Rc} {out : List Int} {v : Value}
/-- the copy at the rows rk, the plan so far, and the rest -/
def RQ (n : Nat) (w : World) (c : Nat) (rk : List Rc) (R F : List Atom) (out : List Int) (v : Value) (W : World) : Prop := ∃ pc, IsRr c rk R pc ∧ Own n w W (rowA 3 1 v out.length (ints out) :: (pc ++ F))
theorem RQ.drew (h : RQ n w c rk R F out v W) : RQ n w c rk R F out v W.drew := by obtain ⟨pc, h1, h2⟩ := h; exact ⟨pc, h1, h2.drew⟩
theorem RQ.tail {a : Atom} (h : RQ n w c rk R (a :: F) out v W) : RQ n w c rk R F out v W := by
  obtain ⟨pc, h1, h2⟩ := h
  exact ⟨pc, h1, h2.sub (List.Sublist.cons_cons _ ((List.Sublist.refl _).append (List.sublist_cons_self _ _)))⟩
theorem RQ.need (h : RQ n w c rk R F out v W) (hw : WfR rk) (hs : Sm rk) (A : Option Addr) (cw : Nat) (ids : List Int) (hl : ids.length < 274877906944) (hr : Reads n w F A ids) :
    Calls Try.prog 37 #[.pointer (some ⟨c, 0, none⟩), .slice A ids.length cw] W fun e W' => ∃ xs A' c', e = .returned (.slice A' xs.length c') ∧ needR rk ids xs ∧ RQ n w c rk R (rowA 3 1 (.slice A' xs.length c') xs.length (ints xs) :: F) out v W' := by
  obtain ⟨pc, h1, ho⟩ := h
  have hr' : Reads n w (rowA 3 1 v out.length (ints out) :: F) A ids := fun V hV => hr V hV.tail
  refine (rneed_c h1.is hw hs ho.back A cw ids hl hr').mono ?_
  rintro e W' ⟨v', xs, rfl, hx, ho'⟩
  obtain ⟨A', c', rfl⟩ := own_slice ho'.row
  refine ⟨xs, A', c', rfl, hx, pc, h1, ho'.perm ?_⟩
  exact (List.Perm.cons _ List.perm_middle).trans ((List.Perm.swap _ _ _).trans (List.Perm.cons _ List.perm_middle.symm))
theorem RQ.may (h : RQ n w c rk R F out v W) (hw : WfR rk) (hs : Sm rk) (i : Nat) (hi : i < rk.length) :
    Calls Try.prog 38 #[.pointer (some ⟨c, 0, none⟩), .int .i64 (i : Int)] W fun e W' => e = .returned (.bool (mayR rk i)) ∧ RQ n w c rk R F out v W' := by
  obtain ⟨pc, h1, ho⟩ := h
  refine (rmay_c h1.is hw hs ho.back i hi).mono ?_
  rintro e W' ⟨he, ho'⟩
  exact ⟨he, pc, h1, ho'.front⟩
theorem RQ.wr (h : RQ n w c rk R F out v W) (hw : WfR rk) (hs : Sm rk) (buf : Int) :
    Calls Try.prog 27 #[.pointer (some ⟨c, 0, none⟩), .int .i64 buf] W fun e W' => ∃ v', e = .returned v' ∧ RQ n w c (writtenR rk buf) R F out v W' := by
  obtain ⟨pc, h1, ho⟩ := h
  refine (rwrittenR_c h1 hw hs ho.back buf).mono ?_
  rintro e W' ⟨v', pc', he, h1', ho'⟩
  exact ⟨v', he, pc', h1', ho'.tail.front⟩
theorem RQ.cellAt (h : RQ n w c rk R F out v W) {i : Nat} (hi : i < rk.length) : ∃ gl cl, W.cell? ⟨c, 0, none⟩ = some (.slice (some ⟨gl, 0, none⟩) rk.length cl) ∧ W.cell? ⟨gl, i * 3, none⟩ = some (.int .i64 (rk.getD i zr).buf) := by
  obtain ⟨pc, h1, ho⟩ := h
  obtain ⟨gl, cl, von, x0, x1, -⟩ := h1.is.cellAt (fun a ha => ho.hold a (List.mem_cons_of_mem _ (List.mem_append_left _ ha))) hi
  exact ⟨gl, cl, x0, x1⟩
theorem RQ.idCell {xs : List Int} {ga ci : Nat} (h : RQ n w c rk R (rowA 3 1 (.slice (some ⟨ga, 0, none⟩) xs.length ci) xs.length (ints xs) :: F) out v W) {j : Nat} (hj : j < xs.length) : W.cell? ⟨ga, j, none⟩ = some (.int .i64 xs[j]) := by
  obtain ⟨pc, h1, ho⟩ := h
  have := ho.hold (rowA 3 1 (.slice (some ⟨ga, 0, none⟩) xs.length ci) xs.length (ints xs)) (by simp)
  have h2 := World.ownsRow.cellAt this j (by omega)
  exact h2.trans (ints_at hj)
theorem RQ.idForm {xs : List Int} {A : Option Addr} {ci : Nat} (h : RQ n w c rk R (rowA 3 1 (.slice A xs.length ci) xs.length (ints xs) :: F) out v W) (h0 : 0 < xs.length) : ∃ ga, A = some ⟨ga, 0, none⟩ := by
  obtain ⟨pc, h1, ho⟩ := h
  exact row_form (ho.hold (rowA 3 1 (.slice A xs.length ci) xs.length (ints xs)) (by simp)) h0
theorem RQ.end {vl : Value} {l : List Rg} (h : RQ n w c rk (l.map rgA) (blkA b #[vl] 37 :: rowA 39 3 vl l.length (cellsR l) :: F) out v W) : Own n w W (rowA 3 1 v out.length (ints out) :: (rParts b vl l ++ F)) := by
  obtain ⟨pc, ⟨vl2, l2, rfl, -, hR⟩, ho⟩ := h
  have h1 := ho.sub (bs := rowA 3 1 v out.length (ints out) :: (l2.map rgA ++ (blkA b #[vl] 37 :: rowA 39 3 vl l.length (cellsR l) :: F))) (.cons_cons _ (.cons _ (.cons _ (List.Sublist.refl _))))
  rw [hR] at h1
  refine h1.perm (.cons _ ?_)
  exact List.perm_middle.trans (.cons _ List.perm_middle)
set_option maxHeartbeats 16000000 in
set_option maxRecDepth 100000 in
theorem rplan_c (hg : IsR b r ps) (hw : WfR r) (hs : Sm r) (ho : Own n w W (ps ++ F)) (A : Option Addr) (cw : Nat) (want : List Int) (hl : want.length < 274877906944) (hr : Reads n w F A want) (hin : ∀ x ∈ want, 0 ≤ x ∧ x < (r.length : Int)) :
    Calls Try.prog 21 #[.pointer (some ⟨b, 0, none⟩), .slice A want.length cw] W fun e W' => ∃ out r2 A' c', e = .returned (.tuple #[.slice A' out.length c', .int .i64 0]) ∧ PlanR want r out r2 ∧ Own n w W' (rowA 3 1 (.slice A' out.length c') out.length (ints out) :: (ps ++ F)) := by
  obtain ⟨Al, cl, x0⟩ := hg.slice (fun a ha => ho.hold a (List.mem_append_left _ ha))
  have HW := hide (show Ints W.heap.size W A want from hr W (ho.sub (List.sublist_append_right _ _)))
  have HIN := hide (fun k (hk : k < want.length) => hin _ (List.getElem_mem hk))
  have HO := hide ho
  have HG := hide hg
  have HR := hide hr
  have HWF := hide (And.intro hw hs)
  have HL := hide hl
  clear hr hin ho hg hw hs hl
  go_enter Try.func21, Try.ntmps21
  go_wp2
  go_loopg [6] want.length (fun m i wr => ∃ k : Nat, k ≤ want.length ∧ m = want.length - k ∧ i = .int .i64 k ∧ (∃ q, wr = W.drewN q))
  case atStart => exact ⟨0, by omega, by omega, rfl, ⟨0, rfl⟩⟩
  case round =>
    obtain ⟨k, hk, rfl, rfl, ⟨q, rfl⟩⟩ := hrel
    by_cases hlt : k < want.length
    · obtain ⟨ba, oa, rfl, _, hc⟩ := HW.out (by intro e; rw [e] at hlt; simp at hlt)
      have y0 := hc k hlt
      have hgd : want.getD k 0 = want[k] := by simp [hlt]
      rw [hgd] at y0
      have hx := HIN.out k hlt
      clear hc hgd
      generalize want[k] = x at y0 hx
      obtain ⟨i, rfl⟩ := Int.eq_ofNat_of_zero_le hx.1
      have o1 : (0 : Int) ≤ (k : Int) := by omega
      have o2 : (k : Int) < (want.length : Int) := by omega
      have o3 : ¬ (i : Int) < 0 := by omega
      have o4 : ¬ (r.length : Int) ≤ (i : Int) := by omega
      have o5 : ¬ r.length ≤ i := by omega
      have hll := HL.out
      go_wp2
      go_quiet (fail)
      go_wp2
      go_roundg (want.length - (k + 1))
      case measure => omega
      case rel => exact ⟨k + 1, by omega, by omega, by go_num, ⟨_, by first | rfl | (rw [World.drewN_drewN]; done)⟩⟩
    · obtain rfl : k = want.length := by omega
      have o2 : ¬ (want.length : Int) < (want.length : Int) := by omega
      have HC := hide (rcopy_c HG.out HWF.out.2.len (HO.out.drewN q))
      clear x0 HG HO HW
      go_upto_region 8 with (go_at_call 36; refine HC.out.mono ?_; rintro e W2 ⟨c, vl, l, vl', rfl, hps, h1, h2⟩; have HPS := hide hps; have H2 := hide (show RQ n w c r (l.map rgA) (blkA b #[vl] 37 :: rowA 39 3 vl l.length (cellsR l) :: F) [] (.slice none 0 0) W2 from ⟨_, ⟨vl', l, rfl, h1, rfl⟩, Own.nilRow h2 3 1⟩); clear h1 h2 hps)
      clear HC o2
      have HRF := hide (show Reads n w (blkA b #[vl] 37 :: rowA 39 3 vl l.length (cellsR l) :: F) A want from fun V hV => HR.out V hV.tail.tail)
      have HEND := hide (fun (rk : List Rc) (out : List Int) (v : Value) (V : World) (h : RQ n w c rk (l.map rgA) (blkA b #[vl] 37 :: rowA 39 3 vl l.length (cellsR l) :: F) out v V) => show Own n w V (rowA 3 1 v out.length (ints out) :: (ps ++ F)) from by rw [HPS.out]; exact h.end)
      clear HR HPS
      generalize (blkA b #[vl] 37 :: rowA 39 3 vl l.length (cellsR l) :: F) = F2 at H2 HRF HEND
      generalize l.map rgA = R at H2 HEND
      go_loopg [8] (leftR r) (fun m v8 wr => ∃ (rk : List Rc) (out : List Int) (A8 : Option Addr) (c8 : Nat), m = leftR rk ∧ v8 = .slice A8 out.length c8 ∧ Hid (PartR want r out rk) ∧ Hid (WfR rk ∧ Sm rk) ∧ Hid (RQ n w c rk R F2 out (.slice A8 out.length c8) wr))
      case atStart => exact ⟨r, [], none, 0, rfl, rfl, hide .nil, HWF, H2⟩
      case round =>
        obtain ⟨rk, out, A8, c8, rfl, rfl, HP, HK, H3⟩ := hrel
        clear H2
        have HN := hide (H3.out.need HK.out.1 HK.out.2 A cw want HL.out HRF.out)
        go_upto_region 9 with (go_at_call 37; refine HN.out.mono ?_; rintro e W4 ⟨xs, A4, c4, rfl, hx, h4⟩; have HX := hide hx; have H4 := hide h4; clear hx h4)
        clear HN H3
        have HOL := hide (show out.length < 274877906944 from by have := HP.out.len; have := leftR_le r; have := HWF.out.2.len; omega)
        by_cases hne : xs = []
        · subst hne
          have HE := hide (HP.out.end (fun x hx => by have := (HX.out.2 x).2 hx; cases this))
          have HE2 := hide (HEND.out _ _ _ _ H4.out.tail)
          go_wp2
          go_ret2
          exact ⟨out, rk, A8, c8, rfl, HE.out, HE2.out⟩
        · have hx0 : 0 < xs.length := List.length_pos_iff.2 hne
          have z1 : ((xs.length : Int) == 0) = false := (int_neb (by omega)).1
          have z2 : ¬ xs.length = 0 := by omega
          have HNE := hide hne
          have HXL := hide (show ∀ x ∈ xs, 0 ≤ x ∧ x < (rk.length : Int) from fun x hx => by have := ((HX.out.2 x).1 hx).good; exact ⟨this.1, this.2.1⟩)
          have HNL := hide (show xs.length < 274877906944 from by have := needR_len HX.out; have := HK.out.2.len; omega)
          have hnl := HNL.out
          go_upto_region 14 with (fail)
          clear z1 z2
          obtain ⟨ga, rfl⟩ := H4.out.idForm hx0
          go_loopg [10, 11, 12] xs.length (fun m bv sv iv wr => ∃ (j : Nat) (bz : Int) (sb : Bool), j ≤ xs.length ∧ m = xs.length - j ∧ bv = .int .i64 bz ∧ sv = .bool sb ∧ iv = .int .i64 j ∧ Hid (BestK rk (xs.take j) sb bz) ∧ Hid (RQ n w c rk R (rowA 3 1 (.slice (some ⟨ga, 0, none⟩) xs.length c4) xs.length (ints xs) :: F2) out (.slice A8 out.length c8) wr))
          case atStart => exact ⟨0, 0, false, by omega, by omega, rfl, rfl, rfl, hide (BestK.start _ _), H4⟩
          case round =>
            obtain ⟨j, bz, sb, hj, rfl, rfl, rfl, rfl, HB, H5⟩ := hrel
            clear H4
            by_cases hlt : j < xs.length
            · have y0 := H5.out.idCell hlt
              have HY := hide (fun (V : World) (h : RQ n w c rk R (rowA 3 1 (.slice (some ⟨ga, 0, none⟩) xs.length c4) xs.length (ints xs) :: F2) out (.slice A8 out.length c8) V) => h.idCell hlt)
              have hx := HXL.out _ (List.getElem_mem hlt)
              have HTK := hide (List.take_succ_eq_append_getElem hlt)
              generalize xs[j] = x at y0 HY hx HTK
              obtain ⟨i, rfl⟩ := Int.eq_ofNat_of_zero_le hx.1
              have hir : i < rk.length := by omega
              have HM := hide (H5.out.may HK.out.1 HK.out.2 i hir)
              have HCA := hide (fun (V : World) (h : RQ n w c rk R (rowA 3 1 (.slice (some ⟨ga, 0, none⟩) xs.length c4) xs.length (ints xs) :: F2) out (.slice A8 out.length c8) V) => h.cellAt hir)
              have HB1 := hide (fun (h : mayR rk i = false) => show BestK rk (xs.take (j + 1)) sb bz from by rw [HTK.out]; exact HB.out.no (by rw [Int.toNat_natCast]; exact h))
              have HB2 := hide (fun (h : sb = true) (hb : bz ≤ (rk.getD i zr).buf) => show BestK rk (xs.take (j + 1)) true bz from by rw [HTK.out]; have := HB.out; rw [h] at this; exact this.keep (by rw [Int.toNat_natCast]; exact hb))
              have HB3 := hide (fun (h : mayR rk i = true) (hb : sb = true → (rk.getD i zr).buf ≤ bz) => show BestK rk (xs.take (j + 1)) true (rk.getD i zr).buf from by rw [HTK.out]; have := HB.out.take (x := (i : Int)) (by rw [Int.toNat_natCast]; exact h) (by rw [Int.toNat_natCast]; exact hb); rwa [Int.toNat_natCast] at this)
              have o1 : (0 : Int) ≤ (j : Int) := by omega
              have o2 : (j : Int) < (xs.length : Int) := by omega
              have o3 : (0 : Int) ≤ (i : Int) := by omega
              have o4 : (i : Int) < (rk.length : Int) := by omega
              clear HB H5 HTK hx
              generalize (rk.getD i zr).buf = bb at HCA HB2 HB3
              generalize mayR rk i = mm at HM HB1 HB3
              go_upto_region 17 with (go_at_call 38; refine HM.out.mono ?_; rintro e W6 ⟨rfl, h6⟩; have y1 := HY.out _ h6; obtain ⟨gl, cl2, x0, x1⟩ := HCA.out _ h6; have H6 := hide h6.drew; clear h6)
              clear y0
              go_region
              generalize W6.drew = Wz at H6 ⊢
              clear y1 x0 x1 HM HY HCA
              cases mm with
              | false =>
                have HB4 := hide (HB1.out rfl)
                clear HB1 HB2 HB3
                go_wp2
                go_roundg (xs.length - (j + 1))
                case measure => omega
                case rel => exact ⟨j + 1, bz, sb, by omega, by omega, rfl, rfl, by go_num, HB4, H6⟩
              | true =>
                cases sb with
                | false =>
                  have HB4 := hide (HB3.out rfl (fun h => by cases h))
                  clear HB1 HB2 HB3
                  go_wp2
                  go_roundg (xs.length - (j + 1))
                  case measure => omega
                  case rel => exact ⟨j + 1, bb, true, by omega, by omega, rfl, rfl, by go_num, HB4, H6⟩
                | true =>
                  by_cases hlb : bb < bz
                  · have HB4 := hide (HB3.out rfl (fun _ => by omega))
                    clear HB1 HB2 HB3
                    go_wp2
                    go_roundg (xs.length - (j + 1))
                    case measure => omega
                    case rel => exact ⟨j + 1, bb, true, by omega, by omega, rfl, rfl, by go_num, HB4, H6⟩
                  · have HB4 := hide (HB2.out rfl (by omega))
                    clear HB1 HB2 HB3
                    go_wp2
                    go_roundg (xs.length - (j + 1))
                    case measure => omega
                    case rel => exact ⟨j + 1, bz, true, by omega, by omega, rfl, rfl, by go_num, HB4, H6⟩
            · obtain rfl : j = xs.length := by omega
              have o1 : ¬ (xs.length : Int) < (xs.length : Int) := by omega
              have HBB := hide (show bestR rk want bz from by have := HB.out; rw [List.take_length] at this; exact this.best HX.out HK.out.1 HNE.out)
              have HLW := hide (left_written HBB.out.1.next)
              clear HB
              go_wp2_with (first
                | (go_at_call 27; refine (H7.out.wr HK.out.1 HK.out.2 bz).mono ?_; rintro e W8 ⟨v8, rfl, h8⟩; have H8 := hide h8.tail; clear h8)
                | (at_builtin; go_must (obtain ⟨i0, hi, hz0, hz1, hz2⟩ := info_parts info3x; obtain ⟨pc, hpc, ho⟩ := H5.out; have HO := hide ho; refine wpList_append_own_at _ rfl _ _ 23 rfl n 3 i0 (.int .i64 0) 1 8 Try.underlying23 hi hz0 hz1 hz2 rfl (by decide) _ _ _ rfl (HO.out.row.alloc _) ⟨wr.heap.size, 0, none⟩ 1 1 [.int .i64 bz] rfl rfl (cell_one_new _ _ _) (by simp [Value.oneCell']) (by have := HOL.out; unfold maxLen; omega) (by have := HOL.out; omega) (by have := HO.out.sz; simp; omega) ?_); intro v' w4 hown' hgrow _ hat; obtain ⟨A6, c6, rfl⟩ := own_slice hown'; have H7 := hide (show RQ n w c rk R (rowA 3 1 (.slice (some ⟨ga, 0, none⟩) xs.length c4) xs.length (ints xs) :: F2) (out ++ [bz]) (.slice A6 (out ++ [bz]).length c6) w4 from ⟨pc, hpc, by have h5 := (HO.out.alloc _).growRow hown' hgrow hat; rw [show (out ++ [bz]).length = out.length + 1 from by simp, show ints (out ++ [bz]) = ints out ++ [Value.int .i64 bz] from by simp [ints]]; exact h5⟩); clear hown' hgrow hat))
              go_roundg (leftR (writtenR rk bz))
              case measure => exact HLW.out
              case rel => exact ⟨writtenR rk bz, out ++ [bz], A6, c6, rfl, by simp, hide (.snoc HP.out HBB.out), hide ⟨wf_written HK.out.1 bz, sm_written HK.out.2 bz⟩, H8⟩
end
end Go.Proofs.Ytjfejimghbohdaa
namespace Go.Proofs.Ytjfejimghbohdaa
set_option linter.unusedVariables false
set_option linter.unusedSimpArgs false
open Go.RowKit Go.Maps

def chC (bf : Nat → Int) (i j : Nat) : Rc := ⟨bf j, if j = 0 then [] else [(j : Int) - 1], decide (j < i)⟩
/-- n changes, each hanging on the one ahead, the first i done -/
def chR (bf : Nat → Int) (n i : Nat) : List Rc := (List.range n).map (chC bf i)
theorem chR_len (bf : Nat → Int) (n i : Nat) : (chR bf n i).length = n := by simp [chR]
theorem chR_at {bf : Nat → Int} {n i j : Nat} (h : j < n) : (chR bf n i).getD j zr = chC bf i j := by simp [chR, h]
theorem chR_zero (bf : Nat → Int) : chR bf 0 0 = [] := rfl
theorem chR_snoc (bf : Nat → Int) (n : Nat) : chR bf n 0 ++ [⟨bf n, if n = 0 then [] else [(n : Int) - 1], false⟩] = chR bf (n + 1) 0 := by
  unfold chR
  rw [List.range_succ, List.map_append]
  simp [chC]
theorem chR_tot (bf : Nat → Int) (n i : Nat) : tot (chR bf n i) ≤ n := by
  unfold tot chR
  rw [List.map_map]
  induction n with
  | zero => simp
  | succ n ih =>
    rw [List.range_succ, List.map_append, List.sum_append]
    have : (((fun c : Rc => c.on.length) ∘ chC bf i) n) ≤ 1 := by
      show (chC bf i n).on.length ≤ 1
      unfold chC
      by_cases h : n = 0 <;> simp [h]
    simp only [List.map_cons, List.map_nil, List.sum_cons, List.sum_nil]
    omega
theorem chR_open {bf : Nat → Int} {n i j : Nat} {b : Int} (h : j < n) : openAt (chR bf n i) b j = (decide (i ≤ j) && decide (bf j = b)) := by
  unfold openAt
  rw [chR_at h]
  unfold chC
  simp only
  by_cases h2 : j < i
  · have : ¬ i ≤ j := by omega
    simp [h2, this]
  · have : i ≤ j := by omega
    simp [h2, this]
theorem chR_may {bf : Nat → Int} {n i j : Nat} (h : j < n) : mayAt (chR bf n i) j = decide (j ≤ i) := by
  unfold mayAt cnt
  rw [chR_at h]
  unfold chC
  simp only
  by_cases h0 : j = 0
  · subst h0; simp
  · rw [if_neg h0]
    have : rd (chR bf n i) ((j : Int) - 1) = chC bf i (j - 1) := by
      unfold rd
      have e : ((j : Int) - 1).toNat = j - 1 := by omega
      rw [e]; exact chR_at (by omega)
    rw [List.filter_cons, this]
    unfold chC
    simp only [List.filter_nil]
    by_cases h2 : j - 1 < i
    · have h3 : j ≤ i := by omega
      simp [h2, h3]
    · have h3 : ¬ j ≤ i := by omega
      simp [h2, h3]
theorem filter_at1 {n i : Nat} (h : i < n) : (List.range n).filter (fun j => decide (j = i)) = [i] := by
  induction n with
  | zero => omega
  | succ n ih =>
    rw [List.range_succ, List.filter_append]
    by_cases e : i = n
    · subst e
      have : (List.range i).filter (fun j => decide (j = i)) = [] := List.filter_eq_nil_iff.2 fun j hj => by have := List.mem_range.1 hj; simp; omega
      rw [this]; simp
    · rw [ih (by omega)]
      have : ¬ n = i := fun h => e h.symm
      simp [this]
theorem chR_next (bf : Nat → Int) (n i : Nat) (b : Int) : nextR (chR bf n i) b = if i < n ∧ bf i = b then [(i : Int)] else [] := by
  unfold nextR
  rw [chR_len]
  have e : (List.range n).filter (fun j => openAt (chR bf n i) b j && mayAt (chR bf n i) j) = (List.range n).filter (fun j => decide (j = i) && decide (bf i = b)) := by
    refine List.filter_congr fun j hj => ?_
    have hj := List.mem_range.1 hj
    rw [chR_open hj, chR_may hj]
    by_cases h : j = i
    · subst h; simp
    · by_cases h2 : i ≤ j
      · have : ¬ j ≤ i := by omega
        simp [h, h2, this]
      · simp [h, h2]
  rw [e]
  by_cases hb : bf i = b
  · simp only [hb, decide_true, Bool.and_true, and_true]
    by_cases hi : i < n
    · rw [filter_at1 hi, if_pos hi]; rfl
    · rw [if_neg hi]
      have : (List.range n).filter (fun j => decide (j = i)) = [] := List.filter_eq_nil_iff.2 fun j hj => by have := List.mem_range.1 hj; simp; omega
      rw [this]; rfl
  · rw [if_neg (fun h => hb h.2)]
    simp only [hb, decide_false, Bool.and_false]
    rw [List.filter_eq_nil_iff.2 (fun _ _ => by simp)]; rfl
theorem chR_written {bf : Nat → Int} {n i : Nat} (h : i < n) : writtenR (chR bf n i) (bf i) = chR bf n (i + 1) := by
  unfold writtenR setD
  rw [chR_next, if_pos ⟨h, rfl⟩, chR_len]
  unfold chR
  refine List.map_congr_left fun j hj => ?_
  have hj := List.mem_range.1 hj
  have : ((List.range n).map (chC bf i)).getD j zr = chC bf i j := chR_at hj
  rw [this]
  unfold chC
  simp only [Rc.mk.injEq, true_and]
  by_cases h1 : j < i
  · have : j < i + 1 := by omega
    simp [h1, this]
  · by_cases h2 : j = i
    · subst h2; simp
    · have h3 : ¬ j < i + 1 := by omega
      have h4 : ¬ (j : Int) = (i : Int) := by omega
      simp [h1, h3, h4]
theorem filter_ge (n i : Nat) : ((List.range n).filter (fun j => decide (i ≤ j))).length = n - i := by
  induction n with
  | zero => simp
  | succ n ih =>
    rw [List.range_succ, List.filter_append, List.length_append, ih]
    by_cases h : i ≤ n
    · simp [h]; omega
    · simp [h]; omega
theorem chR_opn (bf : Nat → Int) (n i : Nat) : (Of (chR bf n i)).opn = ((n - i : Nat) : Int) := by
  show (((List.range (chR bf n i).length).filter (fun j => !((chR bf n i).getD j zr).done)).length : Int) = _
  rw [chR_len]
  have e : (List.range n).filter (fun j => !((chR bf n i).getD j zr).done) = (List.range n).filter (fun j => decide (i ≤ j)) := by
    refine List.filter_congr fun j hj => ?_
    rw [chR_at (List.mem_range.1 hj)]
    unfold chC
    by_cases h : j < i
    · have : ¬ i ≤ j := by omega
      simp [h, this]
    · have : i ≤ j := by omega
      simp [h, this]
  rw [e, filter_ge]
theorem chR_blocked5 (n i : Nat) : (blockedR (chR (fun _ => 5) n i) 5).length = n - (i + 1) := by
  unfold blockedR castL
  rw [List.length_map, chR_len]
  rw [← filter_ge n (i + 1)]
  congr 1
  refine List.filter_congr fun j hj => ?_
  have hj := List.mem_range.1 hj
  rw [chR_open hj, chR_may hj]
  by_cases h : i + 1 ≤ j
  · have h1 : i ≤ j := by omega
    have h2 : ¬ j ≤ i := by omega
    simp [h, h1, h2]
  · by_cases h1 : i ≤ j
    · have h2 : j ≤ i := by omega
      simp [h, h1, h2]
    · simp [h, h1]
theorem chR_ready {bf : Nat → Int} {n i : Nat} (h : i < n) {xs : List Int} (hx : readyR (chR bf n i) xs) : xs = [bf i] :=
  ready_one (bf i) hx (fun x => by
    rw [chR_next]
    by_cases e : bf i = x
    · rw [if_pos ⟨h, e⟩]; simp [e]
    · rw [if_neg (fun h => e h.2)]
      simp
      exact fun h => e h.symm)
end Go.Proofs.Ytjfejimghbohdaa
namespace Go.Proofs.Ytjfejimghbohdaa
set_option linter.unusedVariables false
set_option linter.unusedSimpArgs false
open Go.RowKit Go.Maps

def lsR (l : List Int) : List Rc := l.map (fun b => ⟨b, [], false⟩)
theorem lsR_len (l : List Int) : (lsR l).length = l.length := by simp [lsR]
theorem lsR_snoc (l : List Int) (b : Int) : lsR (l ++ [b]) = lsR l ++ [⟨b, [], false⟩] := by simp [lsR]
theorem lsR_tot (l : List Int) : tot (lsR l) = 0 := by
  unfold tot lsR
  rw [List.map_map]
  induction l with
  | nil => rfl
  | cons a l ih => simp only [List.map_cons, List.sum_cons, ih]; rfl
structure FlatR (r : List Rc) (bs : List Int) : Prop where
  on : ∀ i, i < r.length → (r.getD i zr).on = []
  up : Rising bs
  open_ : ∀ b, b ∈ bs ↔ ∃ i, i < r.length ∧ (r.getD i zr).done = false ∧ (r.getD i zr).buf = b
theorem rd_nat (r : List Rc) (i : Nat) : rd r (i : Int) = r.getD i zr := by unfold rd; rw [Int.toNat_natCast]
theorem FlatR.may {r : List Rc} {bs : List Int} (h : FlatR r bs) {i : Nat} (hi : i < r.length) : mayR r i = !(r.getD i zr).done :=
  mayR_yes (fun j hj => by rw [h.on i hi] at hj; cases hj)
theorem FlatR.cand {r : List Rc} {bs : List Int} (h : FlatR r bs) (b : Int) : candR r (allI r.length) b ↔ b ∈ bs := by
  rw [h.open_]
  constructor
  · rintro ⟨i, hr, hm, hb⟩
    have hg := hr.good
    exact ⟨i, by have := hg.2.1; omega, by rw [← rd_nat]; exact hg.2.2, hb⟩
  · rintro ⟨i, hi, hd, hb⟩
    refine ⟨i, .id (allI_mem.2 (by omega)) ⟨by omega, by omega, by rw [rd_nat]; exact hd⟩, ?_, hb⟩
    rw [h.may hi, hd]; rfl
theorem FlatR.write {r : List Rc} {bs : List Int} {b : Int} (h : FlatR r (b :: bs)) : FlatR (writtenR r b) bs := by
  have hm : ∀ i, i < r.length → ((i : Int) ∈ nextR r b ↔ (r.getD i zr).done = false ∧ (r.getD i zr).buf = b) := fun i hi => by
    have h1 := h.may hi
    unfold mayR at h1
    rw [mem_nextR, openAt_eq]
    constructor
    · rintro ⟨-, h2, h3⟩
      simpa using h2
    · rintro ⟨h2, h3⟩
      rw [h2] at h1
      exact ⟨hi, by rw [h2, h3]; simp, by simpa using h1⟩
  have hu := List.pairwise_cons.1 h.up
  refine ⟨fun i hi => ?_, hu.2, fun c => ?_⟩
  · unfold writtenR at hi ⊢
    rw [setD_len] at hi
    rw [setD_at hi]; exact h.on i hi
  · have hc := h.open_ c
    constructor
    · intro hcb
      obtain ⟨i, hi, hd, hb⟩ := hc.1 (List.mem_cons_of_mem _ hcb)
      have hne : c ≠ b := by have := hu.1 c hcb; omega
      refine ⟨i, by unfold writtenR; rw [setD_len]; exact hi, ?_, ?_⟩
      · unfold writtenR
        rw [setD_at hi]
        show ((r.getD i zr).done || decide _) = false
        rw [hd, decide_eq_false (fun hx => by have := ((hm i hi).1 hx).2; exact hne (hb.symm.trans this))]; rfl
      · unfold writtenR
        rw [setD_at hi]; exact hb
    · rintro ⟨i, hi, hd, hb⟩
      unfold writtenR at hi hd hb
      rw [setD_len] at hi
      rw [setD_at hi] at hd hb
      obtain ⟨hd1, hd2⟩ := Bool.or_eq_false_iff.1 (show ((r.getD i zr).done || decide _) = false from hd)
      have hd2 := of_decide_eq_false hd2
      have hb : (r.getD i zr).buf = c := hb
      rcases List.mem_cons.1 (hc.2 ⟨i, hi, hd1, hb⟩) with e | e
      · exact absurd ((hm i hi).2 ⟨hd1, hb.trans e⟩) hd2
      · exact e
theorem FlatR.plan {bs : List Int} : ∀ {r : List Rc}, FlatR r bs → ∃ r2, PlanR (allI r.length) r bs r2 := by
  induction bs with
  | nil =>
    intro r h
    refine ⟨r, .done fun x hx => ?_⟩
    obtain ⟨i, rfl⟩ := Int.eq_ofNat_of_zero_le hx.good.1
    have hg := hx.good
    have := (h.open_ (r.getD i zr).buf).2 ⟨i, by have := hg.2.1; omega, by rw [← rd_nat]; exact hg.2.2, rfl⟩
    cases this
  | cons b bs ih =>
    intro r h
    obtain ⟨r2, h2⟩ := ih h.write
    have e : (writtenR r b).length = r.length := setD_len _ _
    rw [e] at h2
    refine ⟨r2, .step ⟨(h.cand b).2 List.mem_cons_self, fun b' hb' => ?_⟩ h2⟩
    rcases List.mem_cons.1 ((h.cand b').1 hb') with rfl | hx
    · omega
    · have := (List.pairwise_cons.1 h.up).1 b' hx
      omega
theorem putAll_mem (l : List Int) (b : Int) : ∀ a : List Int, b ∈ l.foldl putL a ↔ b ∈ a ∨ b ∈ l := by
  induction l with
  | nil => intro a; simp
  | cons x l ih =>
    intro a
    rw [List.foldl_cons, ih, putL_mem, List.mem_cons]
    constructor
    · rintro ((h | h) | h)
      · exact .inl h
      · exact .inr (.inl h)
      · exact .inr (.inr h)
    · rintro (h | h | h)
      · exact .inl (.inl h)
      · exact .inl (.inr h)
      · exact .inr h
theorem putAll_rising (l : List Int) : ∀ a : List Int, Rising a → Rising (l.foldl putL a) := by
  induction l with
  | nil => intro a h; exact h
  | cons x l ih => intro a h; exact ih _ (putL_rising h x)
theorem putAll_len (l : List Int) : ∀ a : List Int, (l.foldl putL a).length ≤ a.length + l.length := by
  induction l with
  | nil => intro a; simp
  | cons x l ih => intro a; have := ih (putL a x); have := putL_len_le a x; rw [List.foldl_cons, List.length_cons]; omega
theorem putAll_snoc (l : List Int) (b : Int) : (l ++ [b]).foldl putL [] = putL (l.foldl putL []) b := by rw [List.foldl_append]; rfl
theorem ls_flat (l : List Int) : FlatR (lsR l) (l.foldl putL []) := by
  have hg : ∀ i, i < l.length → (lsR l).getD i zr = ⟨l.getD i 0, [], false⟩ := fun i hi => by simp [lsR, hi]
  refine ⟨fun i hi => ?_, putAll_rising l [] List.Pairwise.nil, fun b => ?_⟩
  · rw [lsR_len] at hi; rw [hg i hi]
  · rw [putAll_mem, lsR_len]
    constructor
    · rintro (h | h)
      · cases h
      · obtain ⟨i, hi, rfl⟩ := List.getElem_of_mem h
        exact ⟨i, hi, by rw [hg i hi], by rw [hg i hi]; simp [hi]⟩
    · rintro ⟨i, hi, -, hb⟩
      rw [hg i hi] at hb
      have hb : l.getD i 0 = b := hb
      refine .inr ?_
      rw [← hb, List.getD_eq_getElem?_getD, List.getElem?_eq_getElem hi]
      exact List.getElem_mem hi
theorem ls_plan {l : List Int} {out : List Int} {r2 : List Rc} (h : PlanR (allI (lsR l).length) (lsR l) out r2) : out = l.foldl putL [] := by
  obtain ⟨r3, h3⟩ := (ls_flat l).plan
  exact (h.uniq h3).1

/-- what is needed for some changes of a chain that begins at i: those up to the greatest of them -/
theorem chR_rd {bf : Nat → Int} {n i : Nat} {x : Int} (h : 0 ≤ x ∧ x < (n : Int)) : rd (chR bf n i) x = chC bf i x.toNat := by
  unfold rd; exact chR_at (by omega)
theorem chR_good {bf : Nat → Int} {n i : Nat} {x : Int} : good (chR bf n i) x ↔ (i : Int) ≤ x ∧ x < (n : Int) := by
  unfold good
  rw [chR_len]
  constructor
  · rintro ⟨h1, h2, h3⟩
    rw [chR_rd ⟨h1, h2⟩] at h3
    have h4 : ¬ x.toNat < i := by simpa [chC] using h3
    omega
  · rintro ⟨h1, h2⟩
    have h0 : 0 ≤ x := by omega
    refine ⟨h0, h2, ?_⟩
    rw [chR_rd ⟨h0, h2⟩]
    have h4 : ¬ x.toNat < i := by omega
    simp [chC, h4]
theorem chR_reachTo {bf : Nat → Int} {n i t : Nat} {ids : List Int} (ht : t < n) (hm : (t : Int) ∈ ids) (hle : ∀ x ∈ ids, x ≤ (t : Int)) (x : Int) : Reach (chR bf n i) ids x ↔ (i : Int) ≤ x ∧ x ≤ (t : Int) := by
  constructor
  · intro h
    refine ⟨(chR_good.1 h.good).1, ?_⟩
    induction h with
    | id hx hg => exact hle _ hx
    | on hy hx hg ih =>
      have hyg := chR_good.1 hy.good
      rw [chR_rd ⟨by omega, hyg.2⟩] at hx
      unfold chC at hx
      simp only at hx
      split at hx
      · cases hx
      · rw [List.mem_singleton.1 hx]; omega
  · intro h
    have key : ∀ d : Nat, (i : Int) ≤ (t : Int) - d → Reach (chR bf n i) ids ((t : Int) - d) := by
      intro d
      induction d with
      | zero => intro h; exact .id (by simpa using hm) (chR_good.2 (by omega))
      | succ d ih =>
        intro h
        refine .on (ih (by omega)) ?_ (chR_good.2 (by omega))
        rw [chR_rd (by omega)]
        unfold chC
        have h0 : ¬ ((t : Int) - d).toNat = 0 := by omega
        simp only [h0, if_false, List.mem_singleton]
        omega
    have := key ((t : Int) - x).toNat (by omega)
    have e : (t : Int) - ((((t : Int) - x).toNat : Nat) : Int) = x := by omega
    rwa [e] at this
theorem chR_mayR {bf : Nat → Int} {n i j : Nat} (h : j < n) : mayR (chR bf n i) j = decide (j = i) := by
  unfold mayR
  rw [chR_may h, chR_at h]
  unfold chC
  simp only
  by_cases h1 : j = i
  · subst h1; simp
  · by_cases h2 : j ≤ i
    · have : j < i := by omega
      simp [h1, h2, this]
    · simp [h1, h2]
theorem chR_plan {bf : Nat → Int} {n t : Nat} {ids : List Int} (ht : t < n) (hm : (t : Int) ∈ ids) (hle : ∀ x ∈ ids, x ≤ (t : Int)) : ∀ d i : Nat, i + d = t + 1 → PlanR ids (chR bf n i) ((List.range' i d).map bf) (chR bf n (t + 1)) := by
  intro d
  induction d with
  | zero =>
    intro i hi
    obtain rfl : i = t + 1 := by omega
    refine .done fun x hx => ?_
    have := (chR_reachTo ht hm hle x).1 hx
    omega
  | succ d ih =>
    intro i hi
    have hin : i < n := by omega
    have hb : ∀ b, candR (chR bf n i) ids b → b = bf i := by
      rintro b ⟨j, hr, hmj, hb⟩
      have hj := ((chR_reachTo ht hm hle _).1 hr)
      have hjn : j < n := by omega
      rw [chR_mayR hjn] at hmj
      have e := of_decide_eq_true hmj
      rw [chR_at hjn] at hb
      rw [← hb, e]; rfl
    refine .step (b := bf i) ⟨⟨i, (chR_reachTo ht hm hle _).2 (by omega), by rw [chR_mayR hin]; simp, by rw [chR_at hin]; rfl⟩, fun b' hb' => by rw [hb b' hb']; omega⟩ ?_
    rw [chR_written hin]
    exact ih (i + 1) (by omega)
theorem chR_plan1 {bf : Nat → Int} {n t : Nat} (ht : t < n) {out : List Int} {r2 : List Rc} (h : PlanR [(t : Int)] (chR bf n 0) out r2) : out = (List.range (t + 1)).map bf := by
  have := (h.uniq (chR_plan ht (List.mem_singleton.2 rfl) (fun x hx => by rw [List.mem_singleton.1 hx]; omega) (t + 1) 0 (by omega))).1
  rw [this, List.range_eq_range']
theorem chR_planAll {bf : Nat → Int} {n : Nat} (hn : 0 < n) {out : List Int} {r2 : List Rc} (h : PlanR (allI (chR bf n 0).length) (chR bf n 0) out r2) : out = (List.range n).map bf := by
  rw [chR_len] at h
  have := (h.uniq (chR_plan (t := n - 1) (by omega) (allI_mem.2 (by omega)) (fun x hx => by have := allI_mem.1 hx; omega) n 0 (by omega))).1
  rw [this, List.range_eq_range']
end Go.Proofs.Ytjfejimghbohdaa
namespace Go.Proofs.Ytjfejimghbohdaa
set_option linter.unusedVariables false
set_option linter.unusedSimpArgs false
open Go.RowKit Go.Maps

def bufN (r : List Rc) (b : Int) (k : Nat) : Nat := (List.range k).countP (fun i => decide ((r.getD i zr).buf = b))
def openN (r : List Rc) (b : Int) : Nat := (List.range r.length).countP (openAt r b)
def eqN (l : List Int) (b : Int) : Nat := l.countP (fun y => decide (y = b))
theorem countP_lt {α : Type} {p q : α → Bool} : ∀ {l : List α}, (∀ x ∈ l, p x = true → q x = true) → (∃ x ∈ l, q x = true ∧ p x = false) → l.countP p < l.countP q
  | [], _, h => by obtain ⟨x, hx, _⟩ := h; cases hx
  | a :: l, h1, h2 => by
    have hm : l.countP p ≤ l.countP q := List.countP_mono_left fun x hx => h1 x (List.mem_cons_of_mem _ hx)
    rw [List.countP_cons, List.countP_cons]
    obtain ⟨x, hx, hq, hp⟩ := h2
    rcases List.mem_cons.1 hx with rfl | hx
    · rw [hq, hp]; simp; omega
    · have := countP_lt (l := l) (fun x hx => h1 x (List.mem_cons_of_mem _ hx)) ⟨x, hx, hq, hp⟩
      cases hpa : p a with
      | true => rw [h1 a List.mem_cons_self hpa]; simp; omega
      | false => cases q a <;> simp <;> omega
theorem bufN_succ (r : List Rc) (b : Int) (k : Nat) : bufN r b (k + 1) = bufN r b k + if (r.getD k zr).buf = b then 1 else 0 := by
  unfold bufN
  rw [List.range_succ, List.countP_append, List.countP_singleton]
  by_cases h : (r.getD k zr).buf = b <;> simp [h]
theorem bufN_le (r : List Rc) (b : Int) (k : Nat) : bufN r b k ≤ k := by
  have := List.countP_le_length (p := fun i => decide ((r.getD i zr).buf = b)) (l := List.range k)
  rw [List.length_range] at this; exact this
theorem eqN_take (l : List Int) (b : Int) {k : Nat} (h : k < l.length) : eqN (l.take (k + 1)) b = eqN (l.take k) b + if l[k] = b then 1 else 0 := by
  unfold eqN
  rw [List.take_succ_eq_append_getElem h, List.countP_append, List.countP_singleton]
  by_cases h : l[k] = b <;> simp [h]
theorem eqN_le (l : List Int) (b : Int) : eqN l b ≤ l.length := List.countP_le_length
theorem openN_le (r : List Rc) (b : Int) : openN r b ≤ bufN r b r.length :=
  List.countP_mono_left fun i _ h => (Bool.and_eq_true_iff.1 (show (!(r.getD i zr).done && decide ((r.getD i zr).buf = b)) = true from h)).2
theorem open_written {r : List Rc} {b c : Int} {i : Nat} (hi : i < r.length) : openAt (writtenR r c) b i = (openAt r b i && !decide ((i : Int) ∈ nextR r c)) := by
  rw [openAt_eq, openAt_eq]
  unfold writtenR
  rw [setD_at hi]
  show (!((r.getD i zr).done || decide _) && decide ((r.getD i zr).buf = b)) = _
  cases (r.getD i zr).done <;> cases decide ((i : Int) ∈ nextR r c) <;> simp
theorem openN_written {r : List Rc} {b c : Int} (hc : nextR r c ≠ []) : openN (writtenR r c) b + (if c = b then 1 else 0) ≤ openN r b := by
  unfold openN
  have hl : (writtenR r c).length = r.length := setD_len _ _
  rw [hl]
  have hm : ∀ x ∈ List.range r.length, openAt (writtenR r c) b x = true → openAt r b x = true := fun x hx h => by
    rw [open_written (List.mem_range.1 hx)] at h
    exact (Bool.and_eq_true_iff.1 h).1
  by_cases e : c = b
  · subst e
    rw [if_pos rfl]
    obtain ⟨x, hx⟩ := List.exists_mem_of_ne_nil _ hc
    obtain ⟨i, rfl⟩ := Int.eq_ofNat_of_zero_le (nextR_range hx).1
    obtain ⟨h1, h2, h3⟩ := mem_nextR.1 hx
    refine countP_lt hm ⟨i, List.mem_range.2 h1, h2, ?_⟩
    rw [open_written h1]
    simp [show (Int.ofNat i) ∈ nextR r c from hx]
    intro _
    exact hx
  · rw [if_neg e]
    exact List.countP_mono_left hm
section
variable {ids : List Int} {r r2 : List Rc} {out : List Int}
theorem PlanR.open_ (h : PlanR ids r out r2) (b : Int) : eqN out b ≤ openN r b := by
  induction h with
  | done => simp [eqN]
  | step hb _ ih =>
    rename_i r r2 c out hp
    have := openN_written (b := b) hb.1.next
    unfold eqN at ih ⊢
    rw [List.countP_cons]
    by_cases e : c = b
    · rw [if_pos e] at this; simp [e]; omega
    · rw [if_neg e] at this; simp [e]; omega
theorem PlanR.count (h : PlanR ids r out r2) (b : Int) : eqN out b ≤ bufN r b r.length := Nat.le_trans (h.open_ b) (openN_le r b)
theorem PlanR.len (h : PlanR ids r out r2) : r2.length = r.length ∧ out.length + leftR r2 ≤ leftR r := by
  induction h with
  | done => simp
  | step hb _ ih =>
    have := left_written hb.1.next
    rw [List.length_cons]
    refine ⟨ih.1.trans (setD_len _ _), by omega⟩
theorem PlanR.end_ (h : PlanR ids r out r2) (x : Int) : ¬ Reach r2 ids x := by
  induction h with
  | done h => exact h x
  | step hb _ ih => exact ih
theorem PlanR.doneR (h : PlanR ids r out r2) {x : Int} (hx : x ∈ ids) (hr : 0 ≤ x ∧ x < (r.length : Int)) : doneR r2 x = true := by
  have hl := h.len.1
  unfold Go.Proofs.Ytjfejimghbohdaa.doneR
  rw [hl, decide_eq_true hr.1, decide_eq_true hr.2]
  cases hd : (rd r2 x).done with
  | true => rfl
  | false => exact absurd (Reach.id hx ⟨hr.1, by rw [hl]; exact hr.2, hd⟩) (h.end_ x)
theorem PlanR.need (h : PlanR ids r out r2) {xs : List Int} (hx : needR r2 ids xs) : xs = [] :=
  List.eq_nil_iff_forall_not_mem.2 fun x hm => h.end_ x ((hx.2 x).1 hm)
theorem PlanR.cut {k : Nat} (hk : k < out.length) (h : PlanR ids r (out.drop k) r2) : bestR r ids out[k] ∧ PlanR ids (writtenR r out[k]) (out.drop (k + 1)) r2 := by
  rw [List.drop_eq_getElem_cons hk] at h
  cases h with
  | step hb h => exact ⟨hb, h⟩
end
end Go.Proofs.Ytjfejimghbohdaa
namespace Go.Proofs.Ytjfejimghbohdaa
set_option linter.unusedVariables false
set_option linter.unusedSimpArgs false
open Go.RowKit Go.Maps

section
variable {n : Nat} {w W : World} {F X : List Atom} {g : Nat} {r : List Rc}
theorem OneP.put {l : List Int} {v : Value} (h : OneP n w g r (rowA 3 1 v l.length (ints l) :: X) W) (hl : l.length < 274877906944) (x : Int) :
    Calls Try.prog 17 #[v, .int .i64 x] W fun e W' => ∃ A c, e = .returned (.slice A (putL l x).length c) ∧ OneP n w g r (rowA 3 1 (.slice A (putL l x).length c) (putL l x).length (ints (putL l x)) :: X) W' := by
  obtain ⟨pg, hg, ho⟩ := h
  refine (put_c ho.front hl x).mono ?_
  rintro e W' ⟨v', rfl, h'⟩
  obtain ⟨A, c, rfl⟩ := own_slice h'.row
  exact ⟨A, c, rfl, pg, hg, h'.back⟩
theorem OneP.own0 (h : OneP n w g r X W) : Own n w W [] := by obtain ⟨pg, hg, ho⟩ := h; exact ho.sub (List.nil_sublist _)
theorem OneP.nilRow (h : OneP n w g r X W) : OneP n w g r (rowA 3 1 (.slice none 0 0) 0 (ints []) :: X) W := by
  obtain ⟨pg, hg, ho⟩ := h
  exact ⟨pg, hg, (Own.nilRow ho 3 1).back⟩
end
set_option maxHeartbeats 8000000 in
set_option maxRecDepth 100000 in
theorem SyncerLeast_walk (w : World) (A0 : Option Addr) (len0 cap0 : Nat) (zs : List Int) (g1 : zs.length = len0) (g2 : len0 ≤ maxLen) (g3 : ∀ n ∈ zs, (Lit.int .i64 n).wf = true) (g4 : zs ≠ [] → ∃ x, A0 = some x ∧ x.block < w.heap.size ∧ ∀ j, j < zs.length → w.cell? (x.add j) = some (.int .i64 (zs.getD j 0))) :
    Calls Try.prog 4 #[.slice A0 len0 cap0] w fun e w' => e = .returned (.bool true) ∧ Below w.heap.size w w' := by
  subst g1
  have HZ := hide (Reads.old (F := []) (n := w.heap.size) (w := w) (Ints.of_open (B := w.heap.size) g4))
  have HA := hide (alive7_c w)
  have HI := hide (fun j (hj : j < zs.length) => i64_of_wf (g3 zs[j] (List.getElem_mem hj)))
  clear g2 g3 g4
  go_enter Try.func4, Try.ntmps4
  by_cases hp : zs.length ≤ 80
  · have o1 : ¬ (80 : Int) < (zs.length : Int) := by omega
    have HP := hide hp
    go_upto_region 7 with (first
      | (go_at_call 7; refine HA.out.mono ?_; rintro e W1 ⟨rfl, hb1⟩; have H1 := hide ((Own.start w).above hb1); clear hb1)
      | (go_at_call 15; refine (OneP.new H1.out).mono ?_; rintro e W2 ⟨g, rfl, h2⟩; have H2 := hide h2.nilRow; clear h2))
    clear HA H1 o1 hp
    go_loopg [6, 5] zs.length (fun m i v wr => ∃ (k : Nat) (l : List Int) (A2 : Option Addr) (c2 : Nat), k ≤ zs.length ∧ m = zs.length - k ∧ i = .int .i64 k ∧ v = .slice A2 l.length c2 ∧ Hid (l = (zs.take k).foldl putL []) ∧ Hid (OneP w.heap.size w g (lsR (zs.take k)) [rowA 3 1 (.slice A2 l.length c2) l.length (ints l)] wr))
    case atStart => exact ⟨0, [], none, 0, by omega, by omega, rfl, rfl, hide rfl, H2⟩
    case round =>
      obtain ⟨k, l, A2, c2, hk, rfl, rfl, rfl, HL, H3⟩ := hrel
      clear H2
      have HLL := hide (show l.length ≤ 80 from by have := putAll_len (zs.take k) []; rw [← HL.out, List.length_take, List.length_nil] at this; have := HP.out; omega)
      by_cases hlt : k < zs.length
      · obtain ⟨ba, oa, rfl, _, hc⟩ := HZ.out wr H3.out.own0 (by intro e; rw [e] at hlt; simp at hlt)
        have y0 := hc k hlt
        have HG := hide (show zs.getD k 0 = zs[k] from by simp [hlt])
        rw [HG.out] at y0
        clear hc
        have HT := hide (show zs.take (k + 1) = zs.take k ++ [zs[k]] from List.take_succ_eq_append_getElem hlt)
        have HIK := hide (HI.out k hlt)
        have HZ2 := hide (fun W' (h : Own w.heap.size w W' []) => show W'.cell? ⟨ba, oa + k, none⟩ = some (.int .i64 zs[k]) from by
          obtain ⟨ba', oa', e, -, hc2⟩ := HZ.out W' h (by intro e; rw [e] at hlt; simp at hlt)
          cases e
          have := hc2 k hlt
          rwa [HG.out] at this)
        clear HG
        generalize zs[k] = x at y0 HT HIK HZ2
        have o1 : (k : Int) < (zs.length : Int) := by omega
        have o2 : (0 : Int) ≤ (k : Int) := by omega
        have HC := hide (H3.out.add0 x HIK.out (by rw [lsR_len, List.length_take]; have := HP.out; omega) (by rw [lsR_tot]; omega))
        go_wp2_with (first
          | (go_at_call 16; refine HC.out.mono ?_; rintro e W4 ⟨rfl, h4⟩; have H4 := hide h4; have y1 := HZ2.out W4 h4.own0; clear h4)
          | (go_at_call 17; refine (OneP.put H4.out (by have := HLL.out; omega) x).mono ?_; rintro e W5 ⟨A5, c5, rfl, h5⟩; have H5 := hide h5; clear h5))
        go_roundg (zs.length - (k + 1))
        case measure => omega
        case rel => exact ⟨k + 1, putL l x, A5, c5, by omega, by omega, by go_num, rfl, hide (by rw [HT.out, putAll_snoc, ← HL.out]), hide (by rw [HT.out, lsR_snoc]; exact H5.out)⟩
      · obtain rfl : k = zs.length := by omega
        have o1 : ¬ (zs.length : Int) < (zs.length : Int) := by omega
        have HT := hide (show zs.take zs.length = zs from List.take_length)
        rw [HT.out] at HL H3
        have HC := hide (all_c H3.out (by rw [lsR_len]; have := HP.out; omega))
        have HS := hide (fun (W5 : World) (out : List Int) (r2 : List Rc) (A5 : Option Addr) (c5 : Nat) (hpl : PlanR (allI (lsR zs).length) (lsR zs) out r2) (h : OneP w.heap.size w g (lsR zs) (rowA 3 1 (.slice A5 out.length c5) out.length (ints out) :: [rowA 3 1 (.slice A2 l.length c2) l.length (ints l)]) W5) => show Calls Try.prog 18 #[.slice A5 out.length c5, .slice A2 l.length c2] W5 fun e W' => e = .returned (.bool true) ∧ Below w.heap.size w W' from by
          have e := (ls_plan hpl).trans HL.out.symm
          subst e
          refine (h.same (A := A5) (B := A2) (c := c5) (d := c2) (l := out) (m := out) (by simp) (by simp) (by have := HLL.out; omega) (by have := HLL.out; omega)).mono ?_
          rintro e W' ⟨rfl, h'⟩
          rw [sameI_self]
          exact ⟨rfl, h'.below'⟩)
        go_wp2_with (first
          | (go_at_call 19; refine HC.out.mono ?_; rintro e W5 ⟨out, r2, A5, c5, rfl, hpl, h5⟩; have H5 := hide (HS.out _ _ _ _ _ hpl h5); clear hpl h5)
          | (go_at_call 18; refine H5.out.mono ?_; rintro e W6 ⟨rfl, h6⟩; have H6 := hide h6; clear h6))
        go_ret
        exact ⟨rfl, H6.out⟩
  · have o1 : (80 : Int) < (zs.length : Int) := by omega
    go_wp2_with (go_at_call 7; refine HA.out.mono ?_; rintro e W1 ⟨rfl, hb1⟩; have H1 := hide hb1; clear hb1)
    go_ret
    exact ⟨rfl, H1.out⟩
end Go.Proofs.Ytjfejimghbohdaa
