/-
  The iterator of syncer.plan: it brings the buffers one by one and writes them. Conditions: the rows are few.
  syncer.Plan: its contract. Conditions: the rows are few.
  syncer.Plan of what is not there, syncer.All, and the example of the document. Conditions: the rows are few.
  The example of the document of chapter 22. No condition.
-/
import Derived.Test.YtjfejimghbohdaaMB10
import Derived.Sort.LoopGhostIn
import Derived.Sort.CutIn
namespace Go.Proofs.Ytjfejimghbohdaa
set_option linter.unusedVariables false
set_option linter.unusedSimpArgs false
open Go.RowKit Go.Maps

section
variable {n : Nat} {w W : World} {X Y : List Atom} {a a' : Atom} {g : Nat} {r : List Rc}
theorem OneP.turn1 (h : OneP n w g r (a :: X) W) (hb : a'.b = a.b) (hq : a'.Q W) : OneP n w g r (a' :: X) W := by
  obtain ⟨pg, hg, ho⟩ := h
  exact ⟨pg, hg, (ho.front.turn hb hq).back⟩
theorem OneP.swap (h : OneP n w g r (a :: a' :: X) W) : OneP n w g r (a' :: a :: X) W := by
  obtain ⟨pg, hg, ho⟩ := h
  exact ⟨pg, hg, ho.perm (List.Perm.append_left _ (.swap _ _ _))⟩
theorem OneP.hold (h : OneP n w g r X W) {x : Atom} (hx : x ∈ X) : x.Q W := by
  obtain ⟨pg, hg, ho⟩ := h
  exact ho.hold x (List.mem_append_right _ hx)
theorem OneP.putObj {l : Nat} (h : OneP n w g r (resA l :: X) W) (o' : Obj) : OneP n w g r (resA l :: X) (W.putObj l o') := by
  obtain ⟨pg, hg, ho⟩ := h
  exact ⟨pg, hg, (ho.front.putObj o').back⟩
theorem OneP.drewN (h : OneP n w g r X W) (q : Nat) : OneP n w g r X (W.drewN q) := by
  obtain ⟨pg, hg, ho⟩ := h
  exact ⟨pg, hg, ho.drewN q⟩
end
abbrev Pg := List Int × Int × List Rc
section
variable {n L b1 b2 bo c cw : Nat} {w W : World} {F : List Atom} {A : Option Addr} {want out : List Int} {r r0 : List Rc} {rec : LoopState → Option Code → Loop}
/-- what lies beside the copy between two rounds -/
def yP (b1 b2 bo c cw : Nat) (A : Option Addr) (want : List Int) (F : List Atom) (v : Value) (out : List Int) : List Atom :=
  blkA bo #[v] 23 :: rowA 3 1 v out.length (ints out) :: blkA b1 #[.pointer (some ⟨c, 0, none⟩)] 26 :: blkA b2 #[.slice A want.length cw] 23 :: F
def InQ (n : Nat) (w : World) (L b1 b2 bo c cw : Nat) (A : Option Addr) (want : List Int) (F : List Atom) (out : List Int) (r : List Rc) (W : World) : Prop :=
  ∃ v, OneP n w c r (resA (L + 1) :: resA L :: yP b1 b2 bo c cw A want F v out) W
def InO (n : Nat) (w : World) (L b1 b2 bo c cw : Nat) (A : Option Addr) (want : List Int) (F : List Atom) (rec : LoopState → Option Code → Loop) (out : List Int) (r : List Rc) (W : World) : Prop :=
  ∃ v, OneP n w c r (objA (L + 1) (.loop (rec .ready none)) :: objA L (.deferred (some [])) :: yP b1 b2 bo c cw A want F v out) W
theorem InQ.obj (h : InQ n w L b1 b2 bo c cw A want F out r W) (hr : Ready L rec W) : InO n w L b1 b2 bo c cw A want F rec out r W := by
  obtain ⟨v, h⟩ := h
  refine ⟨v, ?_⟩
  have h1 := h.turn1 (a' := objA (L + 1) (.loop (rec .ready none))) rfl hr.1
  exact (h1.swap.turn1 (a' := objA L (.deferred (some []))) rfl hr.2).swap
theorem InO.res (h : InO n w L b1 b2 bo c cw A want F rec out r W) : InQ n w L b1 b2 bo c cw A want F out r W ∧ Ready L rec W := by
  obtain ⟨v, h⟩ := h
  have e1 : W.heap[L + 1]? = some (.loop (rec .ready none)) := h.hold (x := objA (L + 1) (.loop (rec .ready none))) (by simp)
  have e2 : W.heap[L]? = some (.deferred (some [])) := h.hold (x := objA L (.deferred (some []))) (by simp)
  refine ⟨⟨v, ?_⟩, e1, e2⟩
  have h1 := h.turn1 (a' := resA (L + 1)) rfl (Array.getElem?_eq_some_iff.1 e1).1
  exact (h1.swap.turn1 (a' := resA L) rfl (Array.getElem?_eq_some_iff.1 e2).1).swap
theorem InQ.putObj (o' : Obj) (h : InQ n w L b1 b2 bo c cw A want F out r W) : InQ n w L b1 b2 bo c cw A want F out r (W.putObj (L + 1) o') := by
  obtain ⟨v, h⟩ := h
  exact ⟨v, h.putObj o'⟩
theorem InO.next (h : InO n w L b1 b2 bo c cw A want F rec out r W) (hl : want.length < 274877906944) (hr : Reads n w F A want) :
    Calls Try.prog 42 #[.pointer (some ⟨c, 0, none⟩), .slice A want.length cw] W fun e W' => InO n w L b1 b2 bo c cw A want F rec out r W' ∧ ((∃ b, e = .returned (.tuple #[.int .i64 b, .bool true]) ∧ bestR r want b) ∨ (e = .returned (.tuple #[.int .i64 0, .bool false]) ∧ ∀ x, ¬ Reach r want x)) := by
  obtain ⟨v, h⟩ := h
  exact (next42_c h A cw want hl hr.consr.consr.consr.consr.consr.consr).mono fun e W' ⟨h1, h2⟩ => ⟨⟨v, h1⟩, h2⟩
theorem InO.wr (h : InO n w L b1 b2 bo c cw A want F rec out r W) (buf : Int) (hb : I64 buf) :
    Calls Try.prog 12 #[.pointer (some ⟨c, 0, none⟩), .int .i64 buf] W fun e W' => ∃ A' c', e = .returned (.slice A' (nextR r buf).length c') ∧ InO n w L b1 b2 bo c cw A want F rec out (writtenR r buf) W' := by
  obtain ⟨v, h⟩ := h
  exact (h.wr buf hb).mono fun e W' ⟨A', c', he, h1⟩ => ⟨A', c', he, v, h1⟩
theorem InO.cells (h : InO n w L b1 b2 bo c cw A want F rec out r W) : W.cell? ⟨b1, 0, none⟩ = some (.pointer (some ⟨c, 0, none⟩)) ∧ W.cell? ⟨b2, 0, none⟩ = some (.slice A want.length cw) := by
  obtain ⟨v, h⟩ := h
  have e1 : Blk W b1 #[.pointer (some ⟨c, 0, none⟩)] 26 := h.hold (x := blkA b1 #[.pointer (some ⟨c, 0, none⟩)] 26) (by simp [yP])
  have e2 : Blk W b2 #[.slice A want.length cw] 23 := h.hold (x := blkA b2 #[.slice A want.length cw] 23) (by simp [yP])
  exact ⟨e1.cell 0, e2.cell 0⟩
theorem InO.i64 (h : InO n w L b1 b2 bo c cw A want F rec out r W) : ∀ i, i < r.length → I64 (r.getD i zr).buf := by
  obtain ⟨v, pg, hg, ho⟩ := h
  exact hg.buf
theorem InO.leftB (h : InO n w L b1 b2 bo c cw A want F rec out r W) : leftR r < 274877906944 := by
  obtain ⟨v, pg, hg, ho⟩ := h
  have := leftR_le r
  have := hg.len
  omega
set_option maxHeartbeats 4000000 in
set_option maxRecDepth 100000 in
theorem iter_c (hl : want.length < 274877906944) (hr : Reads n w F A want)
    (hY : ∀ (s : Pg) W, (PartR want r0 s.1 s.2.2 ∧ bestR s.2.2 want s.2.1) ∧ InQ n w L b1 b2 bo c cw A want F s.1 s.2.2 W → Ready L rec W → YieldAt Fence.wide 0 Try.prog (L + 1) #[.int .i64 s.2.1] W fun e W' =>
        (e = .returned (.bool true) ∧ ((PartR want r0 s.1 s.2.2 ∧ bestR s.2.2 want s.2.1) ∧ InQ n w L b1 b2 bo c cw A want F (s.1 ++ [s.2.1]) s.2.2 W') ∧ Ready L rec W') ∨ (e = .returned (.bool false) ∧ ∃ c, False ∧ Stopped L rec c W'))
    (W : World) (hin : InQ n w L b1 b2 bo c cw A want F [] r0 W) (hrdy : Ready L rec W) :
    CallsIn Fence.wide 0 Try.prog 41 #[.func (.yield (L + 1)) #[] #[], .pointer (some ⟨b1, 0, none⟩), .pointer (some ⟨b2, 0, none⟩)] W fun e W' => (∃ v, e = .returned v) ∧
      (∃ out r, (PartR want r0 out r ∧ ∀ x, ¬ Reach r want x) ∧ InQ n w L b1 b2 bo c cw A want F out r W') ∧ Ready L rec W' := by
  have HY := hide hY
  have HR := hide hr
  have HL := hide hl
  have HI0 := hide (hin.obj hrdy)
  clear hY hr hin hrdy hl
  refine callsIn_of_wp Try.func41 rfl trivial ?_ rfl
  simp only [Try.ntmps41, List.size_toArray, List.length_cons, List.length_nil, Nat.reduceAdd, Nat.reduceSub, Array.replicate_succ, Array.replicate_zero, List.push_toArray, List.append_toArray, List.nil_append, List.cons_append]
  gi_wp2
  gi_loopg [4] (leftR r0) (fun m v wr => ∃ (out : List Int) (r : List Rc), m = leftR r ∧ Hid (PartR want r0 out r) ∧ Hid (InO n w L b1 b2 bo c cw A want F rec out r wr))
  case atStart => exact ⟨[], r0, rfl, hide .nil, HI0⟩
  case round =>
    obtain ⟨out, r, rfl, HP, HI⟩ := hrel
    obtain ⟨c1, c2⟩ := HI.out.cells
    have HN := hide (HI.out.next HL.out HR.out)
    gi_wp2_with (first
      | ((with_reducible refine wide_calls ?_); (go_at_call 42; refine HN.out.mono ?_; rintro e W1 ⟨h1, h2⟩; have H1 := hide h1; clear h1; rcases h2 with ⟨b, rfl, hb⟩ | ⟨rfl, hn⟩; rotate_left; (have HNR := hide hn; clear hn); rotate_right; obtain ⟨fn, tmps, assign, body, hy, hR⟩ := HY.out (out, b, r) W1 ⟨⟨HP.out, hb⟩, H1.out.res.1⟩ H1.out.res.2; dsimp only at hy; have HRR := hide hR; have HB := hide hb; have HBI := hide (hb.1.i64 H1.out.i64); clear hR hb))
      | (refine ⟨rfl, ?_⟩; refine HRR.out.mono ?_; rintro e W3 (⟨rfl, ⟨_, hi3⟩, hr3⟩ | ⟨_, _, ⟨⟩, _⟩); have HI3 := hide (hi3.obj hr3); clear hi3 hr3; obtain ⟨d1, d2⟩ := HI3.out.cells)
      | ((with_reducible refine wide_calls ?_); (go_at_call 12; refine (HI3.out.wr b HBI.out).mono ?_; rintro e W4 ⟨A4, c4, rfl, h4⟩; have H4 := hide h4; clear h4)))
    · have HPS := hide (HP.out.snoc HB.out)
      have HLT := hide (left_written HB.out.1.next)
      clear HN HI HI3 d1 d2 c1 c2
      go_roundg (leftR (writtenR r b))
      case measure => exact HLT.out
      case rel => exact ⟨out ++ [b], writtenR r b, rfl, HPS, H4⟩
    · refine ⟨fun _ _ => trivial, ?_⟩
      gi_wp2
      refine bodyPost_ret (results_none rfl _ _ _) rfl ?_
      exact ⟨⟨_, rfl⟩, ⟨out, r, ⟨HP.out, HNR.out⟩, H1.out.res.1⟩, H1.out.res.2⟩
end
end Go.Proofs.Ytjfejimghbohdaa
namespace Go.Proofs.Ytjfejimghbohdaa
set_option linter.unusedVariables false
set_option linter.unusedSimpArgs false
open Go.RowKit Go.Maps
attribute [local go_sem] Oper.semAt_some

section
variable {n : Nat} {w W : World} {F X : List Atom} {g c cw : Nat} {A : Option Addr} {want : List Int} {r : List Rc}
theorem plan29_c (h : OneP n w c r X W) : Calls Try.prog 29 #[.pointer (some ⟨c, 0, none⟩), .slice A want.length cw] W fun e W' => ∃ b1 b2, e = .returned (.func (.func 41) #[] #[.pointer (some ⟨b1, 0, none⟩), .pointer (some ⟨b2, 0, none⟩)]) ∧
    OneP n w c r (blkA b1 #[.pointer (some ⟨c, 0, none⟩)] 26 :: blkA b2 #[.slice A want.length cw] 23 :: X) W' := by
  have HO := hide h
  clear h
  go_enter Try.func29, Try.ntmps29
  go_wp2
  go_ret
  obtain ⟨pg, hg, ho⟩ := HO.out
  have h1 := (Own.newBlk ho #[.pointer (some ⟨c, 0, none⟩)] 26).newBlk #[.slice A want.length cw] 23
  refine ⟨_, _, rfl, pg, hg, ?_⟩
  have h2 := h1.swap
  have h3 : Own n w _ (pg ++ (blkA W.heap.size #[.pointer (some ⟨c, 0, none⟩)] 26 :: blkA (W.alloc (.cells #[.pointer (some ⟨c, 0, none⟩)] 26)).heap.size #[.slice A want.length cw] 23 :: X)) := h2.perm (by
    refine List.Perm.trans ?_ List.perm_middle.symm
    exact List.Perm.cons _ List.perm_middle.symm)
  simpa using h3
theorem OneP.copyF (h : OneP n w g r X W) : Calls Try.prog 30 #[.pointer (some ⟨g, 0, none⟩)] W fun e W' => ∃ c pg, e = .returned (.pointer (some ⟨c, 0, none⟩)) ∧ Gr g r pg ∧ OneP n w c r (pg ++ X) W' := by
  obtain ⟨pg, hg, ho⟩ := h
  refine (gcopy_c hg ho).mono ?_
  rintro e W' ⟨c, pc, he, hg', ho'⟩
  exact ⟨c, pg, he, hg, pc, hg', ho'⟩
theorem OneP.len (h : OneP n w g r X W) : Calls Try.prog 28 #[.pointer (some ⟨g, 0, none⟩)] W fun e W' => e = .returned (.int .i64 (r.length : Int)) ∧ W = W' := by
  obtain ⟨pg, hg, ho⟩ := h
  exact len_c hg ho
theorem own_four {P R : List Atom} {a b c d : Atom} (h : Own n w W (P ++ a :: b :: c :: d :: R)) : Own n w W (a :: b :: c :: d :: (P ++ R)) :=
  h.perm (List.perm_middle.trans (List.Perm.cons _ (List.perm_middle.trans (List.Perm.cons _ (List.perm_middle.trans (List.Perm.cons _ List.perm_middle))))))
theorem own_four' {P R : List Atom} {a b c d : Atom} (h : Own n w W (a :: b :: c :: d :: (P ++ R))) : Own n w W (P ++ a :: b :: c :: d :: R) :=
  h.perm (List.perm_middle.trans (List.Perm.cons _ (List.perm_middle.trans (List.Perm.cons _ (List.perm_middle.trans (List.Perm.cons _ List.perm_middle)))))).symm
theorem plan_open {bo b1 b2 : Nat} {pg X0 : List Atom} {v v2 : Value} (h : OneP n w c r (blkA b1 #[.pointer (some ⟨c, 0, none⟩)] 26 :: blkA b2 #[.slice A want.length cw] 23 :: (pg ++ (blkA bo #[v] 23 :: rowA 3 1 v2 0 [] :: X0))) W) :
    OneP n w c r (blkA bo #[v] 23 :: rowA 3 1 v2 0 [] :: blkA b1 #[.pointer (some ⟨c, 0, none⟩)] 26 :: blkA b2 #[.slice A want.length cw] 23 :: (pg ++ X0)) W := by
  obtain ⟨pc, hc, ho⟩ := h
  refine ⟨pc, hc, ho.perm (List.Perm.append_left _ ?_)⟩
  exact (List.perm_middle (l₁ := blkA b1 #[.pointer (some ⟨c, 0, none⟩)] 26 :: blkA b2 #[.slice A want.length cw] 23 :: pg)).trans (List.Perm.cons _ (List.perm_middle (l₁ := blkA b1 #[.pointer (some ⟨c, 0, none⟩)] 26 :: blkA b2 #[.slice A want.length cw] 23 :: pg)))
set_option maxHeartbeats 8000000 in
set_option maxRecDepth 100000 in
theorem planS_c (h : OneP n w g r X W) (hl : want.length < 274877906944) (hr : Reads n w X A want) (hrl : r.length < 274877906944) (hin : ∀ x ∈ want, 0 ≤ x ∧ x < (r.length : Int)) :
    Calls Try.prog 10 #[.pointer (some ⟨g, 0, none⟩), .slice A want.length cw] W fun e W' => ∃ out r2 A' c', e = .returned (.tuple #[.slice A' out.length c', .int .i64 0]) ∧ PlanR want r out r2 ∧ OneP n w g r (rowA 3 1 (.slice A' out.length c') out.length (ints out) :: X) W' := by
  have HW := hide (show Ints W.heap.size W A want from by obtain ⟨pg, hg, ho⟩ := h; exact hr W (ho.sub (List.sublist_append_right _ _)))
  have HL := hide h.len
  have HIN := hide (fun k (hk : k < want.length) => hin _ (List.getElem_mem hk))
  have HO := hide h
  have HR := hide hr
  clear hr h hin
  refine (callsIn_wide (n := 0)).1 ?_
  refine callsIn_of_wp_marks Try.func10 rfl trivial ?_
  simp only [Try.ntmps10, List.size_toArray, List.length_cons, List.length_nil, Nat.reduceAdd, Nat.reduceSub, Array.replicate_succ, Array.replicate_zero, List.push_toArray, List.append_toArray, List.nil_append, List.cons_append]
  gi_wp2
  gi_loopg [14] want.length (fun m i wr => ∃ k : Nat, k ≤ want.length ∧ m = want.length - k ∧ i = .int .i64 k ∧ wr = W)
  case atStart => exact ⟨0, by omega, by omega, rfl, rfl⟩
  case round =>
    obtain ⟨k, hk, rfl, rfl, rfl⟩ := hrel
    by_cases hlt : k < want.length
    · obtain ⟨ba, oa, rfl, _, hc⟩ := HW.out (by intro e; rw [e] at hlt; simp at hlt)
      have y0 := hc k hlt
      have hgd : want.getD k 0 = want[k] := by simp [hlt]
      rw [hgd] at y0
      have hx := HIN.out k hlt
      clear hc hgd
      generalize want[k] = x at y0 hx
      obtain ⟨i, rfl⟩ := Int.eq_ofNat_of_zero_le hx.1
      have o1 : (0 : Int) ≤ (k : Int) := by omega
      have o2 : (k : Int) < (want.length : Int) := by omega
      have o3 : ¬ (i : Int) < 0 := by omega
      have o4 : ¬ (r.length : Int) ≤ (i : Int) := by omega
      have o5 : ¬ r.length ≤ i := by omega
      gi_wp2_with ((with_reducible refine wide_calls ?_); (go_at_call 28; refine HL.out.mono ?_; rintro e w' ⟨rfl, rfl⟩))
      go_roundg (want.length - (k + 1))
      case measure => omega
      case rel => exact ⟨k + 1, by omega, by omega, by go_num, rfl⟩
    · obtain rfl : k = want.length := by omega
      have o2 : ¬ (want.length : Int) < (want.length : Int) := by omega
      have HA := hide (show OneP n w g r (blkA wr.heap.size #[.slice none 0 0] 23 :: rowA 3 1 (.slice none 0 0) 0 [] :: X) (wr.alloc (.cells #[.slice none 0 0] 23)) from by
        obtain ⟨pg, hg, ho⟩ := HO.out
        have h1 := (Own.nilRow ho 3 1).newBlk #[.slice none 0 0] 23
        exact ⟨pg, hg, h1.perm ((List.Perm.cons _ List.perm_middle.symm).trans List.perm_middle.symm)⟩)
      have HCP := hide HA.out.copyF
      gi_wp2_with (first
        | ((with_reducible refine wide_calls ?_); (go_at_call 30; refine HCP.out.mono ?_; rintro e W2 ⟨c, pg, rfl, hg, h2⟩; have HG := hide hg; have H2 := hide (plan29_c (A := A) (cw := cw) (want := want) h2); clear hg h2))
        | ((with_reducible refine wide_calls ?_); (go_at_call 29; refine H2.out.mono ?_; rintro e W3 ⟨b1, b2, rfl, h3⟩; have H3 := hide (plan_open h3); clear h3)))
      clear HA HCP H2 HL HW
      generalize wr.heap.size = bo at H3 ⊢
      refine wpIn_rangeFunc_dir (σ := Pg) (gf := 41) (lb := #[.pointer (some ⟨b1, 0, none⟩), .pointer (some ⟨b2, 0, none⟩)]) rfl (enters_of Try.func41 (by kernel_rfl) rfl)
        (fun s W => (PartR want r s.1 s.2.2 ∧ bestR s.2.2 want s.2.1) ∧ InQ n w W3.heap.size b1 b2 bo c cw A want (pg ++ X) s.1 s.2.2 W)
        (fun s W => (PartR want r s.1 s.2.2 ∧ bestR s.2.2 want s.2.1) ∧ InQ n w W3.heap.size b1 b2 bo c cw A want (pg ++ X) (s.1 ++ [s.2.1]) s.2.2 W)
        (fun _ _ _ => False)
        (fun s a₁ W => ((PartR want r s.1 s.2.2 ∧ bestR s.2.2 want s.2.1) ∧ InQ n w W3.heap.size b1 b2 bo c cw A want (pg ++ X) s.1 s.2.2 W) ∧ a₁ = (fun x : Int => ({ tmps := #[.pointer (some ⟨g, 0, none⟩), .slice A want.length cw, undef, undef, u4, u5, undef, u7, .pointer (some ⟨bo, 0, none⟩), .int .i64 x, .pointer (some ⟨g, 0, none⟩), .bool false, .slice A want.length cw, .int .i64 want.length, .int .i64 want.length, .bool false, u16, u17, u18, u19, u20, u21, u22, u23, u24, u25, u26, .pointer (some ⟨g, 0, none⟩), .pointer (some ⟨c, 0, none⟩), .slice A want.length cw, .func (.func 41) #[] #[.pointer (some ⟨b1, 0, none⟩), .pointer (some ⟨b2, 0, none⟩)], .int .i64 x, undef, undef, undef, undef, undef], defers := [] } : Act)) s.2.1)
        (fun W => ∃ out r', (PartR want r out r' ∧ ∀ x, ¬ Reach r' want x) ∧ InQ n w W3.heap.size b1 b2 bo c cw A want (pg ++ X) out r' W) (fun s => #[.int .i64 s.2.1])
        ?hI ?hJ ?hJx ?hMid ?hDone (fun _ => rfl) ?assign ?body ?iter ?done ?stop
      case hI => exact fun s W r o' h hl => ⟨h.1, h.2.putObj o'⟩
      case hJ => exact fun s W r o' h hl => ⟨h.1, h.2.putObj o'⟩
      case hJx => exact fun s c W r o' h hl => h
      case hMid => exact fun s a₁ W r o' h hl => ⟨⟨h.1.1, h.1.2.putObj o'⟩, h.2⟩
      case hDone => exact fun W r o' ⟨out, r', h1, h2⟩ hl => ⟨out, r', h1, h2.putObj o'⟩
      case assign =>
        rintro l ⟨out, x, rk⟩ W hi hl
        have HI := hide hi
        clear hi
        simp only [List.zip_toArray, List.zip_cons_cons, List.zip_nil_right, List.zip_nil_left, List.size_toArray, List.length_cons, List.length_nil, List.foldl_toArray', List.foldl_cons, List.foldl_nil, List.setIfInBounds_toArray, List.set_cons_succ, List.set_cons_zero]
        gi_wp2
        first | exact ⟨Keeps2.refl _ _, HI.out⟩ | exact ⟨Keeps2.refl _ _, HI.out, rfl⟩ | exact ⟨Keeps2.refl _ _, HI.out, trivial⟩
      case body =>
        rintro l' ⟨out, x, rk⟩ a₁ W hl' ⟨⟨hpb, v, pc, hc, ho⟩, rfl⟩
        dsimp only at hpb hc ho
        have hlen : out.length < 1099511627776 := by have := hpb.1.len; have := leftR_le r; omega
        have hown := own_four ho
        have hr := hown.f3
        have hrow := hr.row
        obtain ⟨A5, c5, rfl⟩ := own_slice hrow
        have hn0 : (Value.slice A5 out.length c5).ownBlock ≠ some W3.heap.size := fun e => hr.far (a' := resA W3.heap.size) (by simp) _ e rfl
        have hn1 : (Value.slice A5 out.length c5).ownBlock ≠ some (W3.heap.size + 1) := fun e => hr.far (a' := resA (W3.heap.size + 1)) (by simp) _ e rfl
        have HN := hide (And.intro hn0 hn1)
        have hbk : Blk W bo #[.slice A5 out.length c5] 23 := hown.hold (blkA bo #[.slice A5 out.length c5] 23) (by simp)
        have hsz := hown.sz
        have HB0 := hide (show bo ≠ W3.heap.size ∧ bo ≠ W3.heap.size + 1 from ⟨fun e => hown.tail.far (a' := blkA bo #[.slice A5 out.length c5] 23) (by simp) bo (by rw [e]; rfl) rfl, fun e => hown.far (a' := blkA bo #[.slice A5 out.length c5] 23) (by simp) bo (by rw [e]; rfl) rfl⟩)
        have cv : W.cell? ⟨bo, 0, none⟩ = some (.slice A5 out.length c5) := hbk.cell 0
        have HOWN := hide hr
        have HPB := hide hpb
        have HC := hide hc
        obtain ⟨i0, hi, hz0, hz1, hz2⟩ := info_parts info3
        clear hown hr hbk hn0 hn1 ho hpb hc
        dsimp only
        gi_wp2_with (gi_at_builtin; go_must (refine wpListIn_append_own_at _ rfl _ _ 23 rfl n 3 i0 (.int .i64 0) 1 8 Try.underlying23 hi hz0 hz1 hz2 rfl (by decide) _ _ _ rfl (hrow.alloc _) ⟨W.heap.size, 0, none⟩ 1 1 [.int .i64 x] rfl rfl (cell_one_new _ _ _) (by simp [Value.oneCell']) (by unfold maxLen; omega) (by omega) (by simp; omega) ?_); intro v' w1 hown' hgrow _ hat; obtain ⟨A6, c6, rfl⟩ := own_slice hown'; have h2 := hide ((HOWN.out.alloc _).growRow hown' hgrow hat); have h3 := hide h2.out.f3; have hc1 : w1.cell? ⟨bo, 0, none⟩ = some (.slice A5 out.length c5) := h3.out.head.cell 0; have hf1 := h3.out.head.frozen 0; have HK := hide (Keeps2.grown (L := W3.heap.size) hgrow HN.out.1 HN.out.2); clear hown' hgrow hat)
        have h4 := h3.out.setBlk 0 (.slice A6 (out.length + 1) c6)
        refine ⟨((Keeps2.alloc _ W _).trans HK.out).trans (Keeps2.setCell _ _ _ _), HPB.out, .slice A6 (out.length + 1) c6, pc, HC.out, own_four' ?_⟩
        have h5 := h4.f3.f3
        simpa [ints] using h5
      case iter =>
        rintro rec W4 hW4 hrdy hY
        have hQ : InQ n w W3.heap.size b1 b2 bo c cw A want (pg ++ X) [] r W4 := by
          obtain ⟨pc, hc, ho⟩ := H3.out
          refine ⟨.slice none 0 0, pc, hc, ?_⟩
          have h1 := Own.new ho (.deferred (some [])) (resA W3.heap.size) rfl (show W3.heap.size < (W3.alloc _).heap.size by simp)
          have h2 := h1.new (.loop (rec .ready none)) (resA (W3.heap.size + 1)) (by simp [resA]) (show W3.heap.size + 1 < ((W3.alloc _).alloc _).heap.size by simp)
          rw [← hW4] at h2
          exact h2.perm ((List.Perm.cons _ List.perm_middle.symm).trans List.perm_middle.symm)
        refine (iter_c hl HR.out.app (fun s W hi hr => hY s W hi hr) W4 hQ hrdy).mono ?_
        rintro e W' ⟨h3, h4, h5⟩
        exact ⟨h3, .inl ⟨h4, h5⟩⟩
      case done =>
        rintro W ⟨out, r', ⟨hp, hn⟩, v, pc, hc, ho⟩ hD
        have hown := own_four ho
        have cv : W.cell? ⟨bo, 0, none⟩ = some v := (hown.hold (blkA bo #[v] 23) (by simp)).cell 0
        obtain ⟨A6, c6, rfl⟩ := own_slice hown.f3.row
        have H := hide (And.intro hown (And.intro hD (hp.end hn)))
        clear hown hD hp hn hc ho
        gi_wp2
        obtain ⟨hown, hD, hp⟩ := H.out
        refine ⟨by simp, .inl ⟨_, _, rfl, run_takeDeferred hD, ?_⟩⟩
        refine ⟨_, results_tmp2 rfl _ _ _, out, r', A6, c6, rfl, hp, pg, HG.out, ?_⟩
        have h6 := (hown.f1.putObj (.deferred none)).sub (bs := rowA 3 1 (.slice A6 out.length c6) out.length (ints out) :: (pg ++ X)) (.cons _ (.cons _ (.cons _ (.cons_cons _ ((List.Sublist.cons _ (List.Sublist.cons _ (List.Sublist.refl _))).trans (List.sublist_append_right pc _))))))
        exact h6.back
      case stop => exact fun s c W h hD => h.elim
end
end Go.Proofs.Ytjfejimghbohdaa
namespace Go.Proofs.Ytjfejimghbohdaa
set_option linter.unusedVariables false
set_option linter.unusedSimpArgs false
open Go.RowKit Go.Maps

section
variable {n : Nat} {w W : World} {F X : List Atom} {g c cw : Nat} {A : Option Addr} {want : List Int} {r : List Rc}
theorem plan_nil_c (W : World) : Calls Try.prog 10 #[.pointer none, .slice none 0 0] W fun e W' => e = .returned (.tuple #[.slice none 0 0, .int .i64 1]) ∧ W = W' := by
  go_enter Try.func10, Try.ntmps10
  go_wp2
  go_ret2
  exact ⟨rfl, rfl⟩
theorem all_nil_c (W : World) : Calls Try.prog 19 #[.pointer none] W fun e W' => e = .returned (.slice none 0 0) ∧ W = W' := by
  go_enter Try.func19, Try.ntmps19
  go_wp2
  go_ret
  exact ⟨rfl, rfl⟩
theorem planNo_c (h : OneP n w g r X W) (hl : want.length < 274877906944) (hr : Reads n w X A want) (hin : ¬ ∀ x ∈ want, 0 ≤ x ∧ x < (r.length : Int)) :
    Calls Try.prog 10 #[.pointer (some ⟨g, 0, none⟩), .slice A want.length cw] W fun e W' => e = .returned (.tuple #[.slice none 0 0, .int .i64 1]) ∧ W = W' := by
  have HW := hide (show Ints W.heap.size W A want from by obtain ⟨pg, hg, ho⟩ := h; exact hr W (ho.sub (List.sublist_append_right _ _)))
  have HL := hide h.len
  have HIN := hide hin
  clear hr h hin
  go_enter Try.func10, Try.ntmps10
  go_wp2
  go_loopg [14] want.length (fun m i wr => ∃ k : Nat, k ≤ want.length ∧ m = want.length - k ∧ i = .int .i64 k ∧ wr = W ∧ Hid (∀ x ∈ want.take k, 0 ≤ x ∧ x < (r.length : Int)))
  case atStart => exact ⟨0, by omega, by omega, rfl, rfl, hide (by simp)⟩
  case round =>
    obtain ⟨k, hk, rfl, rfl, rfl, HK⟩ := hrel
    by_cases hlt : k < want.length
    · obtain ⟨ba, oa, rfl, _, hc⟩ := HW.out (by intro e; rw [e] at hlt; simp at hlt)
      have y0 := hc k hlt
      have hgd : want.getD k 0 = want[k] := by simp [hlt]
      rw [hgd] at y0
      have HS := hide (fun h : 0 ≤ want[k] ∧ want[k] < (r.length : Int) => show ∀ x ∈ want.take (k + 1), 0 ≤ x ∧ x < (r.length : Int) from fun x hx => by
        rw [List.take_succ_eq_append_getElem hlt] at hx
        rcases List.mem_append.1 hx with hx | hx
        · exact HK.out x hx
        · rw [List.mem_singleton.1 hx]; exact h)
      clear hc hgd
      generalize want[k] = x at y0 HS
      have o1 : (0 : Int) ≤ (k : Int) := by omega
      have o2 : (k : Int) < (want.length : Int) := by omega
      by_cases hx1 : x < 0
      · go_wp2
        go_ret2
        exact ⟨rfl, rfl⟩
      · by_cases hx2 : (r.length : Int) ≤ x
        · go_wp2_with (go_at_call 28; refine HL.out.mono ?_; rintro e w' ⟨rfl, rfl⟩)
          go_ret2
          exact ⟨rfl, rfl⟩
        · have HT := hide (HS.out ⟨by omega, by omega⟩)
          go_wp2_with (go_at_call 28; refine HL.out.mono ?_; rintro e w' ⟨rfl, rfl⟩)
          go_roundg (want.length - (k + 1))
          case measure => omega
          case rel => exact ⟨k + 1, by omega, by omega, by go_num, rfl, HT⟩
    · exact absurd (by have := HK.out; rwa [List.take_of_length_le (by omega)] at this) HIN.out
def allI (k : Nat) : List Int := (List.range k).map (fun i : Nat => (i : Int))
theorem allI_len (k : Nat) : (allI k).length = k := by simp [allI]
theorem allI_succ (k : Nat) : allI (k + 1) = allI k ++ [(k : Int)] := by unfold allI; rw [List.range_succ, List.map_append]; rfl
theorem allI_mem {k : Nat} {x : Int} : x ∈ allI k ↔ 0 ≤ x ∧ x < (k : Int) := by
  unfold allI
  rw [List.mem_map]
  constructor
  · rintro ⟨i, hi, rfl⟩
    have := List.mem_range.1 hi
    omega
  · intro h
    exact ⟨x.toNat, List.mem_range.2 (by omega), by omega⟩
set_option maxHeartbeats 4000000 in
theorem all_c (h : OneP n w g r X W) (hrl : r.length < 274877906944) :
    Calls Try.prog 19 #[.pointer (some ⟨g, 0, none⟩)] W fun e W' => ∃ out r2 A' c', e = .returned (.slice A' out.length c') ∧ PlanR (allI r.length) r out r2 ∧ OneP n w g r (rowA 3 1 (.slice A' out.length c') out.length (ints out) :: X) W' := by
  have HL := hide h.len
  have HO := hide (show Own n w W (rowA 3 1 (.slice none 0 0) 0 (ints (allI 0)) :: (h.choose ++ X)) from Own.nilRow h.choose_spec.2 3 1)
  have HG := hide h.choose_spec.1
  generalize h.choose = pg at HO HG
  have HRL := hide hrl
  have HAL := hide allI_len
  have HAS := hide allI_succ
  clear h
  go_enter Try.func19, Try.ntmps19
  go_upto_region 5 with (go_at_call 28; refine HL.out.mono ?_; rintro e w' ⟨rfl, rfl⟩)
  go_loopg [11, 3] r.length (fun m i v wr => ∃ (k : Nat) (A2 : Option Addr) (c2 : Nat), k ≤ r.length ∧ m = r.length - k ∧ i = .int .i64 k ∧ v = .slice A2 k c2 ∧ Hid (Own n w wr (rowA 3 1 (.slice A2 k c2) k (ints (allI k)) :: (pg ++ X))))
  case atStart => exact ⟨0, none, 0, by omega, by omega, rfl, rfl, HO⟩
  case round =>
    obtain ⟨k, A2, c2, hk, rfl, rfl, rfl, HO2⟩ := hrel
    clear HO
    by_cases hlt : k < r.length
    · have o1 : (k : Int) < (r.length : Int) := by omega
      have o2 : (0 : Int) ≤ (k : Int) := by omega
      have hkk : k < 274877906944 := by omega
      have HKK := hide hkk
      go_wp2_with (at_builtin; go_must (obtain ⟨i0, hi, hz0, hz1, hz2⟩ := info_parts info3; refine wpList_append_own_at _ rfl _ _ 23 rfl n 3 i0 (.int .i64 0) 1 8 Try.underlying23 hi hz0 hz1 hz2 rfl (by decide) _ _ _ rfl (HO2.out.row.alloc _) ⟨wr.heap.size, 0, none⟩ 1 1 [.int .i64 k] rfl rfl (cell_one_new _ _ _) (by simp [Value.oneCell']) (by have := HKK.out; unfold maxLen; omega) (by have := HKK.out; omega) (by have := HO2.out.sz; simp; omega) ?_); intro v' w4 hown' hgrow _ hat; obtain ⟨A6, c6, rfl⟩ := own_slice hown'; have H4 := hide ((HO2.out.alloc _).growRow hown' hgrow hat); clear hown' hgrow hat)
      go_roundg (r.length - (k + 1))
      case measure => omega
      case rel => exact ⟨k + 1, A6, c6, by omega, by omega, by go_num, rfl, hide (by rw [HAS.out k]; have := H4.out; rw [show ints (allI k) ++ [Value.int .i64 (k : Int)] = ints (allI k ++ [(k : Int)]) from by simp [ints]] at this; exact this)⟩
    · obtain rfl : k = r.length := by omega
      have o1 : ¬ (r.length : Int) < (r.length : Int) := by omega
      have HP := hide (planS_c (want := allI r.length) (A := A2) (cw := c2) (g := g) (X := rowA 3 1 (.slice A2 r.length c2) r.length (ints (allI r.length)) :: X) ⟨pg, HG.out, HO2.out.back⟩ (by rw [HAL.out]; exact HRL.out) (by
        have := Reads.row (n := n) (w := w) (F := rowA 3 1 (.slice A2 r.length c2) r.length (ints (allI r.length)) :: X) (A := A2) (c := c2) (k := r.length) (on := allI r.length) List.mem_cons_self
        exact this) HRL.out (fun x hx => allI_mem.1 hx))
      rw [HAL.out] at HP
      go_wp2_with (go_at_call 10; refine HP.out.mono ?_; rintro e W3 ⟨out, r2, A3, c3, rfl, hp, h3⟩; have H3 := hide (And.intro hp h3); clear hp h3)
      go_ret
      obtain ⟨hp, pg2, hg2, ho2⟩ := H3.out
      exact ⟨_, _, _, _, rfl, hp, pg2, hg2, ho2.perm (List.Perm.append_left _ (.swap _ _ _)) |>.front.tail⟩
end
end Go.Proofs.Ytjfejimghbohdaa
namespace Go.Proofs.Ytjfejimghbohdaa
set_option linter.unusedVariables false
set_option linter.unusedSimpArgs false
open Go.RowKit Go.Maps

def rA : List Rc := [⟨7, [], false⟩, ⟨3, [0], false⟩]
def rA1 : List Rc := [⟨7, [], true⟩, ⟨3, [0], false⟩]
def rA2 : List Rc := [⟨7, [], true⟩, ⟨3, [0], true⟩]
theorem planA : PlanR [1] rA [7, 3] rA2 := by
  have g1 : good rA 1 := ⟨by decide, by decide, rfl⟩
  have h1 : bestR rA [1] 7 := by
    refine ⟨⟨0, .on (y := 1) (.id List.mem_cons_self g1) (by decide) ⟨by decide, by decide, rfl⟩, by decide, rfl⟩, ?_⟩
    rintro b' ⟨i, hr, hm, rfl⟩
    have hi := hr.good.2.1
    match i, hi, hm with
    | 0, _, _ => decide
    | 1, _, hm => exact absurd hm (by decide)
    | i + 2, hi, _ => simp [rA] at hi; omega
  have h2 : bestR rA1 [1] 3 := by
    refine ⟨⟨1, .id List.mem_cons_self ⟨by decide, by decide, rfl⟩, by decide, rfl⟩, ?_⟩
    rintro b' ⟨i, hr, hm, rfl⟩
    have hi := hr.good.2.1
    match i, hi, hm with
    | 0, _, hm => exact absurd hm (by decide)
    | 1, _, _ => decide
    | i + 2, hi, _ => simp [rA1] at hi; omega
  have e1 : writtenR rA 7 = rA1 := by rfl
  have e2 : writtenR rA1 3 = rA2 := by rfl
  refine .step h1 ?_
  rw [e1]
  refine .step h2 ?_
  rw [e2]
  refine .done fun x hx => ?_
  obtain ⟨i, rfl⟩ := Int.eq_ofNat_of_zero_le hx.good.1
  have hg := hx.good
  match i, hg with
  | 0, hg => exact absurd hg.2.2 (by decide)
  | 1, hg => exact absurd hg.2.2 (by decide)
  | i + 2, hg => have := hg.2.1; simp [rA2] at this; omega
section
variable {n : Nat} {w W : World} {F X : List Atom} {g : Nat} {r : List Rc}
theorem num11_c (W : World) (z : Int) : Calls Try.prog 11 #[.int .i64 z] W fun e W' => e = .returned (.int .i64 z) ∧ W = W' := by
  go_enter Try.func11, Try.ntmps11
  go_wp2
  go_ret
  exact ⟨rfl, rfl⟩
theorem OneP.new (h : Own n w W X) : Calls Try.prog 15 #[] W fun e W' => ∃ g, e = .returned (.pointer (some ⟨g, 0, none⟩)) ∧ OneP n w g [] X W' :=
  (gnew_c h).mono fun e W' ⟨g, ps, he, hg, ho⟩ => ⟨g, he, ps, hg, ho⟩
theorem OneP.add0 (h : OneP n w g r X W) (buf : Int) (hb : I64 buf) (hl : r.length + 1 < 274877906944) (ht : tot r < 274877906944) :
    Calls Try.prog 16 #[.pointer (some ⟨g, 0, none⟩), .int .i64 buf, .slice none 0 0] W fun e W' => e = .returned (.tuple #[.int .i64 (r.length : Int), .int .i64 0]) ∧ OneP n w g (r ++ [⟨buf, [], false⟩]) X W' := by
  obtain ⟨pg, hg, ho⟩ := h
  exact (gadd0_c hg ho buf hb hl ht).mono fun e W' ⟨ps, he, hg', ho'⟩ => ⟨he, ps, hg', ho'⟩
theorem OneP.add1 (h : OneP n w g r X W) (buf : Int) (hb : I64 buf) (x : Int) (hl : r.length + 1 < 274877906944) (ht : tot r + 1 < 274877906944) (hx : 0 ≤ x ∧ x < (r.length : Int)) :
    Calls Try.prog 16 #[.pointer (some ⟨g, 0, none⟩), .int .i64 buf, .slice (some ⟨W.heap.size, 0, none⟩) 1 1] (W.alloc (.cells #[.int .i64 x] 3)) fun e W' => e = .returned (.tuple #[.int .i64 (r.length : Int), .int .i64 0]) ∧ OneP n w g (r ++ [⟨buf, [x], false⟩]) X W' := by
  obtain ⟨pg, hg, ho⟩ := h
  exact (gadd1_c hg ho buf hb x hl ht hx).mono fun e W' ⟨ps, he, hg', ho'⟩ => ⟨he, ps, hg', ho'⟩
/-- Plan of one change -/
theorem OneP.plan1 (h : OneP n w g r X W) (x : Int) (hl : r.length < 274877906944) (hx : 0 ≤ x ∧ x < (r.length : Int)) :
    Calls Try.prog 10 #[.pointer (some ⟨g, 0, none⟩), .slice (some ⟨W.heap.size, 0, none⟩) 1 1] (W.alloc (.cells #[.int .i64 x] 3)) fun e W' => ∃ out r2 A' c', e = .returned (.tuple #[.slice A' out.length c', .int .i64 0]) ∧ PlanR [x] r out r2 ∧ OneP n w g r (rowA 3 1 (.slice A' out.length c') out.length (ints out) :: X) W' := by
  obtain ⟨pg, hg, ho⟩ := h
  have h1 : Own n w (W.alloc (.cells #[.int .i64 x] 3)) (pg ++ (rowA 3 1 (.slice (some ⟨W.heap.size, 0, none⟩) 1 1) 1 (ints [x]) :: X)) := (ho.newInts x).back
  have h2 : Reads n w (rowA 3 1 (.slice (some ⟨W.heap.size, 0, none⟩) 1 1) 1 (ints [x]) :: X) (some ⟨W.heap.size, 0, none⟩) [x] := Reads.row (c := 1) (k := 1) List.mem_cons_self
  refine (planS_c (want := [x]) (A := some ⟨W.heap.size, 0, none⟩) (cw := 1) ⟨pg, hg, h1⟩ (by simp) h2 hl (fun y hy => by rw [List.mem_singleton.1 hy]; exact hx)).mono ?_
  rintro e W' ⟨out, r2, A', c', he, hp, pg2, hg2, ho2⟩
  exact ⟨out, r2, A', c', he, hp, pg2, hg2, ho2.perm (List.Perm.append_left _ (.swap _ _ _)) |>.front.tail⟩
theorem OneP.below' (h : OneP n w g r X W) : Below n w W := by obtain ⟨pg, hg, ho⟩ := h; exact ho.below
theorem OneP.same (h : OneP n w g r X W) {A B : Option Addr} {c d : Nat} {l m : List Int} (hA : rowA 3 1 (.slice A l.length c) l.length (ints l) ∈ X) (hB : rowA 3 1 (.slice B m.length d) m.length (ints m) ∈ X) (hl : l.length < 1099511627776) (hm : m.length < 1099511627776) :
    Calls Try.prog 18 #[.slice A l.length c, .slice B m.length d] W fun e W' => e = .returned (.bool (sameI l m)) ∧ OneP n w g r X W' := by
  obtain ⟨pg, hg, ho⟩ := h
  have h1 : Reads n w (pg ++ X) A l := Reads.row (c := c) (k := l.length) (List.mem_append_right _ hA)
  have h2 : Reads n w (pg ++ X) B m := Reads.row (c := d) (k := m.length) (List.mem_append_right _ hB)
  exact (same_c A c l B d m hl hm h1 h2 ho).mono fun e W' ⟨he, h⟩ => ⟨he, pg, hg, h⟩
theorem OneP.newRow (h : OneP n w g r X W) (l : List Int) (hl : l.length ≤ maxLen) : OneP n w g r (rowA 3 1 (.slice (some ⟨W.heap.size, 0, none⟩) l.length l.length) l.length (ints l) :: X) (W.alloc (.cells (ints l).toArray 3)) := by
  obtain ⟨pg, hg, ho⟩ := h
  refine ⟨pg, hg, Own.back ?_⟩
  have := Own.newRow ho (e := 3) (sz := 1) (ints l).toArray l.length hl (by simp [ints])
  simpa using this
end
theorem i7 : I64 7 := by unfold I64; omega
theorem i3 : I64 3 := by unfold I64; omega
theorem alive7_c (W : World) : Calls Try.prog 7 #[] W fun e W' => e = .returned (.bool true) ∧ Below W.heap.size W W' := by
  have HN := hide (OneP.new (Own.start W))
  have HS := hide (fun (g : Nat) (V : World) (h : OneP W.heap.size W g [] [] V) => h.add0 7 i7 small1 small2)
  have HS1 := hide (fun (g : Nat) (V : World) (h : OneP W.heap.size W g ([] ++ [⟨7, [], false⟩]) [] V) => OneP.add1 h 3 i3 0 (by simp) (by simp [tot]) (by simp))
  have HP := hide (fun (g : Nat) (V : World) (h : OneP W.heap.size W g ([] ++ [⟨7, [], false⟩] ++ [⟨3, [0], false⟩]) [] V) => h.plan1 1 (by simp) (by simp))
  go_enter Try.func7, Try.ntmps7
  go_upto_region 3 with (first
    | (go_at_call 15; refine HN.out.mono ?_; rintro e W1 ⟨g, rfl, h1⟩; have H1 := hide (HS.out _ _ h1); clear h1)
    | (go_at_call 16; refine H1.out.mono ?_; rintro e W2 ⟨rfl, h2⟩; have H2 := hide (HS1.out _ _ h2); clear h2))
  go_upto_region 4 with (go_at_call 16; refine H2.out.mono ?_; rintro e W3 ⟨rfl, h3⟩; have H3 := hide (HP.out _ _ h3); clear h3)
  go_upto_region 5 with (go_at_call 10; refine H3.out.mono ?_; rintro e W4 ⟨out, r2, A4, c4, rfl, hp, h4⟩; have HPL := hide hp; have H4 := hide h4; clear h4 hp)
  obtain ⟨rfl, -⟩ := HPL.out.uniq planA
  have H5 := hide ((H4.out.newRow [7, 3] (by decide)).same (A := A4) (B := some ⟨W4.heap.size, 0, none⟩) (c := c4) (d := 2) (l := [7, 3]) (m := [7, 3]) (by simp) (by simp) (by decide) (by decide))
  rw [sameI_self] at H5
  clear HN HS HS1 HP H1 H2 H3 H4 HPL
  go_wp2_with (first
    | (go_at_call 11; refine (num11_c _ _).mono ?_; rintro e w' ⟨rfl, rfl⟩)
    | (go_at_call 18; refine H5.out.mono ?_; rintro e W6 ⟨rfl, h6⟩; have H6 := hide h6.below; clear h6))
  go_ret
  exact ⟨rfl, H6.out⟩
end Go.Proofs.Ytjfejimghbohdaa
