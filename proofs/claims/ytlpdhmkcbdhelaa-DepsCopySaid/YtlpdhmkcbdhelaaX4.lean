/-
  The document's own Add. Conditions: the rows are few.
-/
import Derived.Test.YtlpdhmkcbdhelaaX3
import Derived.Deep.AppendLies
import Derived.Deep.RegionLaw
import Derived.Deep.CutBlock
namespace Go.Proofs.Ytlpdhmkcbdhelaa
set_option linter.unusedVariables false
set_option linter.unusedSimpArgs false
open Go.RowKit Go.Maps

theorem info45 : (Try.prog.info? 45).map (fun i => (i.zero, i.size, i.bytes)) = some (some (.agg #[.int .i64 0, .slice none 0 0, .bool false]), 3, 40) := by kernel_rfl
theorem info3x : (Try.prog.info? 3).map (fun i => (i.zero, i.size, i.bytes)) = some (some (.int .i64 0), 1, 8) := by kernel_rfl
theorem step_append_src {P : Program} {w : World} {ops : Array Oper} {o : Oper} {a : Act} {K : Act → World → Prop} {Q : Exit → Act → World → Prop} {E : Prop} (hgd : o.guard = none) (s x : Operand) (t : TypeId)
    (ho : o.op = .call { callee := .builtin .append, args := #[s, x], argTypes := #[t, t] })
    (base : Nat) (e : TypeId) (i : TypeInfo) (z : Value) (size bytes : Nat) (ht : P.underlying t = some (.slice e)) (hi : P.info? e = some i) (hz : i.zero = some z)
    (hsize : i.size = size) (hby : i.bytes = bytes) (hzs : z.cells.size = size) (hsz : 0 < size)
    (v : Value) (n : Nat) (xs : List Value) (hs : a.eval s = v) (hown : w.ownsRow base e size v n xs)
    (B : Nat) (A : Option Addr) (m c : Nat) (news : List Value) (hx : a.eval x = .slice A m c) (hm : news.length = m * size) (hr : Cells B w A news) (h1 : ∀ u ∈ news, u.oneCell' = true)
    (h63 : n + m ≤ maxLen) (hbytes : (n + m) * bytes ≤ 140737488355328) (hbase : base ≤ w.heap.size)
    (h : ∀ v' w', w'.ownsRow base e size v' (n + m) (xs ++ news) → w.grownBy w' v.ownBlock → (v'.ownBlock = v.ownBlock ∨ v'.ownBlock = some w.heap.size) → K (a.put o.dst v') w') :
    if Region.wanted o (yielded ops a.tmps) = true then Oper.wp P o a w K Q else E := by
  have hw : Region.wanted o (yielded ops a.tmps) = true := by simp [Region.wanted, hgd]
  rw [if_pos hw]
  obtain ⟨v', w', hrun, h2, h3, h4⟩ := run_append_src (P := P) w base t o.type e i z size bytes ht hi hz hsize hby hzs hsz v n xs hown B A m c news hm hr h1 h63 hbytes hbase
  unfold Oper.wp execOp
  simp only [ho, resolve, invoke, builtin, Sem.run_bind, Sem.run_pure, Result.andThen_ok, List.map_toArray, List.map_cons, List.map_nil, hs, hx, hrun]
  exact h v' w' h2 h3 h4
section
variable {n b : Nat} {w W : World} {F ps : List Atom} {r : List Rc}
set_option maxHeartbeats 4000000 in
theorem radd_no (hg : IsR b r ps) (hs : Sm r) (ho : Own n w W (ps ++ F)) (buf : Int) (A : Option Addr) (c : Nat) (on : List Int) (hl : on.length < 274877906944) (hr : Reads n w F A on) (hon : ¬ ∀ x ∈ on, 0 ≤ x ∧ x < (r.length : Int)) :
    Calls Try.prog 36 #[.pointer (some ⟨b, 0, none⟩), .int .i64 buf, .slice A on.length c] W fun e W' => e = .returned (.tuple #[.int .i64 0, .int .i64 1]) ∧ Own n w W' (ps ++ F) := by
  have HX := hide (hr W (ho.sub (List.sublist_append_right _ _)))
  have HON := hide hon
  obtain ⟨Al, cl, x0⟩ := hg.slice (fun a ha => ho.hold a (List.mem_append_left _ ha))
  have HLEN := hide hs.len
  have HO := hide ho
  clear hg hs ho hr hon
  go_enter Try.func36, Try.ntmps36
  go_wp2
  go_loopw [8] (fun i wr => ∃ k : Nat, k ≤ on.length ∧ i = .int .i64 k ∧ (∃ q, wr = W.drewN q) ∧ Hid (∀ x ∈ on.take k, 0 ≤ x ∧ x < (r.length : Int))) (fun i _ => on.length - (intOf i).toNat)
  case atStart => exact ⟨0, by omega, rfl, ⟨0, rfl⟩, hide (by simp)⟩
  case round =>
    obtain ⟨k, hk, rfl, ⟨q, rfl⟩, HK⟩ := hrel
    by_cases hlt : k < on.length
    · obtain ⟨ba, off, rfl, _, hc⟩ := HX.out (by intro e; rw [e] at hlt; simp at hlt)
      have y0 := hc k hlt
      have hgd : on.getD k 0 = on[k] := by simp [hlt]
      rw [hgd] at y0
      have HS := hide (fun h : 0 ≤ on[k] ∧ on[k] < (r.length : Int) => show ∀ x ∈ on.take (k + 1), 0 ≤ x ∧ x < (r.length : Int) from fun x hx => by
        rw [List.take_succ_eq_append_getElem hlt] at hx
        rcases List.mem_append.1 hx with hx | hx
        · exact HK.out x hx
        · rw [List.mem_singleton.1 hx]; exact h)
      generalize on[k] = x at y0 HS
      have o1 : (0 : Int) ≤ (k : Int) := by omega
      have o2 : (k : Int) < (on.length : Int) := by omega
      clear hc hgd
      by_cases hx1 : x < 0
      · go_wp2
        go_quiet (fail)
        go_wp2
        go_ret2
        exact ⟨rfl, by first | exact HO.out.drewN _ | (rw [World.drewN_drewN]; exact HO.out.drewN _)⟩
      · by_cases hx2 : (r.length : Int) ≤ x
        · go_wp2
          go_quiet (fail)
          go_wp2
          go_ret2
          exact ⟨rfl, by first | exact HO.out.drewN _ | (rw [World.drewN_drewN]; exact HO.out.drewN _)⟩
        · have HT := hide (HS.out ⟨by omega, by omega⟩)
          go_wp2
          go_quiet (fail)
          go_wp2
          go_roundw
          case rel => exact ⟨k + 1, by omega, by go_num, ⟨_, by first | rfl | (rw [World.drewN_drewN]; done)⟩, HT⟩
          case measure => simp [intOf]; omega
    · exact absurd (by have := HK.out; rwa [List.take_of_length_le (by omega)] at this) HON.out
theorem cellsR_snoc (l : List Rg) (x : Rg) : cellsR (l ++ [x]) = cellsR l ++ x.cells := by
  rw [cellsR_append]; unfold cellsR; simp
theorem rParts_snoc (b : Nat) (vl : Value) (l : List Rg) (x : Rg) : (rParts b vl (l ++ [x])).Perm (rgA x :: blkA b #[vl] 43 :: rowA 45 3 vl (l.length + 1) (cellsR l ++ x.cells) :: l.map rgA) := by
  unfold rParts
  rw [List.map_append, List.length_append, cellsR_snoc]
  exact (List.perm_middle (l₁ := blkA b #[vl] 43 :: rowA 45 3 vl (l.length + 1) (cellsR l ++ x.cells) :: l.map rgA) (l₂ := [])).trans (by rw [List.append_nil])
set_option maxHeartbeats 8000000 in
set_option maxRecDepth 100000 in
theorem radd_yes (hg : IsR b r ps) (hs : Sm r) (ho : Own n w W (ps ++ F)) (buf : Int) (A : Option Addr) (c : Nat) (on : List Int) (hl : on.length < 274877906944) (hr : Reads n w F A on) (hon : ∀ x ∈ on, 0 ≤ x ∧ x < (r.length : Int)) :
    Calls Try.prog 36 #[.pointer (some ⟨b, 0, none⟩), .int .i64 buf, .slice A on.length c] W fun e W' => ∃ ps', e = .returned (.tuple #[.int .i64 (r.length : Int), .int .i64 0]) ∧ IsR b (r ++ [⟨buf, on, false⟩]) ps' ∧ Own n w W' (ps' ++ F) := by
  have HX := hide (hr W (ho.sub (List.sublist_append_right _ _)))
  have HON := hide hon
  have HLEN := hide hs.len
  have HO := hide ho
  have HR := hide hr
  obtain ⟨vl, l, rfl, h1⟩ := hg
  have hlm : l.length = r.length := by rw [← h1, List.length_map]
  have hrl : W.ownsRow 0 45 3 vl l.length (cellsR l) := ho.hold (rowA 45 3 vl l.length (cellsR l)) (by simp [rParts])
  obtain ⟨Al, cl, rfl⟩ := own_slice hrl
  have hbk : Blk W b #[.slice Al l.length cl] 43 := ho.hold (blkA b #[.slice Al l.length cl] 43) (by simp [rParts])
  have H1 := hide h1
  have x0 : W.cell? ⟨b, 0, none⟩ = some (.slice Al l.length cl) := hbk.cell 0
  rw [← hlm]
  have HLM := hide hlm
  clear hs hr hon h1 hbk hrl ho hlm
  go_enter Try.func36, Try.ntmps36
  go_wp2
  go_loopg [8] on.length (fun m i wr => ∃ k : Nat, k ≤ on.length ∧ m = on.length - k ∧ i = .int .i64 k ∧ (∃ q, wr = W.drewN q)) 
  case atStart => exact ⟨0, by omega, by omega, rfl, ⟨0, rfl⟩⟩
  case round =>
    obtain ⟨k, hk, rfl, rfl, ⟨q, rfl⟩⟩ := hrel
    by_cases hlt : k < on.length
    · obtain ⟨ba, off, rfl, _, hc⟩ := HX.out (by intro e; rw [e] at hlt; simp at hlt)
      have y0 := hc k hlt
      have hgd : on.getD k 0 = on[k] := by simp [hlt]
      rw [hgd] at y0
      have hx := HON.out on[k] (List.getElem_mem hlt)
      rw [← HLM.out] at hx
      generalize on[k] = x at y0 hx
      have o1 : (0 : Int) ≤ (k : Int) := by omega
      have o2 : (k : Int) < (on.length : Int) := by omega
      have hx1 : ¬ x < 0 := by omega
      have hx2 : ¬ (l.length : Int) ≤ x := by omega
      clear hc hgd hx
      go_wp2
      go_quiet (fail)
      go_wp2
      go_roundg (on.length - (k + 1))
      case measure => omega
      case rel => exact ⟨k + 1, by omega, by omega, by go_num, ⟨_, by first | rfl | (rw [World.drewN_drewN]; done)⟩⟩
    · obtain rfl : k = on.length := by omega
      have o3 : ¬ (on.length : Int) < (on.length : Int) := by omega
      have HOq := hide (HO.out.drewN q)
      have HXq := hide (HR.out (W.drewN q) (HOq.out.sub (List.sublist_append_right _ _)))
      have x0' : (W.drewN q).cell? ⟨b, 0, none⟩ = some (.slice Al l.length cl) := x0
      clear x0
      go_upto_region 6 with (fail)
      generalize W.drewN q = Wq at HOq HXq x0' ⊢
      have hbk : Blk Wq b #[.slice Al l.length cl] 43 := HOq.out.hold (blkA b #[.slice Al l.length cl] 43) (by simp [rParts])
      have hrow : Wq.ownsRow n 45 3 (.slice Al l.length cl) l.length (cellsR l) := (show Own n w Wq (rowA 45 3 (.slice Al l.length cl) l.length (cellsR l) :: _) from HOq.out.f1).row
      have fz : Wq.frozen? ⟨b, 0, none⟩ = false := hbk.frozen 0
      have hsz := HOq.out.sz
      have lb : b < Wq.heap.size := hbk.lt
      have nb : (Value.slice Al l.length cl).ownBlock ≠ some b := fun e => (show Own n w Wq (blkA b _ 43 :: rowA 45 3 (.slice Al l.length cl) l.length (cellsR l) :: _) from HOq.out).far (a' := rowA 45 3 (.slice Al l.length cl) l.length (cellsR l)) (by simp) b rfl e
      have hll : l.length < 274877906944 := by have := HLM.out; have := HLEN.out; omega
      have HBK := hide hbk
      have HROW := hide hrow
      obtain ⟨i0, hi, hz0, hz1, hz2⟩ := info_parts info45
      obtain ⟨j0, ji, jz0, jz1, jz2⟩ := info_parts info3x
      clear hbk hrow HX HO
      go_cut [] from 32 to 44 (fun wx => ∃ A' c' v4, Hid (Own n w wx (rParts b (.slice A' (l.length + 1) c') (l ++ [⟨⟨buf, on, false⟩, v4⟩]) ++ F)))
      case first =>
        go_region_law (first
          | ((refine step_append_src (by rfl) _ _ _ (by rfl) n 3 j0 _ 1 8 Try.underlying25 ji jz0 jz1 jz2 rfl (by omega) (.slice none 0 0) 0 [] (by rfl) (World.ownsRow_nil _ _ _ _) Wq.heap.size A on.length c (ints on) (by rfl) (by rw [ints_len, Nat.mul_one]) HXq.out.cells (by intro u hu; unfold ints at hu; obtain ⟨z, _, rfl⟩ := List.mem_map.1 hu; rfl) (by unfold maxLen; omega) (by omega) hsz ?_); intro v4 w4 hown hg hat; rw [Nat.zero_add, List.nil_append] at hown; obtain ⟨A4, c4, rfl⟩ := own_slice hown; have HO4 := hide (show Own n w w4 (rowA 3 1 (.slice A4 on.length c4) on.length (ints on) :: blkA b #[.slice Al l.length cl] 43 :: rowA 45 3 (.slice Al l.length cl) l.length (cellsR l) :: (l.map rgA ++ F)) from ((HOq.out.nilRow 3 1).drew.growRow hown hg hat)); have hb4 : Blk w4 b #[.slice Al l.length cl] 43 := HO4.out.tail.head; have hr4 : w4.ownsRow n 45 3 (.slice Al l.length cl) l.length (cellsR l) := HO4.out.f2.row; have q4 : w4.cell? ⟨b, 0, none⟩ = some (.slice Al l.length cl) := hb4.cell 0; have zA : (w4.alloc (.cells #[.int .i64 buf, .slice A4 on.length c4, .bool false] 45)).cell? ⟨b, 0, none⟩ = some (.slice Al l.length cl) := (hb4.alloc _).cell 0; have zf : (w4.alloc (.cells #[.int .i64 buf, .slice A4 on.length c4, .bool false] 45)).frozen? ⟨b, 0, none⟩ = false := (hb4.alloc _).frozen 0; have hrA := hr4.alloc (.cells #[.int .i64 buf, .slice A4 on.length c4, .bool false] 45); have lb4 := hb4.lt; have hsz4 := HO4.out.sz; clear hown hg hat hb4 hr4)
          | ((refine step_append_lies _ (by rfl) _ _ _ (by rfl) n 45 i0 _ 3 40 Try.underlying41 hi hz0 hz1 hz2 rfl (by omega) (.slice Al l.length cl) l.length (cellsR l) (by rfl) hrA ⟨w4.heap.size, 0, none⟩ 1 1 [.int .i64 buf, .slice A4 on.length c4, .bool false] (by rfl) (by rfl) (World.news_of_block (cs := #[.int .i64 buf, .slice A4 on.length c4, .bool false]) (t := 45) (fr := (0, 0)) (heap_alloc_new w4 _)) (by simp [Value.oneCell']) (by omega) (by unfold maxLen; omega) (by omega) (by simp; omega) (w4.heap.size + 1) (by simp) ?_); intro gg cap w5 hown1 hgrow hat1 hlt5; have q5 : w5.cell? ⟨b, 0, none⟩ = some (.slice Al l.length cl) := (hgrow.cell_far _ (by simp; omega) (Ne.symm nb)).trans zA; have qf : w5.frozen? ⟨b, 0, none⟩ = false := (World.frozen?_of_block (hgrow.block b (by simp; omega) (Ne.symm nb))).trans zf; have HH := hide (And.intro hown1 (And.intro hgrow hat1)); clear hown1 hgrow hat1 hlt5))
        all_goals
          go_wp2
          go_meet
          have h1 := HO4.out.f2.alloc (.cells #[.int .i64 buf, .slice A4 on.length c4, .bool false] 45) |>.growRow HH.out.1 HH.out.2.1 (HH.out.2.2.elim (fun e => .inl e.symm) (fun e => .inr (by rw [e]; simp [Value.ownBlock])))
          have h2 := (h1.f2.setBlk 0 (.slice (some ⟨gg, 0, none⟩) (l.length + 1) cap)).f2
          refine ⟨some ⟨gg, 0, none⟩, cap, .slice A4 on.length c4, hide (Own.perm ?_ ((rParts_snoc b (.slice (some ⟨gg, 0, none⟩) (l.length + 1) cap) l ⟨⟨buf, on, false⟩, .slice A4 on.length c4⟩).symm.append_right F))⟩
          exact h2
      case rest =>
        obtain ⟨A', c', v4, HC⟩ := hcut
        have hbk2 : Blk wc b #[.slice A' (l.length + 1) c'] 43 := HC.out.hold (blkA b #[.slice A' (l.length + 1) c'] 43) (by simp [rParts])
        have q0 : wc.cell? ⟨b, 0, none⟩ = some (.slice A' (l.length + 1) c') := hbk2.cell 0
        have hw1 : IntKind.i64.wrap (((l.length + 1 : Nat) : Int) - 1) = (l.length : Int) := by
          have e : ((l.length + 1 : Nat) : Int) - 1 = (l.length : Int) := by omega
          rw [e]; exact IntWalk.i64_in _ (by omega)
        clear hbk2 hi hz0 hz1 hz2 ji jz0 jz1 jz2 x0' fz nb lb
        obtain ⟨m, hm⟩ : ∃ m, l.length + 1 = m := ⟨_, rfl⟩
        rw [hm] at q0 hw1
        clear hm
        go_wp2
        go_ret2
        exact ⟨rfl, rParts b (.slice A' (l.length + 1) c') (l ++ [⟨⟨buf, on, false⟩, v4⟩]), ⟨_, _, rfl, by rw [List.map_append, H1.out]; rfl⟩, HC.out⟩
end
end Go.Proofs.Ytlpdhmkcbdhelaa
