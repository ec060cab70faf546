/-
  The document's own graph in memory; its may and Left. Conditions: the rows are few.
-/
import Derived.Test.YtlpdhmkcbdhelaaT
import Derived.Test.YtlpdhmkcbdhelaaC
namespace Go.Proofs.Ytlpdhmkcbdhelaa
set_option linter.unusedVariables false
set_option linter.unusedSimpArgs false
open Go.RowKit Go.Maps

/-- a change of the document's graph, with the slice of its row -/
structure Rg where
  c : Rc
  von : Value
def Rg.cells (x : Rg) : List Value := [.int .i64 x.c.buf, x.von, .bool x.c.done]
def cellsR (l : List Rg) : List Value := l.flatMap Rg.cells
theorem cellsR_len (l : List Rg) : (cellsR l).length = l.length * 3 := by
  unfold cellsR
  induction l with
  | nil => rfl
  | cons c l ih => rw [List.flatMap_cons, List.length_append, ih]; simp [Rg.cells]; omega
theorem cellsR_append (a b : List Rg) : cellsR (a ++ b) = cellsR a ++ cellsR b := by unfold cellsR; rw [List.flatMap_append]
theorem cellsR_at {l : List Rg} {k : Nat} (h : k < l.length) {i : Nat} (hi : i < 3) : (cellsR l)[k * 3 + i]? = (l[k].cells)[i]? := by
  have e : l = l.take k ++ l[k] :: l.drop (k + 1) := by rw [List.getElem_cons_drop, List.take_append_drop]
  conv => lhs; rw [e]
  rw [cellsR_append, List.getElem?_append_right (by rw [cellsR_len, List.length_take]; omega), cellsR_len, List.length_take, Nat.min_eq_left (by omega), Nat.add_sub_cancel_left]
  show (l[k].cells ++ cellsR _)[i]? = _
  rw [List.getElem?_append_left (by simp [Rg.cells]; omega)]
theorem cellsR_set {l : List Rg} {k : Nat} (h : k < l.length) {i : Nat} (hi : i < 3) (u : Value) (c : Rg) (hc : c.cells = (l[k].cells).set i u) : (cellsR l).set (k * 3 + i) u = cellsR (l.set k c) := by
  have e : l = l.take k ++ l[k] :: l.drop (k + 1) := by rw [List.getElem_cons_drop, List.take_append_drop]
  have e2 : l.set k c = l.take k ++ c :: l.drop (k + 1) := by
    rw [List.set_eq_take_append_cons_drop, if_pos h]
  rw [e2]
  conv => lhs; rw [e]
  rw [cellsR_append, cellsR_append, List.set_append, if_neg (by rw [cellsR_len, List.length_take]; omega), cellsR_len, List.length_take, Nat.min_eq_left (by omega), Nat.add_sub_cancel_left]
  congr 1
  show (l[k].cells ++ cellsR _).set i u = c.cells ++ cellsR _
  rw [List.set_append, if_pos (by simp [Rg.cells]; omega), hc]
def rgA (x : Rg) : Atom := rowA 3 1 x.von x.c.on.length (ints x.c.on)
def rParts (b : Nat) (vl : Value) (l : List Rg) : List Atom := blkA b #[vl] 43 :: rowA 45 3 vl l.length (cellsR l) :: l.map rgA
/-- these parts are the document's graph of the rows r behind pointer b -/
def IsR (b : Nat) (r : List Rc) (ps : List Atom) : Prop := ∃ vl l, ps = rParts b vl l ∧ l.map Rg.c = r
theorem IsR.cellAt {W : World} {ps : List Atom} {r : List Rc} {b : Nat} (hg : IsR b r ps) (ho : ∀ a ∈ ps, a.Q W) {k : Nat} (hk : k < r.length) : ∃ gl c von, W.cell? ⟨b, 0, none⟩ = some (.slice (some ⟨gl, 0, none⟩) r.length c) ∧
    W.cell? ⟨gl, k * 3, none⟩ = some (.int .i64 (r.getD k zr).buf) ∧ W.cell? ⟨gl, k * 3 + 1, none⟩ = some von ∧ W.cell? ⟨gl, k * 3 + 2, none⟩ = some (.bool (r.getD k zr).done) ∧ W.ownsRow 0 3 1 von (r.getD k zr).on.length (ints (r.getD k zr).on) := by
  obtain ⟨vl, l, rfl, h1⟩ := hg
  have hl : l.length = r.length := by rw [← h1, List.length_map]
  have hr : W.ownsRow 0 45 3 vl l.length (cellsR l) := ho (rowA 45 3 vl l.length (cellsR l)) (by simp [rParts])
  have hb : Blk W b #[vl] 43 := ho (blkA b #[vl] 43) (by simp [rParts])
  obtain ⟨A, c, rfl⟩ := own_slice hr
  obtain ⟨gl, rfl⟩ := row_form hr (by omega)
  have hk' : k < l.length := by omega
  have e : r.getD k zr = (l[k]).c := by simp [← h1, hk']
  have hc : ∀ i, i < 3 → W.cell? ⟨gl, k * 3 + i, none⟩ = (l[k].cells)[i]? := fun i hi => by rw [hr.cellAt (k * 3 + i) (by omega), cellsR_at hk' hi]
  have hon : W.ownsRow 0 3 1 l[k].von l[k].c.on.length (ints l[k].c.on) := ho (rgA l[k]) (by simp only [rParts, List.mem_cons, List.mem_map]; exact .inr (.inr ⟨_, List.getElem_mem hk', rfl⟩))
  rw [e]
  refine ⟨gl, c, l[k].von, by rw [← hl]; exact hb.cell 0, hc 0 (by omega), hc 1 (by omega), hc 2 (by omega), hon⟩
theorem IsR.slice {W : World} {ps : List Atom} {r : List Rc} {b : Nat} (hg : IsR b r ps) (ho : ∀ a ∈ ps, a.Q W) : ∃ A c, W.cell? ⟨b, 0, none⟩ = some (.slice A r.length c) := by
  obtain ⟨vl, l, rfl, h1⟩ := hg
  have hl : l.length = r.length := by rw [← h1, List.length_map]
  have hr : W.ownsRow 0 45 3 vl l.length (cellsR l) := ho (rowA 45 3 vl l.length (cellsR l)) (by simp [rParts])
  have hb : Blk W b #[vl] 43 := ho (blkA b #[vl] 43) (by simp [rParts])
  obtain ⟨A, c, rfl⟩ := own_slice hr
  exact ⟨A, c, by rw [← hl]; exact hb.cell 0⟩
def mayR (r : List Rc) (i : Nat) : Bool := mayAt r i && !(r.getD i zr).done
theorem cnt_zero {r : List Rc} {on : List Int} : cnt r on = 0 ↔ ∀ j, j < on.length → (rd r (on.getD j 0)).done = true := by
  unfold cnt
  rw [List.length_eq_zero_iff, List.filter_eq_nil_iff]
  constructor
  · intro h j hj
    have := h on[j] (List.getElem_mem hj)
    have e : on.getD j 0 = on[j] := by simp [hj]
    rw [e]; simpa using this
  · intro h x hx
    obtain ⟨j, hj, rfl⟩ := List.getElem_of_mem hx
    have := h j hj
    have e : on.getD j 0 = on[j] := by simp [hj]
    rw [e] at this; simp [this]
theorem mayR_no {r : List Rc} {i : Nat} (j : Nat) (hj : j < (r.getD i zr).on.length) (h : (rd r ((r.getD i zr).on.getD j 0)).done = false) : mayR r i = false := by
  unfold mayR mayAt
  rw [decide_eq_false (fun h0 => by rw [cnt_zero.1 h0 j hj] at h; cases h)]; rfl
theorem mayR_yes {r : List Rc} {i : Nat} (h : ∀ j, j < (r.getD i zr).on.length → (rd r ((r.getD i zr).on.getD j 0)).done = true) : mayR r i = !(r.getD i zr).done := by
  unfold mayR mayAt
  rw [decide_eq_true (cnt_zero.2 h)]; rfl
section
variable {n b : Nat} {w W : World} {F ps : List Atom} {r : List Rc}
set_option maxHeartbeats 4000000 in
theorem rmay_c (hg : IsR b r ps) (hw : WfR r) (hs : Sm r) (ho : Own n w W (ps ++ F)) (i : Nat) (hi : i < r.length) :
    Calls Try.prog 40 #[.pointer (some ⟨b, 0, none⟩), .int .i64 (i : Int)] W fun e W' => e = .returned (.bool (mayR r i)) ∧ Own n w W' (ps ++ F) := by
  obtain ⟨gl, c, von, x0, x1, x2, x3, hon⟩ := hg.cellAt (fun a ha => ho.hold a (List.mem_append_left _ ha)) hi
  obtain ⟨Ao, co, rfl⟩ := own_slice hon
  have HG := hide hg
  have HW := hide hw
  have hxon := hw.lt hi
  have honl := hs.on i hi
  have HNO := hide (fun j hj h => mayR_no (r := r) (i := i) j hj h)
  have HYES := hide (fun h => mayR_yes (r := r) (i := i) h)
  have p0 : (0 : Int) ≤ (i : Int) := by omega
  have p1 : (i : Int) < (r.length : Int) := by omega
  generalize (r.getD i zr).buf = bf at x1
  generalize (r.getD i zr).done = dn at x3 HYES
  generalize (r.getD i zr).on = on at x2 hon hxon honl HNO HYES
  have HO := hide (ho.newBlk #[.int .i64 bf, .slice Ao on.length co, .bool dn] 45)
  have HON := hide hon
  have HXO := hide hxon
  have HLEN := hide hs.len
  clear hg hw hs ho hon hxon
  go_enter Try.func40, Try.ntmps40
  go_upto_region 2 with (fail)
  have HB := hide (Ints.of_own (B := W.heap.size) HON.out (Nat.le_refl _))
  have HI1 := hide (HB.out.below ((Below.refl W.heap.size W).alloc (Nat.le_refl _) (.cells #[.int .i64 bf, .slice Ao on.length co, .bool dn] 45)) (Nat.le_refl _))
  generalize W.alloc (.cells #[.int .i64 bf, .slice Ao on.length co, .bool dn] 45) = W1 at HO HI1 ⊢
  generalize W.heap.size = cb at HO HI1 ⊢
  have HR1 := hide (fun (k : Nat) (hk : k < r.length) => HG.out.cellAt (W := W1) (fun a ha => HO.out.hold a (List.mem_cons_of_mem _ (List.mem_append_left _ ha))) hk)
  have hblk : Blk W1 cb #[.int .i64 bf, .slice Ao on.length co, .bool dn] 45 := HO.out.head
  have y1 : W1.cell? ⟨cb, 1, none⟩ = some (.slice Ao on.length co) := hblk.cell 1
  have y2 : W1.cell? ⟨cb, 2, none⟩ = some (.bool dn) := hblk.cell 2
  clear hblk HON HB x0 x1 x2 x3 p0 p1
  go_wp2
  go_loopw [6] (fun i wr => ∃ k : Nat, k ≤ on.length ∧ i = .int .i64 k ∧ (∃ q, wr = W1.drewN q) ∧ Hid (∀ j, j < k → (rd r (on.getD j 0)).done = true)) (fun i _ => on.length - (intOf i).toNat)
  case atStart => exact ⟨0, by omega, rfl, ⟨0, rfl⟩, hide (by intro j hj; omega)⟩
  case round =>
    obtain ⟨k, hk, rfl, ⟨q, rfl⟩, HK⟩ := hrel
    by_cases hlt : k < on.length
    · have hne : on ≠ [] := by intro e; rw [e] at hlt; simp at hlt
      obtain ⟨ba, oa, rfl, _, hc⟩ := HI1.out hne
      have z0 := hc k hlt
      have hmem : on.getD k 0 ∈ on := by
        have e : on.getD k 0 = on[k] := by simp [hlt]
        rw [e]; exact List.getElem_mem hlt
      have hx := HXO.out _ hmem
      have HS := hide (fun h : (rd r (on.getD k 0)).done = true => show ∀ j, j < k + 1 → (rd r (on.getD j 0)).done = true from fun j hj => by
        by_cases e : j = k
        · subst e; exact h
        · exact HK.out j (by omega))
      have HN := hide (fun h : (rd r (on.getD k 0)).done = false => HNO.out k hlt h)
      generalize on.getD k 0 = x at z0 hx HS HN
      obtain ⟨t, rfl⟩ := Int.eq_ofNat_of_zero_le hx.1
      obtain ⟨gl1, c1, v1, u0, -, -, u2, -⟩ := HR1.out t (by omega)
      have e2 : (r.getD t zr).done = (rd r (t : Int)).done := by unfold rd; rw [Int.toNat_natCast]
      rw [e2] at u2
      have o1 : (0 : Int) ≤ (k : Int) := by omega
      have o2 : (k : Int) < (on.length : Int) := by omega
      have o3 : (0 : Int) ≤ (t : Int) := by omega
      have o4 : (t : Int) < (r.length : Int) := by omega
      clear hc hne hmem hx e2
      cases hd : (rd r (t : Int)).done with
      | true =>
        rw [hd] at u2
        have HT := hide (HS.out hd)
        clear hd
        go_wp2
        go_quiet (fail)
        go_wp2
        go_roundw
        case rel => exact ⟨k + 1, by omega, by go_num, ⟨_, by first | rfl | (rw [World.drewN_drewN]; done)⟩, HT⟩
        case measure => simp [intOf]; omega
      | false =>
        rw [hd] at u2
        have HT := hide (HN.out hd)
        clear hd
        go_wp2
        go_quiet (fail)
        go_wp2
        go_ret
        exact ⟨by rw [HT.out]; rfl, by have := HO.out.tail.drewN q; have := this.drew; first | exact this | exact HO.out.tail.drewN _ | (rw [World.drewN_drewN]; exact HO.out.tail.drewN _)⟩
    · have HT := hide (HYES.out (fun j hj => HK.out j (by omega)))
      have o3 : ¬ (k : Int) < (on.length : Int) := by omega
      go_wp2
      go_ret
      exact ⟨by rw [HT.out]; rfl, HO.out.tail.drewN q⟩
end
end Go.Proofs.Ytlpdhmkcbdhelaa
