/-
  The walks of Waits, Holders. Conditions: lengths.
-/
import Derived.Test.YtcmiboipgngjaaaO
import Derived.Test.YtcmiboipgngjaaaKs
namespace Go.Proofs.Ytcmiboipgngjaaa
set_option linter.unusedVariables false
set_option linter.unusedSimpArgs false
open Go.RowKit Go.Maps

def zl : Lk := ⟨0, 0, false⟩
section
variable {n : Nat} {w W : World} {F : List Atom} {g bt bw : Nat} {l l1 l2 : List Tm} {t : Tm} {f : Int → Option Lk} {M : (Int → Option Value) → Atom}
set_option maxHeartbeats 1000000 in
theorem waits_c (h : Own n w W (tPartsM M g bt bw l f ++ F)) (th : Int) (hw : (Lit.int .i64 th).wf = true) (hM : MapLike bt M := by first | assumption | exact mlike _) :
    Calls Try.prog 13 #[.pointer (some ⟨g, 0, none⟩), .int .i64 th] W fun e W' => e = .returned (.tuple #[((f th).getD zl).v, .bool (f th).isSome]) ∧ Own n w W' (tPartsM M g bt bw l f ++ F) := by
  have h1 := h.alloc (.cells #[.int .i64 0, .int .i64 0, .bool false] 27)
  obtain ⟨-, z1, -, -⟩ := tab_cells h1
  have hlk := look_waits h1 th hw
  have hv : (waitF f th).getD (.agg #[.int .i64 0, .int .i64 0, .bool false]) = ((f th).getD zl).v := by unfold waitF; cases f th <;> rfl
  rw [hv, waitF_some] at hlk
  generalize (f th).getD zl = x at hlk ⊢
  generalize (f th).isSome = bb at hlk ⊢
  have H := hide h
  clear h h1 hv
  unfold Lk.v at hlk ⊢
  go_enter Try.func13, Try.ntmps13
  go_wp2
  have hb : Blk ((W.alloc (.cells #[.int .i64 x.th, .int .i64 x.tg, .bool x.al] 27)).alloc (.cells #[.int .i64 x.th, .int .i64 x.tg, .bool x.al] 27)) W.heap.size #[.int .i64 x.th, .int .i64 x.tg, .bool x.al] 27 := (Blk.new W _ _).alloc _
  have q0 := hb.cell 0
  have q1 := hb.cell 1
  have q2 := hb.cell 2
  clear hb
  refine bodyPost_ret (v := .tuple #[.agg #[.int .i64 x.th, .int .i64 x.tg, .bool x.al], .bool bb]) (by simp [results, Try.results13, go_sem, q0, q1, q2]) rfl ⟨rfl, (H.out.alloc _).alloc _⟩
theorem info3 : (Try.prog.info? 3).map (fun i => (i.zero, i.size, i.bytes)) = some (some (.int .i64 0), 1, 8) := by kernel_rfl
def holdsT (l : List Tm) (k : Int) : List Lk := match l.find? (fun t => t.n == k) with | some t => t.h | none => []
theorem ints_snoc (l : List Int) (x : Int) : ints (l ++ [x]) = ints l ++ [.int .i64 x] := by simp [ints]
theorem cells_new (W : World) (u : Value) (ty : TypeId) : Cells (W.heap.size + 1) (W.alloc (.cells #[u] ty)) (some ⟨W.heap.size, 0, none⟩) [u] := fun _ => ⟨W.heap.size, 0, rfl, Nat.lt_succ_self _, fun i v hv => by
  cases i with
  | zero => simpa using hv
  | succ i => simp at hv⟩
theorem tm_lks {Ah : Option Addr} {m ch : Nat} (h : Own n w W (tPartsM M g bt bw (l1 ++ t :: l2) f ++ F)) (e1 : t.vh = .slice Ah t.h.length ch) : LksAt W Ah t.h := by
  obtain ⟨Ah', ch', Aw, cw, e1', e2, c0, c1, hk, -⟩ := tm_cells h
  rw [e1] at e1'
  injection e1' with e3 _ _
  rw [e3]; exact hk
set_option maxHeartbeats 2000000 in
set_option maxRecDepth 100000 in
theorem holders_c (h : Own n w W (tPartsM M g bt bw l f ++ F)) (k : Int) (hw : (Lit.int .i64 k).wf = true) (hl : ∀ t ∈ l, t.h.length < 1099511627776) (hM : MapLike bt M := by first | assumption | exact mlike _) :
    Calls Try.prog 15 #[.pointer (some ⟨g, 0, none⟩), .int .i64 k] W fun e W' => ∃ v, e = .returned v ∧ Own n w W' (rowA 3 1 v (sortI ((holdsT l k).map Lk.th)).length (ints (sortI ((holdsT l k).map Lk.th))) :: (tPartsM M g bt bw l f ++ F)) := by
  obtain ⟨z0, -, -, -⟩ := tab_cells h
  have hlk := look_things h k hw
  unfold holdsT
  cases hf : l.find? (fun t => t.n == k) with
  | none =>
    rw [locT_none hf] at hlk
    have H := hide h
    clear h
    go_enter Try.func15, Try.ntmps15
    go_wp2
    go_ret
    exact ⟨_, rfl, by rw [show (sortI (([] : List Lk).map Lk.th)) = [] from by simp [sortI]]; exact H.out.nilRow 3 1⟩
  | some t =>
    rw [locT_some hf] at hlk
    obtain ⟨e, l1, l2, rfl⟩ := find_split hf
    obtain ⟨Ah, ch, Aw, cw, e1, e2, c0, c1, hk, -⟩ := tm_cells h
    have hll := hl t (by simp)
    have HK := hide (fun V (h : Own n w V (tPartsM M g bt bw (l1 ++ t :: l2) f ++ F)) => tm_lks (m := 0) h e1)
    have H := hide (h.nilRow 3 1)
    have hsz := h.sz
    clear h hf e1 e2 c1 hk e hl
    dsimp only
    generalize t.x = x at c0 hlk
    obtain ⟨hs, hth⟩ : ∃ hs, t.h = hs := ⟨_, rfl⟩
    rw [hth] at c0 HK hll ⊢
    clear hth
    obtain ⟨i0, hi0, hz0, hz1, hz2⟩ := info_parts info3
    go_enter Try.func15, Try.ntmps15
    go_wp2
    go_loopg [6, 23] hs.length (fun mm v6 v23 wr => ∃ (j : Nat) (A6 : Option Addr) (c6 : Nat), mm = hs.length - j ∧ j ≤ hs.length ∧ v6 = .slice A6 j c6 ∧ v23 = .int .i64 j ∧ Hid (Own n w wr (rowA 3 1 (.slice A6 j c6) j (ints ((hs.take j).map Lk.th)) :: (tPartsM M g bt bw (l1 ++ t :: l2) f ++ F))))
    case atStart => exact ⟨0, none, 0, rfl, by omega, rfl, rfl, hide (by simpa [ints] using H.out)⟩
    case round =>
      obtain ⟨j, A6, c6, rfl, hj, rfl, rfl, HW⟩ := hrel
      by_cases hlt : j < hs.length
      · obtain ⟨gh, oh, rfl, hc⟩ := HK.out wr HW.out.tail (by intro e; rw [e] at hlt; simp at hlt)
        obtain ⟨u0, u1, u2⟩ := hc j hlt
        have HT := hide (show ints ((hs.take (j + 1)).map Lk.th) = ints ((hs.take j).map Lk.th) ++ [.int .i64 hs[j].th] by
          rw [List.take_succ_eq_append_getElem hlt, List.map_append]; exact ints_snoc _ _)
        generalize hs[j].th = y0 at u0 HT
        generalize hs[j].tg = y1 at u1
        generalize hs[j].al = y2 at u2
        have o1 : (0 : Int) ≤ (j : Int) := by omega
        have o2 : (j : Int) < (hs.length : Int) := by omega
        have HW2 := hide ((HW.out.alloc (.cells #[.int .i64 y0, .int .i64 y1, .bool y2] 27)).alloc (.cells #[.int .i64 y0] 3))
        have hrow := HW2.out.row
        have hsz2 := HW2.out.sz
        have HCN := hide (show Cells (wr.heap.size + 2) ((wr.alloc (.cells #[.int .i64 y0, .int .i64 y1, .bool y2] 27)).alloc (.cells #[.int .i64 y0] 3)) (some ⟨wr.heap.size + 1, 0, none⟩) [.int .i64 y0] by have := cells_new (wr.alloc (.cells #[.int .i64 y0, .int .i64 y1, .bool y2] 27)) (.int .i64 y0) 3; simpa using this)
        clear hc
        go_wp2_with (at_builtin; go_must (refine wpList_append_src _ rfl _ _ 28 rfl n 3 i0 (.int .i64 0) 1 8 Try.underlying28 hi0 hz0 hz1 hz2 rfl (by decide) _ j _ rfl hrow _ _ 1 1 [.int .i64 y0] rfl rfl HCN.out (by simp [Value.oneCell']) (by unfold maxLen; omega) (by omega) hsz2 ?_); intro v' w1 hown hg hat; have HG := hide (And.intro hown (And.intro hg hat)); obtain ⟨A7, c7, rfl⟩ := own_slice hown; clear hown hg hat)
        go_roundg (hs.length - (j + 1))
        case measure => omega
        case rel => exact ⟨j + 1, A7, c7, by omega, by omega, rfl, by go_num, hide (by rw [HT.out]; exact Own.growRow HW2.out HG.out.1 HG.out.2.1 HG.out.2.2)⟩
      · obtain rfl : j = hs.length := by omega
        have o1 : ¬ (hs.length : Int) < (hs.length : Int) := by omega
        have hfull := HW.out
        rw [List.take_of_length_le (Nat.le_refl _)] at hfull
        have hml : (hs.map Lk.th).length = hs.length := List.length_map _
        have HS := hide (sort34_c (xs := hs.map Lk.th) (A := A6) (c := c6) (by rw [hml]; exact hfull) (by omega))
        rw [hml] at HS
        clear hfull
        go_wp2_with (go_at_call 34; refine HS.out.mono ?_; rintro e w2 ⟨rfl, h2⟩; have H2 := hide h2; clear h2)
        go_ret
        exact ⟨_, rfl, by rw [sortI_len, hml]; exact H2.out⟩
end
end Go.Proofs.Ytcmiboipgngjaaa
