/-
  The walks of is, Done, Bufs and Ready. Conditions: the graph's numbers are in their bounds.
-/
import Derived.Test.YtlpdhmkcbdhelaaCl
namespace Go.Proofs.Ytlpdhmkcbdhelaa
set_option linter.unusedVariables false
set_option linter.unusedSimpArgs false
open Go.RowKit Go.Maps

section
variable {n g : Nat} {w W : World} {F ps : List Atom} {st : St}
def isB (st : St) (id : Int) : Bool := decide (0 ≤ id) && decide (id < (st.l.length : Int))
theorem is_c (hg : IsG g st ps) (ho : ∀ a ∈ ps, a.Q W) (hf : Fit st) (id : Int) : Calls Try.prog 30 #[.pointer (some ⟨g, 0, none⟩), .int .i64 id] W fun e W' => e = .returned (.bool (isB st id)) ∧ W = W' := by
  obtain ⟨vl, bb, nb, hb, A, c, rfl⟩ : ∃ vl bb nb, Blk W g #[vl, .map (some bb), .int .i64 st.opn, .map (some nb)] 58 ∧ ∃ A c, vl = .slice A st.l.length c := by
    obtain ⟨vl, l, bb, nb, bs, rfl, h1, h2, h3⟩ := hg
    have hl : l.length = st.l.length := by rw [← h1, List.length_map]
    have hr : W.ownsRow 0 60 5 vl l.length (cellsL l) := ho (rowA 60 5 vl l.length (cellsL l)) (by simp [gParts])
    obtain ⟨A, c, rfl⟩ := own_slice hr
    exact ⟨.slice A l.length c, bb, nb, ho (blkA g #[.slice A l.length c, .map (some bb), .int .i64 st.opn, .map (some nb)] 58) (by simp [gParts]), A, c, by rw [hl]⟩
  have hl := hf.len
  have z : W.cell? ⟨g, 0, none⟩ = some (.slice A st.l.length c) := hb.cell 0
  clear hb hg ho hf
  by_cases h0 : 0 ≤ id
  · by_cases h1 : id < (st.l.length : Int)
    · have HE := hide (show isB st id = true by unfold isB; simp [h0, h1])
      go_enter Try.func30, Try.ntmps30
      go_wp2
      go_ret
      exact ⟨by rw [HE.out]; rfl, rfl⟩
    · have HE := hide (show isB st id = false by unfold isB; simp [h0, h1])
      have h1' : (st.l.length : Int) ≤ id := by omega
      have hd : decide (id < (st.l.length : Int)) = false := by simp [h1]
      go_enter Try.func30, Try.ntmps30
      go_wp2
      go_ret
      exact ⟨by rw [HE.out]; rfl, rfl⟩
  · have HE := hide (show isB st id = false by unfold isB; simp [h0])
    have hd : decide (0 ≤ id) = false := by simp [h0]
    go_enter Try.func30, Try.ntmps30
    go_wp2
    go_ret
    exact ⟨by rw [HE.out]; rfl, rfl⟩
def doneS (st : St) (id : Int) : Bool := isB st id && (at_ st id).done
theorem done_c (hg : IsG g st ps) (ho : ∀ a ∈ ps, a.Q W) (hf : Fit st) (id : Int) : Calls Try.prog 24 #[.pointer (some ⟨g, 0, none⟩), .int .i64 id] W fun e W' => e = .returned (.bool (doneS st id)) ∧ W = W' := by
  have HI := hide (is_c hg ho hf id)
  have hl := hf.len
  cases hi : isB st id with
  | false =>
    have HD := hide (show doneS st id = false by unfold doneS; rw [hi]; rfl)
    rw [hi] at HI
    clear hi hg ho hf
    go_enter Try.func24, Try.ntmps24
    go_wp2_with (go_at_call 30; refine HI.out.mono ?_; rintro e w' ⟨rfl, rfl⟩)
    go_ret
    exact ⟨by rw [HD.out]; rfl, rfl⟩
  | true =>
    have hb : 0 ≤ id ∧ id < st.l.length := by unfold isB at hi; simpa using hi
    obtain ⟨i, rfl⟩ := Int.eq_ofNat_of_zero_le hb.1
    have hil : i < st.l.length := by omega
    have HD := hide (show doneS st (i : Int) = st.l[i].done by unfold doneS at_; rw [hi]; simp [hil])
    rw [hi] at HI
    obtain ⟨gl, vl, cl, bb, nb, von, vto, rfl, x0, -, -, -, -, x4, -⟩ := hg.cellAt ho hil
    have o3 : (0 : Int) ≤ (i : Int) := by omega
    have o4 : (i : Int) < (st.l.length : Int) := by omega
    clear hi hg ho hf hb
    generalize st.l[i].done = d at x4 HD
    go_enter Try.func24, Try.ntmps24
    go_wp2_with (go_at_call 30; refine HI.out.mono ?_; rintro e w' ⟨rfl, rfl⟩)
    go_ret
    exact ⟨by rw [HD.out]; rfl, rfl⟩
theorem bufs_c (hg : IsG g st ps) (ho : Own n w W (ps ++ F)) (hf : Fit st) : Calls Try.prog 22 #[.pointer (some ⟨g, 0, none⟩)] W fun e W' => ∃ v xs, e = .returned v ∧ Rising xs ∧ (∀ x, x ∈ xs ↔ (st.bufs x).isSome = true) ∧ Own n w W' (rowA 3 1 v xs.length (ints xs) :: (ps ++ F)) := by
  obtain ⟨vl, l, bb, nb, bs, rfl, h1, h2, h3⟩ := hg
  have hb : Blk W g #[vl, .map (some bb), .int .i64 st.opn, .map (some nb)] 58 := ho.hold (blkA g #[vl, .map (some bb), .int .i64 st.opn, .map (some nb)] 58) (by simp [gParts])
  obtain ⟨s, hm⟩ : ∃ s, OwnV Try.prog 3 W bb (locF bs) s := ho.hold (mpA bb (locF bs)) (by simp [gParts])
  have hs := hf.bufsSize h2 hm
  have hl := hf.len
  have z : W.cell? ⟨g, 1, none⟩ = some (.map (some bb)) := hb.cell 1
  have HS := hide (sortedS_c W.heap.size bb s (locF bs) (W.alloc (.cells #[.map (some bb)] 54)) (cellNew _ _ _) (hm.alloc _) (by omega))
  have HO := hide ho
  have H2 := hide h2
  clear hb hm h2 ho h1 h3 hf
  go_enter Try.func22, Try.ntmps22
  go_wp2_with (first | (go_at_call 38; refine (keys38_c _ _).mono ?_; rintro e w' ⟨rfl, rfl⟩) | (go_at_call 34; refine HS.out.mono ?_; rintro e w5 ⟨v, xs, rfl, hr, hx, hrow, hb5⟩; have HR := hide (And.intro hr (And.intro hx (And.intro hrow hb5))); clear hr hx hrow hb5))
  go_ret
  obtain ⟨hr, hx, hrow, hb5⟩ := HR.out
  exact ⟨v, xs, rfl, hr, fun x => (hx x).trans (by rw [locF_isSome, H2.out]; cases bsAt bs x <;> exact Iff.rfl), (HO.out.alloc _).moreRow hb5 hrow⟩
theorem ready_c (hg : IsG g st ps) (ho : Own n w W (ps ++ F)) (hf : Fit st) : Calls Try.prog 16 #[.pointer (some ⟨g, 0, none⟩)] W fun e W' => ∃ v xs, e = .returned v ∧ Rising xs ∧ (∀ x, x ∈ xs ↔ (st.next x).isSome = true) ∧ Own n w W' (rowA 3 1 v xs.length (ints xs) :: (ps ++ F)) := by
  obtain ⟨vl, l, bb, nb, bs, rfl, h1, h2, h3⟩ := hg
  have hb : Blk W g #[vl, .map (some bb), .int .i64 st.opn, .map (some nb)] 58 := ho.hold (blkA g #[vl, .map (some bb), .int .i64 st.opn, .map (some nb)] 58) (by simp [gParts])
  obtain ⟨s, hm⟩ : ∃ s, OwnV Try.prog 3 W nb (intF st.next) s := ho.hold (mpA nb (intF st.next)) (by simp [gParts])
  have hs := hf.nextSize hm
  have hl := hf.len
  have z : W.cell? ⟨g, 3, none⟩ = some (.map (some nb)) := hb.cell 3
  have HS := hide (sortedI_c W.heap.size nb s (intF st.next) (W.alloc (.cells #[.map (some nb)] 55)) (cellNew _ _ _) (hm.alloc _) (by omega))
  have HO := hide ho
  clear hb hm h2 ho h1 h3 hf
  go_enter Try.func16, Try.ntmps16
  go_wp2_with (first | (go_at_call 35; refine (keys35_c _ _).mono ?_; rintro e w' ⟨rfl, rfl⟩) | (go_at_call 34; refine HS.out.mono ?_; rintro e w5 ⟨v, xs, rfl, hr, hx, hrow, hb5⟩; have HR := hide (And.intro hr (And.intro hx (And.intro hrow hb5))); clear hr hx hrow hb5))
  go_ret
  obtain ⟨hr, hx, hrow, hb5⟩ := HR.out
  exact ⟨v, xs, rfl, hr, fun x => (hx x).trans (by unfold intF; cases st.next x <;> exact Iff.rfl), (HO.out.alloc _).moreRow hb5 hrow⟩
end
end Go.Proofs.Ytlpdhmkcbdhelaa
