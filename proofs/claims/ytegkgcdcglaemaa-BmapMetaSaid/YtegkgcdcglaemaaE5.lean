/-
  The walk of the law BmapMeta: it answers true at every input.
-/
import Derived.Test.YtegkgcdcglaemaaD
import Derived.Deep.QuietTactic
import Derived.BigQuiet
import Derived.WalkSmall
namespace Go.Proofs.Ytegkgcdcglaemaa
set_option linter.unusedSimpArgs false
set_option linter.unusedVariables false
open Go.RowKit Go.Maps

theorem info3 : (Try.prog.info? 3).map (fun i => (i.zero, i.size, i.bytes)) = some (some (.int .i64 0), 1, 8) := by kernel_rfl

set_option maxHeartbeats 1000000 in
theorem BmapMeta_walk (w : World) (A : Option Addr) (len cap : Nat) (zs : List Int) (hl : zs.length = len) (_ : len ≤ maxLen) (hwf : ∀ n ∈ zs, (Lit.int .i64 n).wf = true)
    (hz : zs ≠ [] → ∃ x, A = some x ∧ x.block < w.heap.size ∧ ∀ j, j < zs.length → w.cell? (x.add j) = some (.int .i64 (zs.getD j 0))) :
    Calls Try.prog 3 #[.slice A len cap] w fun e w' => e = .returned (.bool true) ∧ Below w.heap.size w w' := by
  have hi := hide (fun n hn => i64_of_wf (hwf n hn))
  have HZ := hide (Ints.of_open hz)
  clear hz hwf
  by_cases hbig : 500 < len
  · have hbig' : (500 : Int) < (len : Int) := by omega
    clear hl
    go_enter Try.func3, Try.ntmps3
    go_wp2_with (go_at_call 8; refine (alive_c _).mono ?_; rintro e w1 ⟨rfl, hb⟩)
    go_ret
    exact ⟨rfl, hb⟩
  have hs : (len : Int) ≤ 500 := by omega
  have HL := hide hl
  clear hl hbig
  obtain ⟨i0, hi0, hz0, hz1, hz2⟩ := info_parts info3
  go_enter Try.func3, Try.ntmps3
  go_wp2_with (first | (go_at_call 8; refine (alive_c _).mono ?_; rintro e w1 ⟨rfl, hb⟩) | (at_builtin; go_must (refine wpList_append_src _ rfl _ _ 22 rfl w.heap.size 3 i0 (.int .i64 0) 1 8 Try.underlying22 hi0 hz0 hz1 hz2 rfl (by decide) (.slice none 0 0) 0 [] rfl (World.ownsRow_nil _ _ _ _) w.heap.size A len cap (zs.map (Value.int .i64)) rfl ?c1 ?c2 ?c3 ?c4 ?c5 ?c6 ?_)))
  case c1 => simp [HL.out]
  case c2 => exact (HZ.out.below hb (Nat.le_refl _)).cells
  case c3 => exact ints_oneCell _ _
  case c4 => unfold maxLen; omega
  case c5 => omega
  case c6 => exact hb.size
  intro v w2 hown hg _
  have hb2 := below_append hb (World.ownsRow_nil w1 w.heap.size 3 1) hg hb.size
  try simp only [Nat.zero_add, List.nil_append] at hown
  obtain ⟨A2, c2, rfl⟩ := own_slice hown
  have HO := hide (Ints.of_own hown (Nat.le_refl _))
  have HZ2 := hide (HZ.out.below hb2 (Nat.le_refl _))
  clear hown hg hb
  go_wp2_with (go_at_call 9; go_must (refine (meta_n A2 len c2 zs _ HL.out HO.out hi.out (by omega)).mono ?_); rintro e w3 ⟨rfl, hb3⟩)
  have hsz := hb2.size
  have HO3 := hide (HO.out.below hb3 (Nat.le_refl _))
  have HZ3 := hide (HZ2.out.below hb3 hsz)
  have hb4 := hb2.trans (hb3.mono hsz)
  have hsz3 : w.heap.size ≤ w3.heap.size := hb4.size
  have hsz4 : w.heap.size ≤ w3.heap.size := hsz3
  have hHO3 := hide (HO3.out.more hb3.size)
  clear HO HZ2 hb2 hb3 HZ
  go_loopw [6] (fun i wr => ∃ k : Nat, k ≤ len ∧ i = .int .i64 k ∧ Below w3.heap.size w3 wr) (fun i _ => len - (intOf i).toNat)
  case atStart => exact ⟨0, by omega, rfl, Below.refl _ _⟩
  case round =>
    obtain ⟨k, hk, rfl, hbr⟩ := hrel
    by_cases hlt : k < len
    · obtain ⟨b, off, hA, hblt, hc⟩ := HZ3.out (by intro h; have := HL.out; simp [h] at this; omega)
      obtain ⟨b2, off2, hA2, hb2lt, hc2⟩ := hHO3.out (by intro h; have := HL.out; simp [h] at this; omega)
      have x1 := (hbr.cell (p := ⟨b, off + k, none⟩) (show b < _ by omega)).trans (hc k (by rw [HL.out]; exact hlt))
      have x2 := (hbr.cell (p := ⟨b2, off2 + k, none⟩) (show b2 < _ by omega)).trans (hc2 k (by rw [HL.out]; exact hlt))
      clear hc hc2
      generalize zs.getD k 0 = x at x1 x2
      subst hA
      subst hA2
      have x0 : (0 : Int) ≤ (k : Int) := by omega
      have x3 : (k : Int) < (len : Int) := by omega
      go_wp2
      go_quiet (fail)
      go_wp2
      go_roundw
      case rel => exact ⟨k + 1, by omega, by go_num, by first | exact hbr | exact below_drewN hbr _⟩
      case measure => simp [intOf]; omega
    · have hkl : (len : Int) ≤ (k : Int) := by omega
      have hA3 := hide (((HZ3.out.more hsz4).below hbr (Nat.le_refl _)).more hbr.size)
      have hb5 := hb4.trans (hbr.mono hsz3)
      go_wp2_with (go_at_call 10; go_must (refine (metaR_n A len cap zs _ HL.out hA3.out hi.out (by omega)).mono ?_); rintro e w4 ⟨rfl, hb6⟩)
      go_ret
      exact ⟨by simp, hb5.trans (hb6.mono (Nat.le_trans hsz3 hbr.size))⟩
end Go.Proofs.Ytegkgcdcglaemaa
