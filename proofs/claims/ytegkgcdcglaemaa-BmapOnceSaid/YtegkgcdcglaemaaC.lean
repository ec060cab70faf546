/-
  The contract of the document's own Meta: the same number. Condition: the slice reads as the list.
-/
import Derived.Test.YtegkgcdcglaemaaB
namespace Go.Proofs.Ytegkgcdcglaemaa
set_option linter.unusedSimpArgs false
set_option linter.unusedVariables false
open Go.RowKit Go.Maps

def used0 : Array Value := Array.replicate 256 (.bool false)
theorem zero36 (w : World) : (zeroValue 36).run Try.prog w = .ok (.agg used0) w := by kernel_rfl

def b2 (b : Bool) : Int := if b then 1 else 0
/-- what the document's Meta has gathered: the row of marks in block B, and three numbers -/
def Gath (w : World) (B : Nat) (S : List (Int × Int)) (s d m : Int) : Prop :=
  s = b2 (decide ((1, 0) ∈ S)) ∧ d = b2 (decide ((2, -1) ∈ S)) ∧ s + d + m = S.length ∧
  ∀ j : Nat, j < 256 → w.cell? ⟨B, j, none⟩ = some (.bool (decide (((2, (j : Int)) : Int × Int) ∈ S))) ∧ w.frozen? ⟨B, j, none⟩ = false
theorem Gath.none_ (w : World) : Gath (w.alloc (.cells used0 36)) w.heap.size [] 0 0 0 := by
  refine ⟨rfl, rfl, rfl, fun j hj => ?_⟩
  have : (w.alloc (.cells used0 36)).heap[w.heap.size]? = some (.cells used0 36 (0, 0)) := heap_alloc_new w _
  constructor
  · unfold World.cell?
    rw [this]
    simp [used0, hj]
  · unfold World.frozen?
    rw [this]
    simp

theorem Gath.single {w : World} {B : Nat} {S : List (Int × Int)} {s d m : Int} (h : Gath w B S s d m) : Gath w B (ins (1, 0) S) 1 d m := by
  obtain ⟨h1, h2, h3, h4⟩ := h
  unfold ins
  by_cases e : ((1, 0) : Int × Int) ∈ S
  · rw [if_pos e]
    have hs : s = 1 := by rw [h1]; simp [b2, e]
    subst hs
    exact ⟨by simp [b2, e], h2, h3, h4⟩
  · rw [if_neg e]
    have hs : s = 0 := by rw [h1]; simp [b2, e]
    subst hs
    refine ⟨by simp [b2], by rw [h2]; simp, by simp; omega, fun j hj => ?_⟩
    have := h4 j hj
    simpa using this
theorem b2_ins (S : List (Int × Int)) : b2 (decide (((2, -1) : Int × Int) ∈ ins (2, -1) S)) = 1 := by unfold ins; split <;> simp [b2, *]
theorem Gath.double1 {w : World} {B : Nat} {S : List (Int × Int)} {s d m : Int} (h : Gath w B S s d m) : Gath w B (ins (2, -1) S) s 1 m := by
  obtain ⟨h1, h2, h3, h4⟩ := h
  unfold ins
  by_cases e : ((2, -1) : Int × Int) ∈ S
  · rw [if_pos e]
    have hs : d = 1 := by rw [h2]; simp [b2, e]
    subst hs
    exact ⟨h1, by simp [b2, e], h3, h4⟩
  · rw [if_neg e]
    have hs : d = 0 := by rw [h2]; simp [b2, e]
    subst hs
    refine ⟨by rw [h1]; simp, by simp [b2], by simp; omega, fun j hj => ?_⟩
    have hne : ((j : Nat) : Int) ≠ -1 := by omega
    have := h4 j hj
    simpa [hne] using this
theorem mem_ins1 (S : List (Int × Int)) (q : Nat) : (((2, (q : Int)) : Int × Int) ∈ ins (2, -1) S) ↔ ((2, (q : Int)) : Int × Int) ∈ S := by
  have hne : ((q : Nat) : Int) ≠ -1 := by omega
  unfold ins; split <;> simp [hne]
theorem Gath.double_in {w : World} {B : Nat} {S : List (Int × Int)} {s d m : Int} (h : Gath w B S s d m) (q : Nat) (_hq : q < 256) (hin : ((2, (q : Int)) : Int × Int) ∈ S) :
    Gath w B (ins (2, (q : Int)) (ins (2, -1) S)) s 1 m := by
  have h' := h.double1
  have e : ins (2, (q : Int)) (ins (2, -1) S) = ins (2, -1) S := by
    generalize hT : ins (2, -1) S = T
    have : ((2, (q : Int)) : Int × Int) ∈ T := hT ▸ (mem_ins1 S q).2 hin
    unfold ins
    rw [if_pos this]
  rw [e]; exact h'
theorem Gath.double_out {w : World} {B : Nat} {S : List (Int × Int)} {s d m : Int} (h : Gath w B S s d m) (q : Nat) (hq : q < 256) (hin : ((2, (q : Int)) : Int × Int) ∉ S) :
    Gath (w.setCell ⟨B, q, none⟩ (.bool true)) B (ins (2, (q : Int)) (ins (2, -1) S)) s 1 (m + 1) := by
  have h' := h.double1
  have hin' : ((2, (q : Int)) : Int × Int) ∉ ins (2, -1) S := fun hh => hin ((mem_ins1 S q).1 hh)
  generalize ins (2, -1) S = T at h' hin'
  obtain ⟨h1, h2, h3, h4⟩ := h'
  have e : ins (2, (q : Int)) T = (2, (q : Int)) :: T := by unfold ins; rw [if_neg hin']
  rw [e]
  have hne : ((q : Nat) : Int) ≠ -1 := by omega
  refine ⟨by rw [h1]; simp, ?_, by simp; omega, fun j hj => ?_⟩
  · have : b2 (decide (((2, -1) : Int × Int) ∈ (2, (q : Int)) :: T)) = b2 (decide (((2, -1) : Int × Int) ∈ T)) := by simp [show (-1 : Int) ≠ (q : Int) by omega]
    rw [this]; exact h2
  · obtain ⟨c1, f1⟩ := h4 j hj
    refine ⟨?_, by rw [World.frozen?_setCell]; exact f1⟩
    by_cases ej : j = q
    · subst ej
      rw [World.cell?_setCell_same' _ _ _ (by rw [c1]; rfl)]
      try simp
    · rw [World.cell?_setCell_other _ _ _ _ (by simp [ej]), c1]
      simp [show ((j : Nat) : Int) ≠ (q : Int) by omega]

set_option maxHeartbeats 1000000 in
theorem metaR_c (A : Option Addr) (c : Nat) (zs : List Int) (w : World) (hz : Ints w.heap.size w A zs) (hi : ∀ n ∈ zs, I64 n) (hl : zs.length ≤ 1000000) :
    Calls Try.prog 10 #[.slice A zs.length c] w fun e w' => e = .returned (.int .i64 (metaS zs).length) ∧ Below w.heap.size w w' := by
  have hz36 := zero36
  go_enter Try.func10, Try.ntmps10
  go_wp2
  go_loopw [3, 5, 6, 7] (fun s m d i wr => ∃ (k : Nat) (s0 m0 d0 : Int), k ≤ zs.length ∧ i = .int .i64 k ∧ s = .int .i64 s0 ∧ m = .int .i64 m0 ∧ d = .int .i64 d0 ∧ Gath wr w.heap.size (metaS (zs.take k)) s0 d0 m0 ∧ 0 ≤ m0 ∧ m0 ≤ k ∧ Below w.heap.size w wr) (fun _ _ _ i _ => zs.length - (intOf i).toNat)
  case atStart => exact ⟨0, 0, 0, 0, by omega, rfl, rfl, rfl, rfl, Gath.none_ w, by omega, by omega, (Below.refl _ _).alloc (Nat.le_refl _) _⟩
  case round =>
    obtain ⟨k, s0, m0, d0, hk, rfl, rfl, rfl, rfl, hG, hm0, hmk, hbel⟩ := hrel
    by_cases hlt : k < zs.length
    · have hM := hide (metaS_take zs k hlt)
      obtain ⟨b, off, rfl, hb, hc⟩ := hz (by intro h; simp [h] at hlt)
      have hmem : zs.getD k 0 ∈ zs := by simp [hlt]
      have hn := hi _ hmem
      have hx := (hbel.cell (p := ⟨b, off + k, none⟩) hb).trans (hc k hlt)
      clear hc hmem
      generalize zs.getD k 0 = n at hn hx hM
      obtain ⟨hn1, hn2⟩ := hn
      have HG := hide hG
      clear hG
      rcases (show (n < 0 ∨ n ≥ 65800) ∨ (0 ≤ n ∧ n < 8) ∨ (8 ≤ n ∧ n < 264) ∨ (264 ≤ n ∧ n < 65800) by omega) with h0 | ⟨h0, h1⟩ | ⟨h0, h1⟩ | ⟨h0, h1⟩
      · have E := hide (show plN n = (0, 0, 0, false) by unfold plN; rw [if_pos h0])
        have F := hide (show metaStep (metaS (zs.take k)) n = metaS (zs.take k) by unfold metaStep; rw [if_pos (by omega)])
        go_wp2_with (go_at_call 14; refine (placeR_c n _ hn1 hn2).mono ?_; rintro e w' ⟨rfl, rfl⟩; rw [E.out]; simp only [plV])
        go_roundw
        case rel => exact ⟨k + 1, s0, m0, d0, by omega, by go_num, rfl, rfl, rfl, by rw [hM.out, F.out]; exact HG.out, hm0, by omega, hbel⟩
        case measure => simp [intOf]; omega
      · have E := hide (show plN n = (0, n, 0, true) by unfold plN; rw [if_neg (by omega), if_pos (by omega)])
        have F := hide (show metaStep (metaS (zs.take k)) n = metaS (zs.take k) by unfold metaStep; rw [if_pos (by omega)])
        go_wp2_with (go_at_call 14; refine (placeR_c n _ hn1 hn2).mono ?_; rintro e w' ⟨rfl, rfl⟩; rw [E.out]; simp only [plV])
        go_roundw
        case rel => exact ⟨k + 1, s0, m0, d0, by omega, by go_num, rfl, rfl, rfl, by rw [hM.out, F.out]; exact HG.out, hm0, by omega, hbel⟩
        case measure => simp [intOf]; omega
      · have E := hide (show plN n = (1, n - 8, 0, true) by unfold plN; rw [if_neg (by omega), if_neg (by omega), if_pos (by omega)])
        have F := hide (show metaStep (metaS (zs.take k)) n = ins (1, 0) (metaS (zs.take k)) by unfold metaStep; rw [if_neg (by omega), if_pos (by omega)])
        have G1 := hide HG.out.single
        go_wp2_with (go_at_call 14; refine (placeR_c n _ hn1 hn2).mono ?_; rintro e w' ⟨rfl, rfl⟩; rw [E.out]; simp only [plV])
        go_roundw
        case rel => exact ⟨k + 1, 1, m0, d0, by omega, by go_num, rfl, rfl, rfl, by rw [hM.out, F.out]; exact G1.out, hm0, by omega, hbel⟩
        case measure => simp [intOf]; omega
      · obtain ⟨q, hq⟩ : ∃ q : Nat, (n - 264) / 256 = (q : Int) := ⟨((n - 264) / 256).toNat, by omega⟩
        have hq1 : q < 256 := by omega
        have E := hide (show plN n = (2, (q : Int), (n - 264) % 256, true) by unfold plN; rw [if_neg (by omega), if_neg (by omega), if_neg (by omega), hq])
        have F := hide (show metaStep (metaS (zs.take k)) n = ins (2, (q : Int)) (ins (2, -1) (metaS (zs.take k))) by unfold metaStep; rw [if_neg (by omega), if_neg (by omega), hq])
        obtain ⟨hcq, hfq⟩ := HG.out.2.2.2 q hq1
        clear hq
        by_cases hin : ((2, (q : Int)) : Int × Int) ∈ metaS (zs.take k)
        · have G1 := hide (HG.out.double_in q hq1 hin)
          rw [decide_eq_true hin] at hcq
          clear hin
          go_wp2_with (go_at_call 14; refine (placeR_c n _ hn1 hn2).mono ?_; rintro e w' ⟨rfl, rfl⟩; rw [E.out]; simp only [plV])
          go_roundw
          case rel => exact ⟨k + 1, s0, m0, 1, by omega, by go_num, rfl, rfl, rfl, by rw [hM.out, F.out]; exact G1.out, hm0, by omega, hbel⟩
          case measure => simp [intOf]; omega
        · have G1 := hide (HG.out.double_out q hq1 hin)
          rw [decide_eq_false hin] at hcq
          clear hin
          go_wp2_with (go_at_call 14; refine (placeR_c n _ hn1 hn2).mono ?_; rintro e w' ⟨rfl, rfl⟩; rw [E.out]; simp only [plV])
          go_roundw
          case rel => exact ⟨k + 1, s0, m0 + 1, 1, by omega, by go_num, rfl, rfl, rfl, by rw [hM.out, F.out]; exact G1.out, by omega, by omega, hbel.setCell (p := ⟨w.heap.size, q, none⟩) (Nat.le_refl _) _⟩
          case measure => simp [intOf]; omega
    · have hkl : k = zs.length := by omega
      have hS : s0 + d0 + m0 = (metaS zs).length := by have := hG.2.2.1; rw [this, hkl, List.take_length]
      have hs0 : 0 ≤ s0 ∧ s0 ≤ 1 := by rw [hG.1]; unfold b2; split <;> omega
      have hd0 : 0 ≤ d0 ∧ d0 ≤ 1 := by rw [hG.2.1]; unfold b2; split <;> omega
      have HS := hide hS
      obtain ⟨hs1, hs2⟩ := hs0
      obtain ⟨hd1, hd2⟩ := hd0
      clear hkl hS hG
      go_wp2
      go_ret
      exact ⟨by rw [← HS.out]; rfl, hbel⟩
end Go.Proofs.Ytegkgcdcglaemaa
