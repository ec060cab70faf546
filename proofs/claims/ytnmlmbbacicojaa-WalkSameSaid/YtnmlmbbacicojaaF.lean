/-
  The contract of renum.Index: the place of the first node of each inode. Conditions: the nodes are as they came in.
-/
import Derived.Test.YtnmlmbbacicojaaM
import Derived.Test.YtnmlmbbacicojaaE
namespace Go.Proofs.Ytnmlmbbacicojaa
set_option linter.unusedVariables false
set_option linter.unusedSimpArgs false
open Go.RowKit Go.Maps Go.Proofs.YtnmlmbbacicojaaW.PrintWords Go.Proofs.YtnmlmbbacicojaaW.PrintLast Go.Proofs.YtnmlmbbacicojaaW.PrintMore Go.Proofs.Ytnmlmbbacicojaa.PWalkSame

/-- the place of the first node of an inode -/
def atF (l : List S30) (x : Int) : Option Int := (l.findIdx? (fun n => n.f0 == x)).map (fun i : Nat => (i : Int))
theorem atF_lt {l : List S30} {x c : Int} (h : atF l x = some c) : ∃ i : Nat, c = (i : Int) ∧ ∃ hi : i < l.length, (l[i]).f0 = x := by
  unfold atF at h
  rw [Option.map_eq_some_iff] at h
  obtain ⟨i, hi, rfl⟩ := h
  obtain ⟨h1, h2, _⟩ := List.findIdx?_eq_some_iff_getElem.1 hi
  exact ⟨i, rfl, h1, by simpa using h2⟩
theorem atF_step {l : List S30} {k : Nat} (hk : k < l.length) (x : Int) : atF (l.take (k + 1)) x = match atF (l.take k) x with | some c => some c | none => if (l[k]).f0 = x then some (k : Int) else none := by
  unfold atF
  rw [List.take_succ_eq_append_getElem hk, List.findIdx?_append]
  cases h : (l.take k).findIdx? (fun n => n.f0 == x) with
  | some i => simp
  | none =>
    simp only [Option.none_or, Option.map_none]
    by_cases e : (l[k]).f0 = x
    · simp [List.findIdx?_cons, e]; omega
    · simp [List.findIdx?_cons, e]
theorem zero3 (w : World) : (zeroValue 3).run Try.prog w = .ok (.int .i64 0) w := by kernel_rfl
theorem zero4 (w : World) : (zeroValue 4).run Try.prog w = .ok (.bool false) w := by kernel_rfl

set_option maxHeartbeats 1000000 in
set_option maxRecDepth 100000 in
theorem index_c (A : Option Addr) (n c : Nat) (l : List S30) (w : World) (hn : l.length = n) (h : Kd.C k30 w A n l) (hc : n ≤ c) (hl : n ≤ 140737488355328) (hi : ∀ x ∈ l, (Lit.int .i64 x.f0).wf = true) :
    Calls Try.prog 27 #[.slice A n c] w fun e w' => ∃ b m, e = .returned (.map (some b)) ∧ w.heap.size ≤ b ∧ OwnII Try.prog 3 3 w' b m (atF l) ∧ m ≤ 140737488355328 ∧ Below w.heap.size w w' := by
  subst hn
  have H := hide h
  have HI := hide hi
  clear h hi
  have hmm := @run_makeMap Try.prog
  go_enter Try.func27, Try.ntmps27
  go_wp2
  go_loopw [11] (fun i wr => ∃ k : Nat, k ≤ l.length ∧ i = .int .i64 k ∧ OwnII Try.prog 3 3 wr w.heap.size k (atF (l.take k)) ∧ Below w.heap.size w wr) (fun i _ => l.length - (intOf i).toNat)
  case atStart => exact ⟨0, by omega, rfl, ⟨_, World.ownsMap_made _ _ _ _, MapII.none_⟩, (Below.refl _ _).alloc (Nat.le_refl _) _⟩
  case round =>
    obtain ⟨k, hk, rfl, hown, hbr⟩ := hrel
    by_cases hlt : k < l.length
    · obtain ⟨ad, A4, c4, A5, c5, e5, x0, x1, x2, x3, x4, x5, l4, g4, l5, g5⟩ := at_T30 H.out (k : Int) (by omega) (by omega)
      rw [rd30 hlt] at x0 x1 x2 x3 x4 x5 l4 g4 l5 g5
      rw [Int.toNat_natCast] at x0 x1 x2 x3 x4 x5
      subst e5
      replace x0 := (hbr.cell (World.block_lt_of_cell? w _ x0)).trans x0
      replace x1 := (hbr.cell (World.block_lt_of_cell? w _ x1)).trans x1
      replace x2 := (hbr.cell (World.block_lt_of_cell? w _ x2)).trans x2
      replace x3 := (hbr.cell (World.block_lt_of_cell? w _ x3)).trans x3
      replace x4 := (hbr.cell (World.block_lt_of_cell? w _ x4)).trans x4
      replace x5 := (hbr.cell (World.block_lt_of_cell? w _ x5)).trans x5
      have hwf := HI.out _ (List.getElem_mem hlt)
      have hst := fun x => atF_step hlt x
      generalize l[k] = y at x0 x1 x2 x3 x4 x5 hwf hst
      clear l4 g4 l5 g5
      have HO1 := hide (hown.kept (World.grownBy_alloc wr (.cells #[.int .i64 y.f0, .int .i64 y.f1, .int .i64 y.f2, .int .i64 y.f3, .slice A4 y.f4.length c4, .slice A5 y.f5.length c5] 30) none) (by simp))
      have hlk := HO1.out.look Try.underlying3 Try.underlying3 Try.underlying56 (zero3 _) y.f0 hwf
      cases hq : atF (l.take k) y.f0 with
      | some cc =>
        rw [hq] at hlk
        simp only [Option.getD_some, Option.isSome_some] at hlk
        have HE := hide (show atF (l.take (k + 1)) = atF (l.take k) by
          funext x
          rw [hst x]
          cases hx : atF (l.take k) x with
          | some c => rfl
          | none =>
            by_cases e : y.f0 = x
            · subst e; rw [hx] at hq; cases hq
            · simp [e])
        clear hq hst
        have HO := hide hown
        clear hown
        go_wp2
        go_roundw
        case rel => exact ⟨k + 1, by omega, by go_num, by rw [HE.out]; exact HO1.out.mono (by omega), hbr.alloc hbr.size _⟩
        case measure => simp [intOf]; omega
      | none =>
        rw [hq] at hlk
        simp only [Option.getD_none, Option.isSome_none] at hlk
        have HE := hide (show atF (l.take (k + 1)) = fun x => if x = y.f0 then some (k : Int) else atF (l.take k) x by
          funext x
          rw [hst x]
          cases hx : atF (l.take k) x with
          | some c =>
            by_cases e : x = y.f0
            · subst e; rw [hx] at hq; cases hq
            · simp [e]
          | none =>
            by_cases e : y.f0 = x
            · simp [e]
            · simp [e, Ne.symm e])
        clear hq hst
        obtain ⟨D, hD1, hD2⟩ := HO1.out
        have HO := hide hown
        clear hown
        go_wp2_with (at_mapUpdate; refine wpList_mapUpdate_own _ rfl _ _ _ 56 rfl 3 3 (int_keyed Try.underlying3) Try.underlying56 _ w.heap.size _ _ rfl hD1 (by unfold maxLen; omega) _ _ _ rfl rfl (keyOf_int_mk Try.underlying3 hwf) _ [] (plainElem_int Try.underlying3 (WalkArith.wf_i64 ⟨by omega, by omega⟩)) ?_; intro w1 hown1 hg1)
        go_roundw
        case rel => exact ⟨k + 1, by omega, by go_num, by rw [HE.out]; exact ⟨_, hown1, hD2.put _ _⟩, (hbr.alloc hbr.size _).grown hg1 (by have := hbr.size; simp; omega) (fun j hj => by cases hj; exact Nat.le_refl _)⟩
        case measure => simp [intOf]; omega
    · have hkn : k = l.length := by omega
      have HE := hide (show atF (l.take k) = atF l by rw [hkn, List.take_length])
      clear hkn
      have HO := hide hown
      clear hown
      go_wp2
      go_ret
      exact ⟨_, k, rfl, Nat.le_refl _, by rw [← HE.out]; exact HO.out, by omega, hbr⟩
end Go.Proofs.Ytnmlmbbacicojaa
