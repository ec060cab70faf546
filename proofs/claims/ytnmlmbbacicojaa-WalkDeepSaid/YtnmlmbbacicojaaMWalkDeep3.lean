/-
  A chain of directories: its paths, and where they lead. No program in sight.
  The machine side of functions of a law, written by a program of this session out of the translation (see hp.py).
  The machine side of functions of a law, written by a program of this session out of the translation (see hp.py).
  The plain law of WalkDeep: no program in sight.
-/
import Derived.Test.YtnmlmbbacicojaaMB2
import Derived.Test.YtnmlmbbacicojaaProg
import Derived.Below
import Derived.Deep.Draws
import Derived.Deep.AppendLies
import Derived.Maps.AppendAt
import Derived.OwnWalk
import Derived.Laws.BytesArg
import Derived.Laws.MakeOwn
import Derived.Laws.OwnMore
import Derived.Deep.OwnRows
import Derived.Tactics
import Derived.Lib.ConvBytes
import Derived.Laws.Slices
import Derived.WalkKit
import Derived.KernelRfl
import Derived.RowKit3
import Derived.Deep.LoopGhost
import Derived.Deep.QuietTactic
import Derived.BigQuiet
import Derived.WideLaws
import Derived.Deep.DeepCutAuto
import Derived.Deep.CutBlock
import Derived.Deep.RegionHeld3
import Derived.Laws.Rows
import Derived.Lib.AppendStr
import Derived.ArgAppend
import Derived.Laws.IdiomCopy
import Derived.OrdersHeld
import Derived.Laws.BitsLemmas
import Derived.RowKit
import Derived.Test.YtnmlmbbacicojaaWWords
import Derived.Test.YtnmlmbbacicojaaWLast
import Derived.Test.YtnmlmbbacicojaaWTab
import Derived.Test.YtnmlmbbacicojaaWFour
import Derived.Test.YtnmlmbbacicojaaWQPut
import Derived.Test.YtnmlmbbacicojaaWApart
import Derived.Test.YtnmlmbbacicojaaWArr
import Derived.Test.YtnmlmbbacicojaaWZeros
import Derived.Test.YtnmlmbbacicojaaWFoot
import Derived.Test.YtnmlmbbacicojaaWKept
import Derived.Test.YtnmlmbbacicojaaWShare
import Derived.Test.YtnmlmbbacicojaaWN
import Derived.Test.YtnmlmbbacicojaaWFootNe
import Derived.Test.YtnmlmbbacicojaaWAt
import Derived.Test.YtnmlmbbacicojaaWEqStruct
import Derived.Test.YtnmlmbbacicojaaWRepsOne
import Derived.Test.YtnmlmbbacicojaaWInv
import Derived.Test.YtnmlmbbacicojaaWInvWords
import Derived.Test.YtnmlmbbacicojaaWGuard
import Derived.Test.YtnmlmbbacicojaaWNEv
import Derived.Test.YtnmlmbbacicojaaWMore
import Derived.Test.YtnmlmbbacicojaaPWalkSamex0
import Derived.Test.YtnmlmbbacicojaaPWalkSamex1
import Derived.Test.YtnmlmbbacicojaaPWalkSamex2
import Derived.Test.YtnmlmbbacicojaaPWalkSamex3
import Derived.Test.YtnmlmbbacicojaaPWalkSamex4
namespace Go.Proofs.Ytnmlmbbacicojaa
set_option linter.unusedVariables false
set_option linter.unusedSimpArgs false
open Go.RowKit Go.Maps Go.Proofs.YtnmlmbbacicojaaW.PrintWords Go.Proofs.YtnmlmbbacicojaaW.PrintLast Go.Proofs.YtnmlmbbacicojaaW.PrintMore Go.Proofs.Ytnmlmbbacicojaa.PWalkSame

instance (x : S35) : Decidable (PartOk x) := by unfold PartOk; infer_instance
instance (x : S32) : Decidable (EntOk x) := by unfold EntOk; infer_instance
instance (x : S30) : Decidable (NodeOk x) := by unfold NodeOk; infer_instance
instance (xs : List S30) : Decidable (NodesOk xs) := by unfold NodesOk; infer_instance
theorem kdR_strings {w : World} {base n : Nat} {v : Value} {xs : List ByteArray} (h : w.ownsRow base 9 1 v n (xs.map Value.string)) : Kd.R Kd.string 9 w base (fun _ => True) v xs := by
  have hn : n = xs.length := by have := h.1; simpa using this.symm
  subst hn
  refine ⟨fun _ _ => trivial, xs.map Value.string, h, by simp [Kd.string, Kd.scalar], fun j p hp => ?_⟩
  obtain ⟨hj, rfl⟩ := List.getElem?_eq_some_iff.1 hp
  show ((xs.map Value.string).drop (j * 1)).take 1 = [Value.string xs[j]]
  rw [Nat.mul_one, ← List.map_drop, ← List.map_take, List.drop_eq_getElem_cons hj]
  rfl
def nm (m : Nat) : Bytes8 := List.replicate m 100
def sd (m : Nat) : ByteArray := bs (nm m)
def dnode (m i : Nat) : S30 := ⟨(i : Int) + 1, 2, 0, 0, [], [⟨(i : Int) + 2, sd m⟩]⟩
def dlast (n : Nat) : S30 := ⟨(n : Int) + 1, 1, 0, 0, [], []⟩
def chain (m n : Nat) : List S30 := (List.range n).map (dnode m) ++ [dlast n]
def pathB (m j : Nat) : Bytes8 := (List.replicate j (47 :: nm m)).flatten
def pth (m j : Nat) : ByteArray := bs (pathB m j)
theorem nm_len (m : Nat) : (nm m).length = m := by simp [nm]
theorem pathB_len (m j : Nat) : (pathB m j).length = j * (m + 1) := by unfold pathB; simp [nm_len]
theorem pathB_succ (m j : Nat) : pathB m (j + 1) = pathB m j ++ 47 :: nm m := by unfold pathB; rw [List.replicate_succ', List.flatten_append]; simp
theorem next_pth (m j : Nat) : nextS (pth m j) (sd m) = pth m (j + 1) := by
  have h : (nextS (pth m j) (sd m)).data.toList = pathB m (j + 1) := by
    rw [pathB_succ]; unfold nextS pth sd; simp [ByteArray.data_append]
  rw [← bs_of (nextS (pth m j) (sd m)), h]; rfl
theorem pth_size (m j : Nat) : (pth m j).size = j * (m + 1) := by unfold pth; rw [bs_size, pathB_len]
theorem chain_len (m n : Nat) : (chain m n).length = n + 1 := by simp [chain]
theorem chain_get {m n i : Nat} (h : i < n) (h' : i < (chain m n).length) : (chain m n)[i] = dnode m i := by
  have : (chain m n)[i]? = some (dnode m i) := by unfold chain; rw [List.getElem?_append_left (by simpa using h)]; simp [h]
  exact (List.getElem?_eq_some_iff.1 this).2
theorem chain_last {m n : Nat} (h' : n < (chain m n).length) : (chain m n)[n] = dlast n := by
  have : (chain m n)[n]? = some (dlast n) := by unfold chain; rw [List.getElem?_append_right (by simp)]; simp
  exact (List.getElem?_eq_some_iff.1 this).2
theorem chain_f0 {m n i : Nat} (h' : i < (chain m n).length) : ((chain m n)[i]).f0 = (i : Int) + 1 := by
  have := chain_len m n
  by_cases e : i < n
  · rw [chain_get e]; rfl
  · obtain rfl : i = n := by omega
    rw [chain_last]; rfl
theorem chain_at {m n i : Nat} (h : i ≤ n) : atF (chain m n) ((i : Int) + 1) = some (i : Int) := by
  have hl := chain_len m n
  exact atF_hit (by omega) (chain_f0 _) fun j hj hji => by rw [chain_f0]; omega
theorem slots_dn {m n f i : Nat} (hi : i < n) (st : St) (hs : st.2 (i : Int) = false) : dn (chain m n) (f + 1) i (pth m i) st = slotsF (dn (chain m n) f) (chain m n) (pth m i) [⟨(i : Int) + 2, sd m⟩] (into st i) := by
  have hl := chain_len m n
  conv => lhs; unfold dn
  have hg : (chain m n).getD i z30 = dnode m i := by simp [show i < (chain m n).length by omega]; exact chain_get hi _
  rw [hg, if_neg (by simp [hs, dnode])]
  rfl
theorem dn_chain (m n : Nat) (hn : n ≤ 60) : ∀ (f i : Nat) (st : St), i ≤ n → n - i < f → st.1.length = i → (∀ j : Nat, i ≤ j → st.2 (j : Int) = false) →
    ∃ g, dn (chain m n) f i (pth m i) st = (true, st.1 ++ (List.range (min n (500 / (m + 1)) - i)).map (fun t => pth m (i + 1 + t)), g) := by
  intro f
  have hl := chain_len m n
  induction f with
  | zero => intro i st _ h; omega
  | succ f ih =>
    intro i st hi hf hlen hst
    by_cases e : i = n
    · subst e
      refine ⟨st.2, ?_⟩
      have hg : (chain m i).getD i z30 = dlast i := by simp [show i < (chain m i).length by omega]; exact chain_last _
      unfold dn
      rw [hg, if_pos (.inr (by simp [dlast])), show min i (500 / (m + 1)) - i = 0 by omega]
      simp
    · have hlt : i < n := by omega
      rw [slots_dn hlt st (hst i (Nat.le_refl _))]
      have hsz : (nextS (pth m i) (sd m)).size = (i + 1) * (m + 1) := by rw [next_pth, pth_size]
      unfold slotsF
      have hmul := Nat.le_div_iff_mul_le (x := i + 1) (y := 500) (k := m + 1) (by omega)
      by_cases hbig : 500 < (i + 1) * (m + 1)
      · refine ⟨(into st i).2, ?_⟩
        rw [if_pos (.inr (by rw [hsz]; exact hbig))]
        unfold slotsF
        rw [show min n (500 / (m + 1)) - i = 0 by omega]
        simp [into]
      · rw [if_neg (fun h => h.elim (fun h => by dsimp only at h; omega) (fun h => by rw [hsz] at h; exact hbig h)), if_neg (show ¬ (into st i).1.length = 10000 by show ¬ st.1.length = 10000; omega)]
        have ha : atF (chain m n) ((i : Int) + 2) = some ((i + 1 : Nat) : Int) := by
          have := chain_at (m := m) (n := n) (i := i + 1) (by omega)
          rw [show ((i : Int) + 2) = ((i + 1 : Nat) : Int) + 1 by omega]; exact this
        rw [next_pth]
        simp only [ha, Int.toNat_natCast]
        obtain ⟨g, hg⟩ := ih (i + 1) ((into st i).1 ++ [pth m (i + 1)], (into st i).2) (by omega) (by omega) (by simp [into]; omega) (fun j hj => by
          show (if (j : Int) = (i : Int) then true else st.2 (j : Int)) = false
          rw [if_neg (by omega)]; exact hst j (by omega))
        rw [hg]
        refine ⟨g, ?_⟩
        rw [if_pos rfl]
        unfold slotsF
        have hr : min n (500 / (m + 1)) - i = (min n (500 / (m + 1)) - (i + 1)) + 1 := by omega
        rw [hr, List.range_succ_eq_map]
        simp [into, List.map_map, Function.comp_def]
        intro a _
        rw [show i + 1 + 1 + a = i + 1 + (a + 1) by omega]
theorem paths_chain (m n : Nat) (hn : n ≤ 60) : pathsF (chain m n) = (List.range (min n (500 / (m + 1)))).map (fun t => pth m (t + 1)) := by
  unfold pathsF
  have h1 := chain_at (m := m) (n := n) (i := 0) (Nat.zero_le _)
  rw [show ((0 : Nat) : Int) + 1 = 1 from rfl] at h1
  rw [h1]
  obtain ⟨g, hg⟩ := dn_chain m n hn ((chain m n).length + 1) 0 ([], fun _ => false) (Nat.zero_le _) (by rw [chain_len]; omega) rfl (fun _ _ => rfl)
  have : pth m 0 = ⟨#[]⟩ := rfl
  rw [this] at hg
  simp only [Int.toNat_natCast]
  rw [hg]
  simp
  intro a _
  rw [Nat.add_comm]
theorem slot_d (m i : Nat) : slotAt (sd m) [⟨(i : Int) + 2, sd m⟩] = 0 := by
  have : slotAt (sd m) [⟨(i : Int) + 2, sd m⟩] = ((0 : Nat) : Int) := slotAt_hit (by simp) (by
    unfold slotIs; simp; omega) (fun j _ h => absurd h (by omega))
  exact this
theorem findGo_chain (m n : Nat) : ∀ (d i : Nat), i + d ≤ n → findGo (chain m n) i (List.replicate d (sd m)) = (((i + d : Nat) : Int), 0)
  | 0, i, h => rfl
  | d + 1, i, h => by
    have hl := chain_len m n
    rw [List.replicate_succ, findGo_cons _ _ (by omega), chain_get (by omega)]
    show (if (2 : Int) ≠ 2 then ((0 : Int), (12 : Int)) else if slotAt (sd m) [⟨(i : Int) + 2, sd m⟩] < 0 then (0, 10) else match atF (chain m n) (([⟨(i : Int) + 2, sd m⟩] : List S32).getD (slotAt (sd m) [⟨(i : Int) + 2, sd m⟩]).toNat z32).f0 with | none => (0, 10) | some n' => findGo (chain m n) n'.toNat (List.replicate d (sd m))) = _
    rw [slot_d, if_neg (by simp), if_neg (by omega)]
    have ha : atF (chain m n) ((i : Int) + 2) = some ((i + 1 : Nat) : Int) := by
      have := chain_at (m := m) (n := n) (i := i + 1) (by omega)
      rw [show ((i : Int) + 2) = ((i + 1 : Nat) : Int) + 1 by omega]; exact this
    show (match atF (chain m n) ((i : Int) + 2) with | none => _ | some n' => _) = _
    rw [ha]
    show findGo (chain m n) (i + 1) (List.replicate d (sd m)) = _
    rw [findGo_chain m n d (i + 1) (by omega), show i + 1 + d = i + (d + 1) by omega]
theorem nm_okP {m : Nat} (h1 : 1 ≤ m) (h2 : m ≤ 27) : okP (nm m) = true := by
  have h100 : ∀ x ∈ nm m, x = 100 := fun x hx => List.eq_of_mem_replicate hx
  have hne : nm m ≠ [] := by intro e; have := nm_len m; rw [e] at this; simp at this; omega
  have hn : ∀ x : UInt8, x ≠ 100 → (nm m).contains x = false := fun x hx => by
    rw [List.contains_eq_mem, decide_eq_false_iff_not]; exact fun h => hx (h100 x h)
  unfold okP nameL
  rw [hn 0 (by decide), hn 47 (by decide)]
  have e1 : (nm m == [46]) = false := by
    rw [beq_eq_false_iff_ne]; intro e; have := h100 46 (by rw [e]; simp); revert this; decide
  have e2 : (nm m == [46, 46]) = false := by
    rw [beq_eq_false_iff_ne]; intro e; have := h100 46 (by rw [e]; simp); revert this; decide
  rw [e1, e2]
  have e3 : (nm m).isEmpty = false := by cases h : nm m with
    | nil => exact absurd h hne
    | cons a b => rfl
  rw [e3, nm_len]
  simp [h2]
theorem joinL_rep (m : Nat) : ∀ j, 47 :: joinL (List.replicate (j + 1) (nm m)) = pathB m (j + 1)
  | 0 => by simp [joinL, pathB]
  | j + 1 => by
    rw [List.replicate_succ, joinL_cons _ (by simp), joinL_rep m j]
    unfold pathB
    rw [List.replicate_succ (n := j + 1)]
    simp
theorem split_pth {m j : Nat} (h1 : 1 ≤ m) (h2 : m ≤ 27) (hj : (j + 1) * (m + 1) ≤ 500) : splitL (pth m (j + 1)).data.toList = some (List.replicate (j + 1) (nm m)) := by
  have hok := nm_okP h1 h2
  have hp : partsL (joinL (List.replicate (j + 1) (nm m))) = List.replicate (j + 1) (nm m) := partsL_joinL (by simp) (fun p hp => by rw [List.eq_of_mem_replicate hp]; exact okP_noslash hok)
  have hlen := pathB_len m (j + 1)
  show splitL (pathB m (j + 1)) = _
  rw [← joinL_rep] at hlen ⊢
  rw [splitL_cons, hp, if_neg (by
    rw [List.length_cons] at hlen
    intro h
    rcases h with h | h
    · exact h rfl
    · omega), if_neg (by
    intro e
    rw [e] at hp
    have : (List.replicate (j + 1) (nm m)).length = 1 := by rw [← hp]; rfl
    have h0 : nm m = [] := by
      have hh : List.replicate (j + 1) (nm m) = [[]] := by rw [← hp]; rfl
      rw [List.replicate_succ] at hh
      injection hh
    have := nm_len m
    rw [h0] at this
    simp at this
    omega), if_pos (by
    rw [List.all_eq_true]
    exact fun p hp => by rw [List.eq_of_mem_replicate hp]; exact hok)]
theorem find_chain {m n j : Nat} (h1 : 1 ≤ m) (h2 : m ≤ 27) (hj : (j + 1) * (m + 1) ≤ 500) (hn : j + 1 ≤ n) : findF (chain m n) (pth m (j + 1)) = (((j + 1 : Nat) : Int), 0) := by
  unfold findF
  rw [split_pth h1 h2 hj]
  have h1 := chain_at (m := m) (n := n) (i := 0) (Nat.zero_le _)
  rw [show ((0 : Nat) : Int) + 1 = 1 from rfl] at h1
  simp only [h1, Int.toNat_natCast]
  rw [List.map_replicate]
  have := findGo_chain m n (j + 1) 0 (by omega)
  rw [Nat.zero_add] at this
  exact this
theorem chain_ok {m n : Nat} (hm : m ≤ 27) (hn : n ≤ 60) : NodesOk (chain m n) := by
  have hr : reachBytes = 140737488351232 := rfl
  refine ⟨fun x hx => ?_, by rw [chain_len, hr]; omega⟩
  unfold chain at hx
  rcases List.mem_append.1 hx with h | h
  · obtain ⟨i, hi, rfl⟩ := List.mem_map.1 h
    have hi := List.mem_range.1 hi
    refine ⟨WalkArith.wf_i64 (by simp [dnode]; omega), WalkArith.wf_i64 (by simp [dnode]), WalkArith.wf_i64 (by simp [dnode]), WalkArith.wf_i64 (by simp [dnode]), ⟨by simp [dnode], by simp [dnode]⟩, ⟨fun p hp => ?_, by simp [dnode]; rw [hr]; omega⟩⟩
    simp only [dnode, List.mem_singleton] at hp
    subst hp
    exact ⟨WalkArith.wf_i64 (by dsimp only; omega), by show (sd m).size ≤ _; unfold sd; rw [bs_size, nm_len, hr]; omega⟩
  · rw [List.mem_singleton] at h
    subst h
    exact ⟨WalkArith.wf_i64 (by simp [dlast]; omega), WalkArith.wf_i64 (by simp [dlast]), WalkArith.wf_i64 (by simp [dlast]), WalkArith.wf_i64 (by simp [dlast]), ⟨by simp [dlast], by simp [dlast]⟩, ⟨by simp [dlast], by simp [dlast]⟩⟩
end Go.Proofs.Ytnmlmbbacicojaa
namespace Go.Proofs.Ytnmlmbbacicojaa.PWalkSame
open Go.RowKit Go.Proofs.YtnmlmbbacicojaaW.PrintWords Go.Proofs.YtnmlmbbacicojaaW.PrintLast Go.Proofs.YtnmlmbbacicojaaW.PrintMore
attribute [local go_sem] max2_int min2_int max_two min_two max_three min_three max_four min_four   -- for this text's walks alone
set_option linter.unusedVariables false
set_option linter.unusedSimpArgs false






-- the values' own types
/-! #### struct type 35 -/
/-! #### struct type 32 -/
/-! #### struct type 30 -/
end Go.Proofs.Ytnmlmbbacicojaa.PWalkSame
namespace Go.Proofs.Ytnmlmbbacicojaa.PWalkSame
open Go.RowKit Go.Proofs.YtnmlmbbacicojaaW.PrintWords Go.Proofs.YtnmlmbbacicojaaW.PrintLast Go.Proofs.YtnmlmbbacicojaaW.PrintMore
attribute [local go_sem] max2_int min2_int max_two min_two max_three min_three max_four min_four   -- for this text's walks alone
set_option linter.unusedVariables false
set_option linter.unusedSimpArgs false

-- NOT PRINTED: function 31 (walk_paths)

/-! ### walk_Paths: function 19 -/
def walk_Paths.f (a0 : List (S30)) : Option (List ByteArray) := if h : NodesOk a0 then some (pathsF a0) else none
theorem walk_Paths.calls (A0 : Option Addr) (c0 : Nat) (l0 : List (S30)) (r : List ByteArray) (w : World) (hr0 : Kd.C k30 w A0 l0.length l0) (hc0 : l0.length ≤ c0) (h : walk_Paths.f l0 = some r) :
    Calls Try.prog 19 #[.slice A0 l0.length c0] w fun e w' => ∃ v0_ : Value, e = .returned (v0_) ∧ Kd.R Kd.string 9 w' w.heap.size (fun _ => True) v0_ r ∧ Below w.heap.size w w' := by
  unfold walk_Paths.f at h
  split at h
  · rename_i hok
    injection h with h
    subst h
    exact (walkPaths_c l0 A0 l0.length c0 w rfl hc0 hok hr0).mono fun e w' ⟨v, h1, h2, h3⟩ => ⟨v, h1, kdR_strings h2, h3⟩
  · cases h

/-! ### lockgatelaw20_alive: function 9 -/
def lockgatelaw20_alive.f : Option Bool := some true
theorem lockgatelaw20_alive.calls (r : Bool) (w : World) (h : lockgatelaw20_alive.f = some r) : Calls Try.prog 9 #[] w fun e w' => e = .returned (.bool r) ∧ Below w.heap.size w w' := by
  injection h with h; subst h; exact alive_c w

/-! ### stringslite_HasPrefix: function 51 -/
def stringslite_HasPrefix.f (a0 : ByteArray) (a1 : ByteArray) : Option (Bool) := if (a0.size : Int) ≥ (a1.size : Int) then (if 0 ≤ (a1.size : Int) then (if (a1.size : Int) ≤ (a0.size : Int) then (some ((a0.extract 0 ((a1.size : Int) : Int).toNat).toList == a1.toList)) else (none)) else (none)) else (some false)
set_option maxHeartbeats 8000000 in
set_option maxRecDepth 100000 in
theorem stringslite_HasPrefix.calls (a0 : ByteArray) (a1 : ByteArray) (r : Bool) (w : World) (h : stringslite_HasPrefix.f a0 a1 = some r) :
    Calls Try.prog 51 #[.string a0, .string a1] w fun e w' => e = .returned (.bool r) ∧ Drawn0 w w' := by
  have H : (if (a0.size : Int) ≥ (a1.size : Int) then (if 0 ≤ (a1.size : Int) then (if (a1.size : Int) ≤ (a0.size : Int) then (some ((a0.extract 0 ((a1.size : Int) : Int).toNat).toList == a1.toList)) else (none)) else (none)) else (some false)) = some r := h
  clear h
  by_cases c3 : (a0.size : Int) ≥ (a1.size : Int)
  · rw [if_pos c3] at H
    have c3b0 : decide ((a1.size : Int) ≤ (a0.size : Int)) = true := decide_eq_true c3
    have c3b1 : decide (a1.size ≤ a0.size) = true := decide_eq_true (Int.ofNat_le.mp c3)
    clear c3
    by_cases c4 : 0 ≤ (a1.size : Int)
    · rw [if_pos c4] at H
      have c4b0 := eq_true c4
      have c4b1 : decide (0 ≤ (a1.size : Int)) = true := decide_eq_true c4
      clear c4
      by_cases c5 : (a1.size : Int) ≤ (a0.size : Int)
      · rw [if_pos c5] at H
        have c5b0 := eq_true c5
        have c5b1 : decide ((a1.size : Int) ≤ (a0.size : Int)) = true := decide_eq_true c5
        clear c5
        obtain rfl := Option.some.inj H
        go_enter Try.func51, Try.ntmps51
        go_wp2
        go_ret
        exact ⟨by first | rfl | (simp; done) | (simp [*]; done), by repeat (first | exact Drawn0.refl _ | apply Drawn0.step)⟩
      · rw [if_neg c5] at H
        exact absurd H (by simp)
    · rw [if_neg c4] at H
      exact absurd H (by simp)
  · rw [if_neg c3] at H
    have c3b0 : decide ((a1.size : Int) ≤ (a0.size : Int)) = false := decide_eq_false c3
    have c3b1 : decide (a1.size ≤ a0.size) = false := decide_eq_false (fun h => c3 (Int.ofNat_le.mpr h))
    clear c3
    obtain rfl := Option.some.inj H
    go_enter Try.func51, Try.ntmps51
    go_wp2
    go_ret
    exact ⟨by first | rfl | (simp; done) | (simp [*]; done), by repeat (first | exact Drawn0.refl _ | apply Drawn0.step)⟩

/-! ### stringslite_CutPrefix: function 47 -/
def stringslite_CutPrefix.f (a0 : ByteArray) (a1 : ByteArray) : Option (ByteArray × Bool) := (stringslite_HasPrefix.f a0 a1).bind fun t110 => (if t110 = true then (if 0 ≤ (a1.size : Int) then (if (a1.size : Int) ≤ (a0.size : Int) then (some (a0.extract ((a1.size : Int) : Int).toNat a0.size, true)) else (none)) else (none)) else (some (a0, false)))
set_option maxHeartbeats 8000000 in
set_option maxRecDepth 100000 in
theorem stringslite_CutPrefix.calls (a0 : ByteArray) (a1 : ByteArray) (r1 : ByteArray) (r2 : Bool) (w : World) (h : stringslite_CutPrefix.f a0 a1 = some (r1, r2)) :
    Calls Try.prog 47 #[.string a0, .string a1] w fun e w' => e = .returned (.tuple #[.string r1, .bool r2]) ∧ Drawn0 w w' := by
  have H : ((stringslite_HasPrefix.f a0 a1).bind fun t110 => (if t110 = true then (if 0 ≤ (a1.size : Int) then (if (a1.size : Int) ≤ (a0.size : Int) then (some (a0.extract ((a1.size : Int) : Int).toNat a0.size, true)) else (none)) else (none)) else (some (a0, false)))) = some (r1, r2) := h
  clear h
  replace H := Option.bind_eq_some_iff.mp H
  obtain ⟨t110, A30, H⟩ := H
  replace H : (if t110 = true then (if 0 ≤ (a1.size : Int) then (if (a1.size : Int) ≤ (a0.size : Int) then (some (a0.extract ((a1.size : Int) : Int).toNat a0.size, true)) else (none)) else (none)) else (some (a0, false))) = some (r1, r2) := H
  have A3 := Aside0.mk A30
  clear A30
  by_cases c4 : t110 = true
  · subst c4
    have H1 : (if 0 ≤ (a1.size : Int) then (if (a1.size : Int) ≤ (a0.size : Int) then (some (a0.extract ((a1.size : Int) : Int).toNat a0.size, true)) else (none)) else (none)) = some (r1, r2) := by rw [if_pos rfl] at H; exact H
    clear H
    have H := H1
    clear H1
    by_cases c5 : 0 ≤ (a1.size : Int)
    · rw [if_pos c5] at H
      have c5b0 := eq_true c5
      have c5b1 : decide (0 ≤ (a1.size : Int)) = true := decide_eq_true c5
      clear c5
      by_cases c6 : (a1.size : Int) ≤ (a0.size : Int)
      · rw [if_pos c6] at H
        have c6b0 := eq_true c6
        have c6b1 : decide ((a1.size : Int) ≤ (a0.size : Int)) = true := decide_eq_true c6
        clear c6
        simp only [Option.some.injEq, Prod.mk.injEq] at H
        obtain ⟨rfl, rfl⟩ := H
        go_enter Try.func47, Try.ntmps47
        go_wp2_with (first | ((with_reducible refine gate_callee (f := 51) rfl ?_); refine goesL_ (some 8) rfl rfl Try.func51 (by kernel_rfl) rfl #[.string a0, .string a1] rfl (by (try simp only [List.map_toArray, List.map_cons, List.map_nil]); first | done | rfl | (simp only [List.length_drop, List.length_take]; rfl)) ?_; (with_reducible refine (stringslite_HasPrefix.calls a0 a1 true _ A3.out).mono ?_); rintro e w' ⟨rfl, ⟨nd, rfl⟩⟩; refine ⟨_, rfl, ?_⟩))
        go_ret2
        exact ⟨by first | rfl | (simp; done) | (simp [*]; done), by repeat (first | exact Drawn0.refl _ | apply Drawn0.step)⟩
      · rw [if_neg c6] at H
        exact absurd H (by simp)
    · rw [if_neg c5] at H
      exact absurd H (by simp)
  · replace c4 := Bool.eq_false_iff.mpr c4
    subst c4
    have H1 : (some (a0, false)) = some (r1, r2) := by rw [if_neg (show ¬ (false = true) by decide)] at H; exact H
    clear H
    have H := H1
    clear H1
    simp only [Option.some.injEq, Prod.mk.injEq] at H
    obtain ⟨rfl, rfl⟩ := H
    go_enter Try.func47, Try.ntmps47
    go_wp2_with (first | ((with_reducible refine gate_callee (f := 51) rfl ?_); refine goesL_ (some 8) rfl rfl Try.func51 (by kernel_rfl) rfl #[.string a0, .string a1] rfl (by (try simp only [List.map_toArray, List.map_cons, List.map_nil]); first | done | rfl | (simp only [List.length_drop, List.length_take]; rfl)) ?_; (with_reducible refine (stringslite_HasPrefix.calls a0 a1 false _ A3.out).mono ?_); rintro e w' ⟨rfl, ⟨nd, rfl⟩⟩; refine ⟨_, rfl, ?_⟩))
    go_ret2
    exact ⟨by first | rfl | (simp; done) | (simp [*]; done), by repeat (first | exact Drawn0.refl _ | apply Drawn0.step)⟩

/-! ### strings_CutPrefix: function 39 -/
def strings_CutPrefix.f (a0 : ByteArray) (a1 : ByteArray) : Option (ByteArray × Bool) := (stringslite_CutPrefix.f a0 a1).bind fun bt111 => (some (bt111.1, bt111.2))
set_option maxHeartbeats 8000000 in
set_option maxRecDepth 100000 in
theorem strings_CutPrefix.calls (a0 : ByteArray) (a1 : ByteArray) (r1 : ByteArray) (r2 : Bool) (w : World) (h : strings_CutPrefix.f a0 a1 = some (r1, r2)) :
    Calls Try.prog 39 #[.string a0, .string a1] w fun e w' => e = .returned (.tuple #[.string r1, .bool r2]) ∧ Drawn0 w w' := by
  have H : ((stringslite_CutPrefix.f a0 a1).bind fun bt111 => (some (bt111.1, bt111.2))) = some (r1, r2) := h
  clear h
  replace H := Option.bind_eq_some_iff.mp H
  obtain ⟨⟨t111, t112⟩, A30, H⟩ := H
  replace H : (some (t111, t112)) = some (r1, r2) := H
  have A3 := Aside0.mk A30
  clear A30
  simp only [Option.some.injEq, Prod.mk.injEq] at H
  obtain ⟨rfl, rfl⟩ := H
  go_enter Try.func39, Try.ntmps39
  go_wp2_with (first | ((with_reducible refine gate_callee (f := 47) rfl ?_); refine goesL_ (some 8) rfl rfl Try.func47 (by kernel_rfl) rfl #[.string a0, .string a1] rfl (by (try simp only [List.map_toArray, List.map_cons, List.map_nil]); first | done | rfl | (simp only [List.length_drop, List.length_take]; rfl)) ?_; (with_reducible refine (stringslite_CutPrefix.calls a0 a1 t111 t112 _ A3.out).mono ?_); rintro e w' ⟨rfl, ⟨nd, rfl⟩⟩; refine ⟨_, rfl, ?_⟩))
  go_ret2
  exact ⟨by first | rfl | (simp; done) | (simp [*]; done), by repeat (first | exact Drawn0.refl _ | apply Drawn0.step)⟩

-- NOT PRINTED: function 40 (path_parts)

-- NOT PRINTED: function 55 (bytealg_IndexByteString)

-- NOT PRINTED: function 53 (stringslite_IndexByte)

-- NOT PRINTED: function 50 (strings_IndexByte)

-- NOT PRINTED: function 41 (entry_Name)

-- NOT PRINTED: function 26 (path_Split)

-- NOT PRINTED: function 27 (renum_Index)

-- NOT PRINTED: function 28 (api_Entry)

/-! ### walk_Find: function 16 -/
def walk_Find.f (a0 : List (S30)) (a1 : ByteArray) : Option (Int × Int) := if h : NodesOk a0 ∧ a1.size ≤ 140737488355328 then some (findF a0 a1) else none
theorem walk_Find.calls (A0 : Option Addr) (c0 : Nat) (l0 : List (S30)) (a1 : ByteArray) (r1 : Int) (r2 : Int) (w : World) (hr0 : Kd.C k30 w A0 l0.length l0) (hc0 : l0.length ≤ c0) (h : walk_Find.f l0 a1 = some (r1, r2)) :
    Calls Try.prog 16 #[.slice A0 l0.length c0, .string a1] w fun e w' => e = .returned (.tuple #[.int .i64 r1, .int .i64 r2]) ∧ Below w.heap.size w w' := by
  unfold walk_Find.f at h
  split at h
  · rename_i hok
    injection h with h
    have := find_c l0 A0 l0.length c0 a1 w rfl hc0 hok.1 hr0 hok.2
    rw [h] at this
    exact this
  · cases h

/-! ### lockgatelaw20_num: function 18 -/
def lockgatelaw20_num.f (a0 : Int) : Option (Int) := some a0
set_option maxHeartbeats 8000000 in
set_option maxRecDepth 100000 in
theorem lockgatelaw20_num.calls (a0 : Int) (r : Int) (w : World) (h : lockgatelaw20_num.f a0 = some r) :
    Calls Try.prog 18 #[.int .i64 a0] w fun e w' => e = .returned (.int .i64 r) ∧ Drawn0 w w' := by
  have H : (some a0) = some r := h
  clear h
  obtain rfl := Option.some.inj H
  go_enter Try.func18, Try.ntmps18
  go_wp2
  go_ret
  exact ⟨by first | rfl | (simp; done) | (simp [*]; done), by repeat (first | exact Drawn0.refl _ | apply Drawn0.step)⟩

/-! ### lockgatelaw20_WalkDeep: function 7 -/
mutual
def lockgatelaw20_WalkDeep.j0 : Nat → Int → Int → Bool → Bool → Option (Bool)
  | 0, _, _, _, _ => none
  | k + 1, x0, x1, x5, x33 => if x33 = true then (some x5) else (lockgatelaw20_WalkDeep.l0 k x0 x1 (⟨#[]⟩ : ByteArray) 0)
def lockgatelaw20_WalkDeep.l0 : Nat → Int → Int → ByteArray → Int → Option (Bool)
  | 0, _, _, _, _ => none
  | k + 1, x0, x1, x6, x7 => if x7 < x1 then (if x6.size + 1 ≤ 9223372036854775807 then (lockgatelaw20_WalkDeep.l0 k x0 x1 (x6 ++ (⟨#[100]⟩ : ByteArray)) (wrap64 (x7 + 1))) else (none)) else (lockgatelaw20_WalkDeep.l1 k x0 x1 x6 ([] : List (S30)) 0)
def lockgatelaw20_WalkDeep.l1 : Nat → Int → Int → ByteArray → List (S30) → Int → Option (Bool)
  | 0, _, _, _, _, _ => none
  | k + 1, x0, x1, x6, x8, x9 => if x9 < x0 then (if x8.length < 1759218604441 then (lockgatelaw20_WalkDeep.l1 k x0 x1 x6 (x8 ++ [(⟨wrap64 (x9 + 1), 2, 0, 0, ([] : List (S35)), (([(⟨wrap64 (x9 + 2), x6⟩ : S32)] : List (S32)))⟩ : S30)]) (wrap64 (x9 + 1))) else (none)) else (if x8.length < 1759218604441 then ((some (x8 ++ [(⟨wrap64 (x0 + 1), 1, 0, 0, ([] : List (S35)), ([] : List (S32))⟩ : S30)] : List (S30))).bind fun y120 => (if (wrap64 (x1 + 1)) = 0 then (none) else (if (wrap64 ((500 : Int).tdiv (wrap64 (x1 + 1)))) > x0 then (lockgatelaw20_WalkDeep.j3 k x1 y120 x0) else (lockgatelaw20_WalkDeep.j3 k x1 y120 (wrap64 ((500 : Int).tdiv (wrap64 (x1 + 1)))))))) else (none))
def lockgatelaw20_WalkDeep.j3 : Nat → Int → List (S30) → Int → Option (Bool)
  | 0, _, _, _ => none
  | k + 1, x1, x8, x10 => (walk_Paths.f x8).bind fun t123 => (if (t123.length : Int) = x10 then (lockgatelaw20_WalkDeep.l2 k x1 x8 t123 0) else (some false))
def lockgatelaw20_WalkDeep.l2 : Nat → Int → List (S30) → List ByteArray → Int → Option (Bool)
  | 0, _, _, _, _ => none
  | k + 1, x1, x8, x11, x12 => if x12 < (x11.length : Int) then (if 0 ≤ x12 then ((walk_Find.f x8 (rdOf ByteArray.empty x11 x12)).bind fun bt127 => ((lockgatelaw20_num.f bt127.2).bind fun t129 => (if t129 = 0 then (if bt127.1 = (wrap64 (x12 + 1)) then (if ((rdOf ByteArray.empty x11 x12).size : Int) = (wrap64 ((wrap64 (x12 + 1)) * (wrap64 (x1 + 1)))) then (lockgatelaw20_WalkDeep.l2 k x1 x8 x11 (wrap64 (x12 + 1))) else (some false)) else (some false)) else (some false)))) else (none)) else (some true)
end
def lockgatelaw20_WalkDeep.f (k : Nat) (a0 : Int) (a1 : Int) : Option (Bool) := (lockgatelaw20_alive.f).bind fun t113 => (if t113 = true then (if a0 < 1 then (lockgatelaw20_WalkDeep.j0 k a0 a1 t113 true) else (if a0 > 60 then (lockgatelaw20_WalkDeep.j0 k a0 a1 t113 true) else (if a1 < 1 then (lockgatelaw20_WalkDeep.j0 k a0 a1 t113 true) else (lockgatelaw20_WalkDeep.j0 k a0 a1 t113 (decide (a1 > 27)))))) else (lockgatelaw20_WalkDeep.j0 k a0 a1 t113 true))
theorem lockgatelaw20_WalkDeep.mono_l : ∀ k, (∀ y0 y1 y2 y3, LeO (lockgatelaw20_WalkDeep.j0 k y0 y1 y2 y3) (lockgatelaw20_WalkDeep.j0 (k + 1) y0 y1 y2 y3)) ∧ (∀ y0 y1 y2 y3, LeO (lockgatelaw20_WalkDeep.l0 k y0 y1 y2 y3) (lockgatelaw20_WalkDeep.l0 (k + 1) y0 y1 y2 y3)) ∧ (∀ y0 y1 y2 y3 y4, LeO (lockgatelaw20_WalkDeep.l1 k y0 y1 y2 y3 y4) (lockgatelaw20_WalkDeep.l1 (k + 1) y0 y1 y2 y3 y4)) ∧ (∀ y0 y1 y2, LeO (lockgatelaw20_WalkDeep.j3 k y0 y1 y2) (lockgatelaw20_WalkDeep.j3 (k + 1) y0 y1 y2)) ∧ (∀ y0 y1 y2 y3, LeO (lockgatelaw20_WalkDeep.l2 k y0 y1 y2 y3) (lockgatelaw20_WalkDeep.l2 (k + 1) y0 y1 y2 y3))
  | 0 => ⟨fun _ _ _ _ r h => by simp [lockgatelaw20_WalkDeep.j0] at h, fun _ _ _ _ r h => by simp [lockgatelaw20_WalkDeep.l0] at h, fun _ _ _ _ _ r h => by simp [lockgatelaw20_WalkDeep.l1] at h, fun _ _ _ r h => by simp [lockgatelaw20_WalkDeep.j3] at h, fun _ _ _ _ r h => by simp [lockgatelaw20_WalkDeep.l2] at h⟩
  | k + 1 => by
    obtain ⟨ih0, ih1, ih2, ih3, ih4⟩ := lockgatelaw20_WalkDeep.mono_l k
    refine ⟨?_, ?_, ?_, ?_, ?_⟩
    · intro y0 y1 y2 y3
      unfold lockgatelaw20_WalkDeep.j0
      repeat' first
      | (with_reducible exact ih0 _ _ _ _)
      | (with_reducible exact ih1 _ _ _ _)
      | (with_reducible exact ih2 _ _ _ _ _)
      | (with_reducible exact ih3 _ _ _)
      | (with_reducible exact ih4 _ _ _ _)
      | (with_reducible exact LeO.refl _)
      | (with_reducible exact LeO.none _)
      | (with_reducible refine LeO.ite ?_ ?_)
      | (with_reducible refine LeO.bind ?_ (fun _ => ?_))
      | exact ih0 _ _ _ _
      | exact ih1 _ _ _ _
      | exact ih2 _ _ _ _ _
      | exact ih3 _ _ _
      | exact ih4 _ _ _ _
      | exact LeO.none _
      | refine LeO.ite ?_ ?_
      | refine LeO.bind ?_ (fun _ => ?_)
    · intro y0 y1 y2 y3
      unfold lockgatelaw20_WalkDeep.l0
      repeat' first
      | (with_reducible exact ih0 _ _ _ _)
      | (with_reducible exact ih1 _ _ _ _)
      | (with_reducible exact ih2 _ _ _ _ _)
      | (with_reducible exact ih3 _ _ _)
      | (with_reducible exact ih4 _ _ _ _)
      | (with_reducible exact LeO.refl _)
      | (with_reducible exact LeO.none _)
      | (with_reducible refine LeO.ite ?_ ?_)
      | (with_reducible refine LeO.bind ?_ (fun _ => ?_))
      | exact ih0 _ _ _ _
      | exact ih1 _ _ _ _
      | exact ih2 _ _ _ _ _
      | exact ih3 _ _ _
      | exact ih4 _ _ _ _
      | exact LeO.none _
      | refine LeO.ite ?_ ?_
      | refine LeO.bind ?_ (fun _ => ?_)
    · intro y0 y1 y2 y3 y4
      unfold lockgatelaw20_WalkDeep.l1
      repeat' first
      | (with_reducible exact ih0 _ _ _ _)
      | (with_reducible exact ih1 _ _ _ _)
      | (with_reducible exact ih2 _ _ _ _ _)
      | (with_reducible exact ih3 _ _ _)
      | (with_reducible exact ih4 _ _ _ _)
      | (with_reducible exact LeO.refl _)
      | (with_reducible exact LeO.none _)
      | (with_reducible refine LeO.ite ?_ ?_)
      | (with_reducible refine LeO.bind ?_ (fun _ => ?_))
      | exact ih0 _ _ _ _
      | exact ih1 _ _ _ _
      | exact ih2 _ _ _ _ _
      | exact ih3 _ _ _
      | exact ih4 _ _ _ _
      | exact LeO.none _
      | refine LeO.ite ?_ ?_
      | refine LeO.bind ?_ (fun _ => ?_)
    · intro y0 y1 y2
      unfold lockgatelaw20_WalkDeep.j3
      repeat' first
      | (with_reducible exact ih0 _ _ _ _)
      | (with_reducible exact ih1 _ _ _ _)
      | (with_reducible exact ih2 _ _ _ _ _)
      | (with_reducible exact ih3 _ _ _)
      | (with_reducible exact ih4 _ _ _ _)
      | (with_reducible exact LeO.refl _)
      | (with_reducible exact LeO.none _)
      | (with_reducible refine LeO.ite ?_ ?_)
      | (with_reducible refine LeO.bind ?_ (fun _ => ?_))
      | exact ih0 _ _ _ _
      | exact ih1 _ _ _ _
      | exact ih2 _ _ _ _ _
      | exact ih3 _ _ _
      | exact ih4 _ _ _ _
      | exact LeO.none _
      | refine LeO.ite ?_ ?_
      | refine LeO.bind ?_ (fun _ => ?_)
    · intro y0 y1 y2 y3
      unfold lockgatelaw20_WalkDeep.l2
      repeat' first
      | (with_reducible exact ih0 _ _ _ _)
      | (with_reducible exact ih1 _ _ _ _)
      | (with_reducible exact ih2 _ _ _ _ _)
      | (with_reducible exact ih3 _ _ _)
      | (with_reducible exact ih4 _ _ _ _)
      | (with_reducible exact LeO.refl _)
      | (with_reducible exact LeO.none _)
      | (with_reducible refine LeO.ite ?_ ?_)
      | (with_reducible refine LeO.bind ?_ (fun _ => ?_))
      | exact ih0 _ _ _ _
      | exact ih1 _ _ _ _
      | exact ih2 _ _ _ _ _
      | exact ih3 _ _ _
      | exact ih4 _ _ _ _
      | exact LeO.none _
      | refine LeO.ite ?_ ?_
      | refine LeO.bind ?_ (fun _ => ?_)
theorem lockgatelaw20_WalkDeep.mono : ∀ a0 a1 k, LeO (lockgatelaw20_WalkDeep.f k a0 a1) (lockgatelaw20_WalkDeep.f (k + 1) a0 a1) := by
  intro a0 a1 k
  obtain ⟨ih0, ih1, ih2, ih3, ih4⟩ := lockgatelaw20_WalkDeep.mono_l k
  unfold lockgatelaw20_WalkDeep.f
  repeat' first
      | (with_reducible exact ih0 _ _ _ _)
      | (with_reducible exact ih1 _ _ _ _)
      | (with_reducible exact ih2 _ _ _ _ _)
      | (with_reducible exact ih3 _ _ _)
      | (with_reducible exact ih4 _ _ _ _)
      | (with_reducible exact LeO.refl _)
      | (with_reducible exact LeO.none _)
      | (with_reducible refine LeO.ite ?_ ?_)
      | (with_reducible refine LeO.bind ?_ (fun _ => ?_))
      | exact ih0 _ _ _ _
      | exact ih1 _ _ _ _
      | exact ih2 _ _ _ _ _
      | exact ih3 _ _ _
      | exact ih4 _ _ _ _
      | exact LeO.none _
      | refine LeO.ite ?_ ?_
      | refine LeO.bind ?_ (fun _ => ?_)
set_option maxHeartbeats 8000000 in
set_option maxRecDepth 100000 in
theorem lockgatelaw20_WalkDeep.calls (k : Nat) (a0 : Int) (a1 : Int) (r : Bool) (w : World) (h : lockgatelaw20_WalkDeep.f k a0 a1 = some r) :
    Calls Try.prog 7 #[.int .i64 a0, .int .i64 a1] w fun e w' => e = .returned (.bool r) ∧ Below w.heap.size w w' := by
  have hu32 := Try.underlying32
  have hu30 := Try.underlying30
  have HB := Aside0.mk (Below.refl w.heap.size w)
  have H : ((lockgatelaw20_alive.f).bind fun t113 => (if t113 = true then (if a0 < 1 then (lockgatelaw20_WalkDeep.j0 k a0 a1 t113 true) else (if a0 > 60 then (lockgatelaw20_WalkDeep.j0 k a0 a1 t113 true) else (if a1 < 1 then (lockgatelaw20_WalkDeep.j0 k a0 a1 t113 true) else (lockgatelaw20_WalkDeep.j0 k a0 a1 t113 (decide (a1 > 27)))))) else (lockgatelaw20_WalkDeep.j0 k a0 a1 t113 true))) = some r := h
  clear h
  replace H := Option.bind_eq_some_iff.mp H
  obtain ⟨t113, A30, H⟩ := H
  replace H : (if t113 = true then (if a0 < 1 then (lockgatelaw20_WalkDeep.j0 k a0 a1 t113 true) else (if a0 > 60 then (lockgatelaw20_WalkDeep.j0 k a0 a1 t113 true) else (if a1 < 1 then (lockgatelaw20_WalkDeep.j0 k a0 a1 t113 true) else (lockgatelaw20_WalkDeep.j0 k a0 a1 t113 (decide (a1 > 27)))))) else (lockgatelaw20_WalkDeep.j0 k a0 a1 t113 true)) = some r := H
  have A3 := Aside0.mk A30
  clear A30
  have HC4 := Aside0.mk H
  clear H
  go_enter Try.func7, Try.ntmps7
  go_upto_region 2 with (first | ((with_reducible refine gate_callee (f := 9) rfl ?_); refine goesL_ (some 15) rfl rfl Try.func9 (by kernel_rfl) rfl #[] rfl (by (try simp only [List.map_toArray, List.map_cons, List.map_nil]); first | done | rfl | (simp only [List.length_drop, List.length_take]; rfl)) ?_; (with_reducible refine (lockgatelaw20_alive.calls  t113 _ A3.out).mono ?_); rintro e w5 ⟨rfl, hb⟩; refine ⟨_, rfl, ?_⟩; have n0_ := Aside0.mk (below_step (by repeat (first | (with_reducible first | exact HB.out | apply below_alloc | apply pw_below_drewN | apply below_drew1) | exact HB.out)) hb); clear HB; have HB := n0_; clear n0_; (try clear hb); (try clear hb2); (try clear hk); (try clear hi)))
  (try simp only [Act.put, List.setIfInBounds_toArray, List.set_cons_zero, List.set_cons_succ])
  go_cut [33] (fun v33 wc => ∃ (kq : Nat) (x33_3 : Bool), v33 = .bool x33_3 ∧ Aside0 (lockgatelaw20_WalkDeep.j0 kq a0 a1 t113 x33_3 = some r) ∧ Aside0 (kq ≤ k) ∧ Aside0 (Below w.heap.size w wc))
  case first =>
    have H := HC4.out
    clear HC4
    by_cases c6 : t113 = true
    · subst c6
      have H1 : (if a0 < 1 then (lockgatelaw20_WalkDeep.j0 k a0 a1 true true) else (if a0 > 60 then (lockgatelaw20_WalkDeep.j0 k a0 a1 true true) else (if a1 < 1 then (lockgatelaw20_WalkDeep.j0 k a0 a1 true true) else (lockgatelaw20_WalkDeep.j0 k a0 a1 true (decide (a1 > 27)))))) = some r := by rw [if_pos rfl] at H; exact H
      clear H
      have H := H1
      clear H1
      by_cases c7 : a0 < 1
      · rw [if_pos c7] at H
        have c7b0 : decide (a0 < 1) = true := decide_eq_true c7
        clear c7
        (first | rw [c7b0] | (simp only [i64_w, i32_w]; rw [c7b0]) | skip)
        have H' := Aside0.mk H
        clear H
        go_wp2
        go_meet
        case rel => exact ⟨_, (true), (by first | rfl | (simp; done) | (simp [*]; done)), H', ⟨by first | omega | exact Nat.le_refl _⟩, ⟨by repeat (first | (with_reducible first | exact HB.out | apply below_alloc | apply pw_below_drewN | apply below_drew1) | exact HB.out)⟩⟩
      · rw [if_neg c7] at H
        have c7b0 : decide (a0 < 1) = false := decide_eq_false c7
        clear c7
        (first | rw [c7b0] | (simp only [i64_w, i32_w]; rw [c7b0]) | skip)
        by_cases c8 : a0 > 60
        · rw [if_pos c8] at H
          have c8b0 : decide (60 < a0) = true := decide_eq_true c8
          clear c8
          have H' := Aside0.mk H
          clear H
          go_wp2
          go_meet
          case rel => exact ⟨_, (true), (by first | rfl | (simp; done) | (simp [*]; done)), H', ⟨by first | omega | exact Nat.le_refl _⟩, ⟨by repeat (first | (with_reducible first | exact HB.out | apply below_alloc | apply pw_below_drewN | apply below_drew1) | exact HB.out)⟩⟩
        · rw [if_neg c8] at H
          have c8b0 : decide (60 < a0) = false := decide_eq_false c8
          clear c8
          by_cases c9 : a1 < 1
          · rw [if_pos c9] at H
            have c9b0 : decide (a1 < 1) = true := decide_eq_true c9
            clear c9
            have H' := Aside0.mk H
            clear H
            go_wp2
            go_meet
            case rel => exact ⟨_, (true), (by first | rfl | (simp; done) | (simp [*]; done)), H', ⟨by first | omega | exact Nat.le_refl _⟩, ⟨by repeat (first | (with_reducible first | exact HB.out | apply below_alloc | apply pw_below_drewN | apply below_drew1) | exact HB.out)⟩⟩
          · rw [if_neg c9] at H
            have c9b0 : decide (a1 < 1) = false := decide_eq_false c9
            clear c9
            have H' := Aside0.mk H
            clear H
            go_wp2
            go_meet
            case rel => exact ⟨_, (decide (a1 > 27)), (by first | rfl | (simp; done) | (simp [*]; done)), H', ⟨by first | omega | exact Nat.le_refl _⟩, ⟨by repeat (first | (with_reducible first | exact HB.out | apply below_alloc | apply pw_below_drewN | apply below_drew1) | exact HB.out)⟩⟩
    · replace c6 := Bool.eq_false_iff.mpr c6
      subst c6
      have H1 : (lockgatelaw20_WalkDeep.j0 k a0 a1 false true) = some r := by rw [if_neg (show ¬ (false = true) by decide)] at H; exact H
      clear H
      have H := H1
      clear H1
      have H' := Aside0.mk H
      clear H
      go_wp2
      go_meet
      case rel => exact ⟨_, (true), (by first | rfl | (simp; done) | (simp [*]; done)), H', ⟨by first | omega | exact Nat.le_refl _⟩, ⟨by repeat (first | (with_reducible first | exact HB.out | apply below_alloc | apply pw_below_drewN | apply below_drew1) | exact HB.out)⟩⟩
  case rest =>
    clear HC4
    try clear p2
    try clear c6
    try clear c7
    try clear c7b0
    try clear c8
    try clear c8b0
    try clear c9
    try clear c9b0
    obtain ⟨kq, x33_3, rfl, HA, HJ3, HB⟩ := hcut
    cases kq with
    | zero => exact absurd HA.out (by simp [lockgatelaw20_WalkDeep.j0])
    | succ kj3 =>
      have H := HA.out
      clear HA
      simp only [lockgatelaw20_WalkDeep.j0] at H
      by_cases c10 : x33_3 = true
      · subst c10
        have H1 : (some t113) = some r := by rw [if_pos rfl] at H; exact H
        clear H
        have H := H1
        clear H1
        obtain rfl := Option.some.inj H
        go_wp2
        go_ret
        exact ⟨by first | rfl | (simp [errW_none, errW_some] <;> rfl) | (simp [*, errW_none, errW_some] <;> rfl), by repeat (first | (with_reducible first | exact HB.out | apply below_alloc | apply pw_below_drewN | apply below_drew1) | exact HB.out)⟩
      · replace c10 := Bool.eq_false_iff.mpr c10
        subst c10
        have H1 : (lockgatelaw20_WalkDeep.l0 kj3 a0 a1 (⟨#[]⟩ : ByteArray) 0) = some r := by rw [if_neg (show ¬ (false = true) by decide)] at H; exact H
        clear H
        have H := H1
        clear H1
        have H' := Aside0.mk H
        clear H
        go_wp2
        go_loopg [6, 7] kj3 (fun kq v6 v7 w' => ∃ (x6_2 : ByteArray) (x7_2 : Int), v6 = .string x6_2 ∧ v7 = .int .i64 x7_2 ∧ Aside0 (lockgatelaw20_WalkDeep.l0 kq a0 a1 x6_2 x7_2 = some r) ∧ Aside0 (kq ≤ kj3) ∧ Aside0 (Below w.heap.size w w'))
        case atStart => exact ⟨((⟨#[]⟩ : ByteArray)), (0), (by first | rfl | (simp; done) | (simp [*]; done)), (by first | rfl | (simp; done) | (simp [*]; done)), H', ⟨Nat.le_refl _⟩, ⟨by repeat (first | (with_reducible first | exact HB.out | apply below_alloc | apply pw_below_drewN | apply below_drew1) | exact HB.out)⟩⟩
        case round =>
          clear H'
          try clear c1
          try clear p2
          try clear c6
          try clear c7
          try clear c7b0
          try clear c8
          try clear c8b0
          try clear c9
          try clear c9b0
          try clear c10
          try clear p2
          obtain ⟨x6_2, x7_2, rfl, rfl, HA, HK2, HB⟩ := hrel
          cases gk with
          | zero => exact absurd HA.out (by simp [lockgatelaw20_WalkDeep.l0])
          | succ k2 =>
            have H := HA.out
            clear HA
            simp only [lockgatelaw20_WalkDeep.l0] at H
            by_cases c11 : x7_2 < a1
            · rw [if_pos c11] at H
              have c11b0 : decide (x7_2 < a1) = true := decide_eq_true c11
              clear c11
              by_cases c12 : x6_2.size + 1 ≤ 9223372036854775807
              · rw [if_pos c12] at H
                have c12b0 := eq_true c12
                have c12b1 : decide (x6_2.size + 1 ≤ 9223372036854775807) = true := decide_eq_true c12
                try have c12b2 : (9223372036854775807 < x6_2.size + 1) = False := eq_false (Nat.not_lt.2 c12)
                have H' := Aside0.mk H
                clear H
                go_wp2
                go_roundg k2
                case measure => have := HJ3.out; have := HK2.out; omega
                case rel => exact ⟨(x6_2 ++ (⟨#[100]⟩ : ByteArray)), (wrap64 (x7_2 + 1)), (by first | rfl | (simp; done) | (simp [*]; done)), (by first | rfl | (simp; done) | (simp [*]; done)), H', ⟨by have := HJ3.out; have := HK2.out; omega⟩, ⟨by repeat (first | (with_reducible first | exact HB.out | apply below_alloc | apply pw_below_drewN | apply below_drew1) | exact HB.out)⟩⟩
              · rw [if_neg c12] at H
                exact absurd H (by simp)
            · rw [if_neg c11] at H
              have c11b0 : decide (x7_2 < a1) = false := decide_eq_false c11
              clear c11
              have H' := Aside0.mk H
              clear H
              go_wp2
              go_loopg [8, 9] k2 (fun kq v8 v9 w' => ∃ (x8_3 : List (S30)) (x9_3 : Int), v9 = .int .i64 x9_3 ∧ Aside0 (lockgatelaw20_WalkDeep.l1 kq a0 a1 x6_2 x8_3 x9_3 = some r) ∧ Aside0 (kq ≤ k2) ∧ Aside0 (Kd.R k30 30 w' w.heap.size (fun _ => True) v8 x8_3) ∧ Aside0 (Below w.heap.size w w'))
              case atStart => exact ⟨(([] : List (S30))), (0), (by first | rfl | (simp; done) | (simp [*]; done)), H', ⟨Nat.le_refl _⟩, ⟨by first | exact Kd.R_nil _ _ _ _ _ | exact Kd.N_nil _ _ _ _ _ | exact Kd.V_nil _ _ _ _ _ | exact Kd.Q_nil _ _ _ _ _ | exact Kd.S_nil _ _ _ _ _⟩, ⟨by repeat (first | (with_reducible first | exact HB.out | apply below_alloc | apply pw_below_drewN | apply below_drew1) | exact HB.out)⟩⟩
              case round =>
                clear H'
                try clear c1
                try clear p2
                try clear c6
                try clear p6
                try clear c7
                try clear c7b0
                try clear c8
                try clear c8b0
                try clear c9
                try clear c9b0
                try clear c10
                try clear c11
                try clear c11b0
                try clear c12
                try clear c12b0
                try clear c12b1
                try clear c12b2
                try clear p2
                obtain ⟨x8_3, x9_3, rfl, HA, HK3, HO_8, HB⟩ := hrel
                cases gk with
                | zero => exact absurd HA.out (by simp [lockgatelaw20_WalkDeep.l1])
                | succ k3 =>
                  have H := HA.out
                  clear HA
                  simp only [lockgatelaw20_WalkDeep.l1] at H
                  by_cases c13 : x9_3 < a0
                  · rw [if_pos c13] at H
                    have c13b0 : decide (x9_3 < a0) = true := decide_eq_true c13
                    clear c13
                    obtain ⟨y114, hy114⟩ : ∃ y_ : List (S32), y_ = (([(⟨wrap64 (x9_3 + 2), x6_2⟩ : S32)] : List (S32))) := ⟨_, rfl⟩
                    replace H : (if x8_3.length < 1759218604441 then (lockgatelaw20_WalkDeep.l1 k3 a0 a1 x6_2 (x8_3 ++ [(⟨wrap64 (x9_3 + 1), 2, 0, 0, ([] : List (S35)), y114⟩ : S30)]) (wrap64 (x9_3 + 1))) else (none)) = some r := by first | (rw [hy114]; with_reducible exact H) | (have H2_ := (Option.bind_some _ _).symm.trans H; rw [hy114]; with_reducible exact H2_) | (have H2_ := (Option.bind_some _ _).symm.trans H; with_reducible exact H2_) | with_reducible exact H | (rw [hy114]; exact H) | exact H
                    have Ny114 := Aside0.mk hy114
                    clear hy114
                    by_cases c14 : x8_3.length < 1759218604441
                    · rw [if_pos c14] at H
                      have LMc14 := Aside0.mk c14
                      clear c14
                      obtain ⟨y117, hy117⟩ : ∃ y_ : List (S30), y_ = (x8_3 ++ [(⟨wrap64 (x9_3 + 1), 2, 0, 0, ([] : List (S35)), y114⟩ : S30)]) := ⟨_, rfl⟩
                      replace H : (lockgatelaw20_WalkDeep.l1 k3 a0 a1 x6_2 y117 (wrap64 (x9_3 + 1))) = some r := by first | (rw [hy117]; with_reducible exact H) | (have H2_ := (Option.bind_some _ _).symm.trans H; rw [hy117]; with_reducible exact H2_) | (have H2_ := (Option.bind_some _ _).symm.trans H; with_reducible exact H2_) | with_reducible exact H | (rw [hy117]; exact H) | exact H
                      have Ny117 := Aside0.mk hy117
                      clear hy117
                      have H' := Aside0.mk H
                      clear H
                      go_wp2_with (first | ((with_reducible refine gate_dst (N := 54) rfl ?_); (try (refine gate_guard (by rfl) ?_; dsimp only)); refine Kd.R_lit k32 _ 32 ?hg (N := 54) ?hd (xs := ([(⟨wrap64 (x9_3 + 2), x6_2⟩ : S32)] : List (S32))) (inner := [.int .i64 (wrap64 (x9_3 + 2)), .string x6_2]) (ok := fun _ => True) (okp := fun _ => True) ?hr ?hp (fun _ hk => hk) trivial (Below.refl _ _) (Nat.le_refl _) (by simp) ?_; (case hd => rfl); (case hg => rfl); (case hr => first | (go_simp; done) | (go_simp; rfl)); (case hp => exact (Reps.c2 (show Kd.M k32 _ _ _ (⟨wrap64 (x9_3 + 2), x6_2⟩ : S32) [.int .i64 (wrap64 (x9_3 + 2)), .string x6_2] from (k32_mkM _ _ _ (⟨wrap64 (x9_3 + 2), x6_2⟩ : S32) )) (Reps.none _ _))); intro v115 w15 ho16 hb hg_ hnew_; clear hg_ hnew_; (first | rw [← Ny114.out] at ho16 | (simp only [Int.reduceToNat] at ho16; rw [← Ny114.out] at ho16)); have n0_ := Aside0.mk (Kd.R_elder' (by (with_reducible repeat (first | apply Kd.R_alloc | apply Kd.R_drewN | apply Kd.R_drew)); exact HO_8.out) (Kd.R_base ho16) hb); have n1_ := Aside0.mk (Kd.R_lower ho16 (below_size (by repeat (first | (with_reducible first | exact HB.out | apply below_alloc | apply pw_below_drewN | apply below_drew1) | exact HB.out)))); have n2_ := Aside0.mk (below_step (by repeat (first | (with_reducible first | exact HB.out | apply below_alloc | apply pw_below_drewN | apply below_drew1) | exact HB.out)) hb); clear HO_8; clear HB; have HO_8 := n0_; have HO116 := n1_; have HB := n2_; clear n0_ n1_ n2_; clear hb ho16; obtain ⟨Ao17, co17, eo17⟩ := Kd.R_slice HO116.out; subst eo17) | ((with_reducible refine gate_builtin (b := .append) (xs := #[.tmp 47, .tmp 56]) rfl ?_); (try (refine gate_guard (by rfl) ?_; dsimp only)); at_builtin; refine Kd.R_append k30 (w0 := w) w.heap.size rfl (.tmp 47) (.tmp 56) 22 30 (.agg #[(.int .i64 0), (.int .i64 0), (.int .i64 0), (.int .i64 0), (.slice none 0 0), (.slice none 0 0)]) 80 rfl Try.underlying22 info30 rfl (by decide) (by omega) u8 x8_3 (⟨wrap64 (x9_3 + 1), 2, 0, 0, ([] : List (S35)), y114⟩ : S30) [.int .i64 (wrap64 (x9_3 + 1)), .int .i64 2, .int .i64 0, .int .i64 0, .slice none 0 0, .slice Ao17 y114.length co17] (fun _ => True) (fun k_ => ((fun _ => True)) k_ ∧ some k_ ≠ (u8 : Value).ownBlock) rfl rfl ?aP (fun _ hk => hk) ?aF ?aO ?aB ?aS ?aL ?_; (case aP => exact k30_mkM _ _ _ (⟨wrap64 (x9_3 + 1), 2, 0, 0, ([] : List (S35)), y114⟩ : S30) (Kd.R_nil _ _ _ _ _) (Kd.R_mono (Kd.R_apart' (HO116.out) (Kd.R_typed HO_8.out) (by decide)) (fun k_ hk => ⟨trivial, hk.2⟩))); (case aB => exact (by repeat (first | (with_reducible first | exact HB.out | apply below_alloc | apply pw_below_drewN | apply below_drew1) | exact HB.out))); (case aF => exact (fun _ _ => trivial)); (case aO => exact (by (with_reducible repeat (first | apply Kd.R_alloc | apply Kd.R_drewN | apply Kd.R_drew)); exact Kd.R_mono HO_8.out (fun _ hk => trivial))); (case aS => exact (below_size (by repeat (first | (with_reducible first | exact HB.out | apply below_alloc | apply pw_below_drewN | apply below_drew1) | exact HB.out)))); (case aL => have := LMc14.out; omega); intro v118 w18 ho hb hg hat; rw [← Ny117.out] at ho; have n0_ := Aside0.mk (hb); have n1_ := Aside0.mk (ho); clear HB; clear HO_8; clear HO116; have HB := n0_; have HO119 := n1_; clear n0_ n1_; clear ho hb hg hat))
                      go_roundg k3
                      case measure => have := HJ3.out; have := HK2.out; have := HK3.out; omega
                      case rel => exact ⟨(y117), (wrap64 (x9_3 + 1)), (by first | rfl | (simp; done) | (simp [*]; done)), H', ⟨by have := HJ3.out; have := HK2.out; have := HK3.out; omega⟩, ⟨by (with_reducible repeat (first | apply Kd.R_alloc | apply Kd.R_drewN | apply Kd.R_drew)); exact HO119.out⟩, ⟨by repeat (first | (with_reducible first | exact HB.out | apply below_alloc | apply pw_below_drewN | apply below_drew1) | exact HB.out)⟩⟩
                    · rw [if_neg c14] at H
                      exact absurd H (by simp)
                  · rw [if_neg c13] at H
                    have c13b0 : decide (x9_3 < a0) = false := decide_eq_false c13
                    clear c13
                    by_cases c19 : x8_3.length < 1759218604441
                    · rw [if_pos c19] at H
                      have LMc19 := Aside0.mk c19
                      clear c19
                      obtain ⟨y120, hy120⟩ : ∃ y_ : List (S30), y_ = (x8_3 ++ [(⟨wrap64 (a0 + 1), 1, 0, 0, ([] : List (S35)), ([] : List (S32))⟩ : S30)]) := ⟨_, rfl⟩
                      replace H : (if (wrap64 (a1 + 1)) = 0 then (none) else (if (wrap64 ((500 : Int).tdiv (wrap64 (a1 + 1)))) > a0 then (lockgatelaw20_WalkDeep.j3 k3 a1 y120 a0) else (lockgatelaw20_WalkDeep.j3 k3 a1 y120 (wrap64 ((500 : Int).tdiv (wrap64 (a1 + 1))))))) = some r := by first | (rw [hy120]; with_reducible exact H) | (have H2_ := (Option.bind_some _ _).symm.trans H; rw [hy120]; with_reducible exact H2_) | (have H2_ := (Option.bind_some _ _).symm.trans H; with_reducible exact H2_) | with_reducible exact H | (rw [hy120]; exact H) | exact H
                      have Ny120 := Aside0.mk hy120
                      clear hy120
                      by_cases c20 : (wrap64 (a1 + 1)) = 0
                      · rw [if_pos c20] at H
                        exact absurd H (by simp)
                      · rw [if_neg c20] at H
                        have c20b0 : ((wrap64 (a1 + 1)) == 0) = false := beq_eq_false_iff_ne.mpr c20
                        have c20b1 : ((wrap64 (a1 + 1)) != 0) = true := bne_iff_ne.mpr c20
                        have HC21 := Aside0.mk H
                        clear H
                        go_upto_if 69 with (first | ((with_reducible refine gate_builtin (b := .append) (xs := #[.tmp 58, .tmp 62]) rfl ?_); (try (refine gate_guard (by rfl) ?_; dsimp only)); at_builtin; refine Kd.R_append k30 (w0 := w) w.heap.size rfl (.tmp 58) (.tmp 62) 22 30 (.agg #[(.int .i64 0), (.int .i64 0), (.int .i64 0), (.int .i64 0), (.slice none 0 0), (.slice none 0 0)]) 80 rfl Try.underlying22 info30 rfl (by decide) (by omega) u8 x8_3 (⟨wrap64 (a0 + 1), 1, 0, 0, ([] : List (S35)), ([] : List (S32))⟩ : S30) [.int .i64 (wrap64 (a0 + 1)), .int .i64 1, .int .i64 0, .int .i64 0, .slice none 0 0, .slice none 0 0] (fun _ => True) (fun k_ => ((fun _ => True)) k_ ∧ some k_ ≠ (u8 : Value).ownBlock) rfl rfl ?aP (fun _ hk => hk) ?aF ?aO ?aB ?aS ?aL ?_; (case aP => exact k30_mkM _ _ _ (⟨wrap64 (a0 + 1), 1, 0, 0, ([] : List (S35)), ([] : List (S32))⟩ : S30) (Kd.R_nil _ _ _ _ _) (Kd.R_nil _ _ _ _ _)); (case aB => exact (by repeat (first | (with_reducible first | exact HB.out | apply below_alloc | apply pw_below_drewN | apply below_drew1) | exact HB.out))); (case aF => exact (fun _ _ => trivial)); (case aO => exact (by (with_reducible repeat (first | apply Kd.R_alloc | apply Kd.R_drewN | apply Kd.R_drew)); exact HO_8.out)); (case aS => exact (below_size (by repeat (first | (with_reducible first | exact HB.out | apply below_alloc | apply pw_below_drewN | apply below_drew1) | exact HB.out)))); (case aL => have := LMc19.out; omega); intro v121 w22 ho hb hg hat; rw [← Ny120.out] at ho; have n0_ := Aside0.mk (hb); have n1_ := Aside0.mk (ho); clear HB; clear HO_8; have HB := n0_; have HO122 := n1_; clear n0_ n1_; clear ho hb hg hat))
                        (try simp only [Act.put, List.setIfInBounds_toArray, List.set_cons_zero, List.set_cons_succ])
                        go_cut [10] (fun v10 wc => ∃ (kq : Nat) (x10_20 : Int), v10 = .int .i64 x10_20 ∧ Aside0 (lockgatelaw20_WalkDeep.j3 kq a1 y120 x10_20 = some r) ∧ Aside0 (kq ≤ k3) ∧ Aside0 (Kd.R k30 30 wc w.heap.size (fun _ => True) v121 y120) ∧ Aside0 (Below w.heap.size w wc))
                        case first =>
                          have H := HC21.out
                          clear HC21
                          by_cases c23 : (wrap64 ((500 : Int).tdiv (wrap64 (a1 + 1)))) > a0
                          · rw [if_pos c23] at H
                            have c23b0 : decide (a0 < (wrap64 ((500 : Int).tdiv (wrap64 (a1 + 1))))) = true := decide_eq_true c23
                            clear c23
                            (first | rw [c23b0] | (simp only [i64_w, i32_w]; rw [c23b0]) | skip)
                            have H' := Aside0.mk H
                            clear H
                            go_wp2
                            go_meet
                            case rel => exact ⟨_, (a0), (by first | rfl | (simp; done) | (simp [*]; done)), H', ⟨by have := HJ3.out; have := HK2.out; have := HK3.out; first | omega | exact Nat.le_refl _⟩, ⟨by (with_reducible repeat (first | apply Kd.R_alloc | apply Kd.R_drewN | apply Kd.R_drew)); exact HO122.out⟩, ⟨by repeat (first | (with_reducible first | exact HB.out | apply below_alloc | apply pw_below_drewN | apply below_drew1) | exact HB.out)⟩⟩
                          · rw [if_neg c23] at H
                            have c23b0 : decide (a0 < (wrap64 ((500 : Int).tdiv (wrap64 (a1 + 1))))) = false := decide_eq_false c23
                            clear c23
                            (first | rw [c23b0] | (simp only [i64_w, i32_w]; rw [c23b0]) | skip)
                            have H' := Aside0.mk H
                            clear H
                            go_wp2
                            go_meet
                            case rel => exact ⟨_, (wrap64 ((500 : Int).tdiv (wrap64 (a1 + 1)))), (by first | rfl | (simp; done) | (simp [*]; done)), H', ⟨by have := HJ3.out; have := HK2.out; have := HK3.out; first | omega | exact Nat.le_refl _⟩, ⟨by (with_reducible repeat (first | apply Kd.R_alloc | apply Kd.R_drewN | apply Kd.R_drew)); exact HO122.out⟩, ⟨by repeat (first | (with_reducible first | exact HB.out | apply below_alloc | apply pw_below_drewN | apply below_drew1) | exact HB.out)⟩⟩
                        case rest =>
                          clear HC21
                          try clear c1
                          try clear c2
                          try clear p2
                          try clear c6
                          try clear p6
                          try clear c7
                          try clear c7b0
                          try clear c8
                          try clear c8b0
                          try clear c9
                          try clear c9b0
                          try clear c10
                          try clear c11
                          try clear c11b0
                          try clear c12
                          try clear c12b0
                          try clear c12b1
                          try clear c12b2
                          try clear c13
                          try clear c13b0
                          try clear c14
                          try clear c19
                          try clear c20
                          try clear c20b0
                          try clear c20b1
                          try clear c23
                          try clear c23b0
                          try clear p2
                          try clear p6
                          obtain ⟨kq, x10_20, rfl, HA, HJ20, HO_8, HB⟩ := hcut
                          cases kq with
                          | zero => exact absurd HA.out (by simp [lockgatelaw20_WalkDeep.j3])
                          | succ kj20 =>
                            have H := HA.out
                            clear HA
                            simp only [lockgatelaw20_WalkDeep.j3] at H
                            replace H := Option.bind_eq_some_iff.mp H
                            obtain ⟨t123, A240, H⟩ := H
                            replace H : (if (t123.length : Int) = x10_20 then (lockgatelaw20_WalkDeep.l2 kj20 a1 y120 t123 0) else (some false)) = some r := H
                            have A24 := Aside0.mk A240
                            clear A240
                            by_cases c25 : (t123.length : Int) = x10_20
                            · rw [if_pos c25] at H
                              have c25b0 : ((t123.length : Int) == x10_20) = true := beq_iff_eq.mpr c25
                              have c25b1 : ((t123.length : Int) != x10_20) = false := bne_eq_false_iff_eq.mpr c25
                              clear c25
                              have H' := Aside0.mk H
                              clear H
                              obtain ⟨Ao26, co26, eo26⟩ := Kd.R_slice HO_8.out
                              subst eo26
                              go_wp2_with (first | ((with_reducible refine gate_callee (f := 19) rfl ?_); refine goesL_ (some 72) rfl rfl Try.func19 (by kernel_rfl) rfl #[.slice Ao26 y120.length co26] rfl (by (try simp only [List.map_toArray, List.map_cons, List.map_nil]); first | done | rfl | (simp only [List.length_drop, List.length_take]; rfl)) ?_; (with_reducible refine (walk_Paths.calls _ _ y120 t123 _ ?side1 ?side2 A24.out).mono ?_); (case side1 => repeat (first | exact (Kd.R_reads' HO_8.out).2.2 | (with_reducible refine Kd.C_alloc ?_ _) | (with_reducible refine Kd.C_drewN ?_ _) | (with_reducible refine Kd.C_drew ?_))); (case side2 => exact (Kd.R_reads' HO_8.out).2.1); rintro e w27 ⟨v124, rfl, ho0, hb⟩; refine ⟨_, rfl, ?_⟩; have n0_ := Aside0.mk (Kd.R_below (by (with_reducible repeat (first | apply Kd.R_alloc | apply Kd.R_drewN | apply Kd.R_drew)); exact HO_8.out) hb); have n1_ := Aside0.mk (Kd.R_lower ho0 (below_size (by repeat (first | (with_reducible first | exact HB.out | apply below_alloc | apply pw_below_drewN | apply below_drew1) | exact HB.out)))); have n2_ := Aside0.mk (below_step (by repeat (first | (with_reducible first | exact HB.out | apply below_alloc | apply pw_below_drewN | apply below_drew1) | exact HB.out)) hb); clear HO_8; clear HB; have HO_8 := n0_; have HO125 := n1_; have HB := n2_; clear n0_ n1_ n2_; (try clear hb); (try clear hb2); (try clear hk); (try clear hi); (try clear ho0); obtain ⟨Ao28, co28, eo28⟩ := Kd.R_slice HO125.out; subst eo28))
                              go_loopg [12] kj20 (fun kq v12 w' => ∃ (x12_5 : Int), v12 = .int .i64 x12_5 ∧ Aside0 (lockgatelaw20_WalkDeep.l2 kq a1 y120 t123 x12_5 = some r) ∧ Aside0 (kq ≤ kj20) ∧ Aside0 (Kd.R k30 30 w' w.heap.size (fun _ => True) (.slice Ao26 y120.length co26) y120) ∧ Aside0 (Kd.R Kd.string 9 w' w.heap.size (fun _ => True) (.slice Ao28 t123.length co28) t123) ∧ Aside0 (Below w.heap.size w w'))
                              case atStart => exact ⟨(0), (by first | rfl | (simp; done) | (simp [*]; done)), H', ⟨Nat.le_refl _⟩, ⟨by (with_reducible repeat (first | apply Kd.R_alloc | apply Kd.R_drewN | apply Kd.R_drew)); exact HO_8.out⟩, ⟨by (with_reducible repeat (first | apply Kd.R_alloc | apply Kd.R_drewN | apply Kd.R_drew)); exact HO125.out⟩, ⟨by repeat (first | (with_reducible first | exact HB.out | apply below_alloc | apply pw_below_drewN | apply below_drew1) | exact HB.out)⟩⟩
                              case round =>
                                clear H'
                                try clear c1
                                try clear c2
                                try clear p2
                                try clear c6
                                try clear p6
                                try clear c7
                                try clear c7b0
                                try clear c8
                                try clear c8b0
                                try clear c9
                                try clear c9b0
                                try clear c10
                                try clear c11
                                try clear c11b0
                                try clear c12
                                try clear c12b0
                                try clear c12b1
                                try clear c12b2
                                try clear c13
                                try clear c13b0
                                try clear c14
                                try clear c19
                                try clear c20
                                try clear c20b0
                                try clear c20b1
                                try clear c23
                                try clear c23b0
                                try clear c25
                                try clear c25b0
                                try clear c25b1
                                try clear p2
                                try clear p6
                                obtain ⟨x12_5, rfl, HA, HK5, HO_8, HO_11, HB⟩ := hrel
                                cases gk with
                                | zero => exact absurd HA.out (by simp [lockgatelaw20_WalkDeep.l2])
                                | succ k5 =>
                                  have H := HA.out
                                  clear HA
                                  simp only [lockgatelaw20_WalkDeep.l2] at H
                                  by_cases c29 : x12_5 < (t123.length : Int)
                                  · rw [if_pos c29] at H
                                    have c29b0 : decide (x12_5 < (t123.length : Int)) = true := decide_eq_true c29
                                    clear c29
                                    by_cases c30 : 0 ≤ x12_5
                                    · rw [if_pos c30] at H
                                      have c30b0 : decide (0 ≤ x12_5) = true := decide_eq_true c30
                                      clear c30
                                      replace H := Option.bind_eq_some_iff.mp H
                                      obtain ⟨⟨t127, t128⟩, A310, H⟩ := H
                                      replace H : ((lockgatelaw20_num.f t128).bind fun t129 => (if t129 = 0 then (if t127 = (wrap64 (x12_5 + 1)) then (if ((rdOf ByteArray.empty t123 x12_5).size : Int) = (wrap64 ((wrap64 (x12_5 + 1)) * (wrap64 (a1 + 1)))) then (lockgatelaw20_WalkDeep.l2 k5 a1 y120 t123 (wrap64 (x12_5 + 1))) else (some false)) else (some false)) else (some false))) = some r := H
                                      have A31 := Aside0.mk A310
                                      clear A310
                                      replace H := Option.bind_eq_some_iff.mp H
                                      obtain ⟨t129, A320, H⟩ := H
                                      replace H : (if t129 = 0 then (if t127 = (wrap64 (x12_5 + 1)) then (if ((rdOf ByteArray.empty t123 x12_5).size : Int) = (wrap64 ((wrap64 (x12_5 + 1)) * (wrap64 (a1 + 1)))) then (lockgatelaw20_WalkDeep.l2 k5 a1 y120 t123 (wrap64 (x12_5 + 1))) else (some false)) else (some false)) else (some false)) = some r := H
                                      have A32 := Aside0.mk A320
                                      clear A320
                                      by_cases c33 : t129 = 0
                                      · rw [if_pos c33] at H
                                        have c33b0 : (t129 == 0) = true := beq_iff_eq.mpr c33
                                        have c33b1 : (t129 != 0) = false := bne_eq_false_iff_eq.mpr c33
                                        clear c33
                                        by_cases c34 : t127 = (wrap64 (x12_5 + 1))
                                        · rw [if_pos c34] at H
                                          have c34b0 : (t127 == (wrap64 (x12_5 + 1))) = true := beq_iff_eq.mpr c34
                                          have c34b1 : (t127 != (wrap64 (x12_5 + 1))) = false := bne_eq_false_iff_eq.mpr c34
                                          clear c34
                                          by_cases c35 : ((rdOf ByteArray.empty t123 x12_5).size : Int) = (wrap64 ((wrap64 (x12_5 + 1)) * (wrap64 (a1 + 1))))
                                          · rw [if_pos c35] at H
                                            have c35b0 : (((rdOf ByteArray.empty t123 x12_5).size : Int) == (wrap64 ((wrap64 (x12_5 + 1)) * (wrap64 (a1 + 1))))) = true := beq_iff_eq.mpr c35
                                            have c35b1 : (((rdOf ByteArray.empty t123 x12_5).size : Int) != (wrap64 ((wrap64 (x12_5 + 1)) * (wrap64 (a1 + 1))))) = false := bne_eq_false_iff_eq.mpr c35
                                            clear c35
                                            have H' := Aside0.mk H
                                            clear H
                                            have p126 : 0 ≤ (x12_5 : Int) := of_decide_eq_true (by first | (with_reducible assumption) | assumption)
                                            have q126 : x12_5 < (t123.length : Int) := of_decide_eq_true (by first | (with_reducible assumption) | assumption)
                                            obtain ⟨ad126, e126, hx126_0⟩ := Kd.at_string (Kd.R_reads' HO_11.out).2.2 x12_5 p126 q126
                                            cases e126
                                            replace p126 := eq_true p126
                                            replace q126 := eq_true q126
                                            go_wp2_with (first | ((with_reducible refine gate_callee (f := 16) rfl ?_); refine goesL_ (some 89) rfl rfl Try.func16 (by kernel_rfl) rfl #[.slice Ao26 y120.length co26, .string (rdOf ByteArray.empty t123 x12_5)] rfl (by (try simp only [List.map_toArray, List.map_cons, List.map_nil]); first | done | rfl | (simp only [List.length_drop, List.length_take]; rfl)) ?_; (with_reducible refine (walk_Find.calls _ _ y120 (rdOf ByteArray.empty t123 x12_5) t127 t128 _ ?side1 ?side2 A31.out).mono ?_); (case side1 => repeat (first | exact (Kd.R_reads' HO_8.out).2.2 | (with_reducible refine Kd.C_alloc ?_ _) | (with_reducible refine Kd.C_drewN ?_ _) | (with_reducible refine Kd.C_drew ?_))); (case side2 => exact (Kd.R_reads' HO_8.out).2.1); rintro e w36 ⟨rfl, hb⟩; refine ⟨_, rfl, ?_⟩; have n0_ := Aside0.mk (Kd.R_below (by (with_reducible repeat (first | apply Kd.R_alloc | apply Kd.R_drewN | apply Kd.R_drew)); exact HO_8.out) hb); have n1_ := Aside0.mk (Kd.R_below (by (with_reducible repeat (first | apply Kd.R_alloc | apply Kd.R_drewN | apply Kd.R_drew)); exact HO_11.out) hb); have n2_ := Aside0.mk (below_step (by repeat (first | (with_reducible first | exact HB.out | apply below_alloc | apply pw_below_drewN | apply below_drew1) | exact HB.out)) hb); clear HO_8; clear HO_11; clear HB; have HO_8 := n0_; have HO_11 := n1_; have HB := n2_; clear n0_ n1_ n2_; (try clear hb); (try clear hb2); (try clear hk); (try clear hi)) | ((with_reducible refine gate_callee (f := 18) rfl ?_); refine goesL_ (some 93) rfl rfl Try.func18 (by kernel_rfl) rfl #[.int .i64 t128] rfl (by (try simp only [List.map_toArray, List.map_cons, List.map_nil]); first | done | rfl | (simp only [List.length_drop, List.length_take]; rfl)) ?_; (with_reducible refine (lockgatelaw20_num.calls t128 t129 _ A32.out).mono ?_); rintro e w' ⟨rfl, ⟨nd, rfl⟩⟩; refine ⟨_, rfl, ?_⟩; have p130 : 0 ≤ (x12_5 : Int) := of_decide_eq_true (by first | (with_reducible assumption) | assumption); have q130 : x12_5 < (t123.length : Int) := of_decide_eq_true (by first | (with_reducible assumption) | assumption); obtain ⟨ad130, e130, hx130_0⟩ := Kd.at_string (Kd.R_reads' HO_11.out).2.2 x12_5 p130 q130; obtain rfl : ad126 = ad130 := (by injection e130); replace p130 := eq_true p130; replace q130 := eq_true q130))
                                            go_roundg k5
                                            case measure => have := HJ3.out; have := HK2.out; have := HK3.out; have := HJ20.out; have := HK5.out; omega
                                            case rel => exact ⟨(wrap64 (x12_5 + 1)), (by first | rfl | (simp; done) | (simp [*]; done)), H', ⟨by have := HJ3.out; have := HK2.out; have := HK3.out; have := HJ20.out; have := HK5.out; omega⟩, ⟨by (with_reducible repeat (first | apply Kd.R_alloc | apply Kd.R_drewN | apply Kd.R_drew)); exact HO_8.out⟩, ⟨by (with_reducible repeat (first | apply Kd.R_alloc | apply Kd.R_drewN | apply Kd.R_drew)); exact HO_11.out⟩, ⟨by repeat (first | (with_reducible first | exact HB.out | apply below_alloc | apply pw_below_drewN | apply below_drew1) | exact HB.out)⟩⟩
                                          · rw [if_neg c35] at H
                                            have c35b0 : (((rdOf ByteArray.empty t123 x12_5).size : Int) == (wrap64 ((wrap64 (x12_5 + 1)) * (wrap64 (a1 + 1))))) = false := beq_eq_false_iff_ne.mpr c35
                                            have c35b1 : (((rdOf ByteArray.empty t123 x12_5).size : Int) != (wrap64 ((wrap64 (x12_5 + 1)) * (wrap64 (a1 + 1))))) = true := bne_iff_ne.mpr c35
                                            obtain rfl := Option.some.inj H
                                            have p126 : 0 ≤ (x12_5 : Int) := of_decide_eq_true (by first | (with_reducible assumption) | assumption)
                                            have q126 : x12_5 < (t123.length : Int) := of_decide_eq_true (by first | (with_reducible assumption) | assumption)
                                            obtain ⟨ad126, e126, hx126_0⟩ := Kd.at_string (Kd.R_reads' HO_11.out).2.2 x12_5 p126 q126
                                            cases e126
                                            replace p126 := eq_true p126
                                            replace q126 := eq_true q126
                                            go_wp2_with (first | ((with_reducible refine gate_callee (f := 16) rfl ?_); refine goesL_ (some 89) rfl rfl Try.func16 (by kernel_rfl) rfl #[.slice Ao26 y120.length co26, .string (rdOf ByteArray.empty t123 x12_5)] rfl (by (try simp only [List.map_toArray, List.map_cons, List.map_nil]); first | done | rfl | (simp only [List.length_drop, List.length_take]; rfl)) ?_; (with_reducible refine (walk_Find.calls _ _ y120 (rdOf ByteArray.empty t123 x12_5) t127 t128 _ ?side1 ?side2 A31.out).mono ?_); (case side1 => repeat (first | exact (Kd.R_reads' HO_8.out).2.2 | (with_reducible refine Kd.C_alloc ?_ _) | (with_reducible refine Kd.C_drewN ?_ _) | (with_reducible refine Kd.C_drew ?_))); (case side2 => exact (Kd.R_reads' HO_8.out).2.1); rintro e w37 ⟨rfl, hb⟩; refine ⟨_, rfl, ?_⟩; have n0_ := Aside0.mk (Kd.R_below (by (with_reducible repeat (first | apply Kd.R_alloc | apply Kd.R_drewN | apply Kd.R_drew)); exact HO_8.out) hb); have n1_ := Aside0.mk (Kd.R_below (by (with_reducible repeat (first | apply Kd.R_alloc | apply Kd.R_drewN | apply Kd.R_drew)); exact HO_11.out) hb); have n2_ := Aside0.mk (below_step (by repeat (first | (with_reducible first | exact HB.out | apply below_alloc | apply pw_below_drewN | apply below_drew1) | exact HB.out)) hb); clear HO_8; clear HO_11; clear HB; have HO_8 := n0_; have HO_11 := n1_; have HB := n2_; clear n0_ n1_ n2_; (try clear hb); (try clear hb2); (try clear hk); (try clear hi)) | ((with_reducible refine gate_callee (f := 18) rfl ?_); refine goesL_ (some 93) rfl rfl Try.func18 (by kernel_rfl) rfl #[.int .i64 t128] rfl (by (try simp only [List.map_toArray, List.map_cons, List.map_nil]); first | done | rfl | (simp only [List.length_drop, List.length_take]; rfl)) ?_; (with_reducible refine (lockgatelaw20_num.calls t128 t129 _ A32.out).mono ?_); rintro e w' ⟨rfl, ⟨nd, rfl⟩⟩; refine ⟨_, rfl, ?_⟩; have p130 : 0 ≤ (x12_5 : Int) := of_decide_eq_true (by first | (with_reducible assumption) | assumption); have q130 : x12_5 < (t123.length : Int) := of_decide_eq_true (by first | (with_reducible assumption) | assumption); obtain ⟨ad130, e130, hx130_0⟩ := Kd.at_string (Kd.R_reads' HO_11.out).2.2 x12_5 p130 q130; obtain rfl : ad126 = ad130 := (by injection e130); replace p130 := eq_true p130; replace q130 := eq_true q130))
                                            go_ret
                                            exact ⟨by first | rfl | (simp [errW_none, errW_some] <;> rfl) | (simp [*, errW_none, errW_some] <;> rfl), by repeat (first | (with_reducible first | exact HB.out | apply below_alloc | apply pw_below_drewN | apply below_drew1) | exact HB.out)⟩
                                        · rw [if_neg c34] at H
                                          have c34b0 : (t127 == (wrap64 (x12_5 + 1))) = false := beq_eq_false_iff_ne.mpr c34
                                          have c34b1 : (t127 != (wrap64 (x12_5 + 1))) = true := bne_iff_ne.mpr c34
                                          obtain rfl := Option.some.inj H
                                          have p126 : 0 ≤ (x12_5 : Int) := of_decide_eq_true (by first | (with_reducible assumption) | assumption)
                                          have q126 : x12_5 < (t123.length : Int) := of_decide_eq_true (by first | (with_reducible assumption) | assumption)
                                          obtain ⟨ad126, e126, hx126_0⟩ := Kd.at_string (Kd.R_reads' HO_11.out).2.2 x12_5 p126 q126
                                          cases e126
                                          replace p126 := eq_true p126
                                          replace q126 := eq_true q126
                                          go_wp2_with (first | ((with_reducible refine gate_callee (f := 16) rfl ?_); refine goesL_ (some 89) rfl rfl Try.func16 (by kernel_rfl) rfl #[.slice Ao26 y120.length co26, .string (rdOf ByteArray.empty t123 x12_5)] rfl (by (try simp only [List.map_toArray, List.map_cons, List.map_nil]); first | done | rfl | (simp only [List.length_drop, List.length_take]; rfl)) ?_; (with_reducible refine (walk_Find.calls _ _ y120 (rdOf ByteArray.empty t123 x12_5) t127 t128 _ ?side1 ?side2 A31.out).mono ?_); (case side1 => repeat (first | exact (Kd.R_reads' HO_8.out).2.2 | (with_reducible refine Kd.C_alloc ?_ _) | (with_reducible refine Kd.C_drewN ?_ _) | (with_reducible refine Kd.C_drew ?_))); (case side2 => exact (Kd.R_reads' HO_8.out).2.1); rintro e w38 ⟨rfl, hb⟩; refine ⟨_, rfl, ?_⟩; have n0_ := Aside0.mk (Kd.R_below (by (with_reducible repeat (first | apply Kd.R_alloc | apply Kd.R_drewN | apply Kd.R_drew)); exact HO_8.out) hb); have n1_ := Aside0.mk (Kd.R_below (by (with_reducible repeat (first | apply Kd.R_alloc | apply Kd.R_drewN | apply Kd.R_drew)); exact HO_11.out) hb); have n2_ := Aside0.mk (below_step (by repeat (first | (with_reducible first | exact HB.out | apply below_alloc | apply pw_below_drewN | apply below_drew1) | exact HB.out)) hb); clear HO_8; clear HO_11; clear HB; have HO_8 := n0_; have HO_11 := n1_; have HB := n2_; clear n0_ n1_ n2_; (try clear hb); (try clear hb2); (try clear hk); (try clear hi)) | ((with_reducible refine gate_callee (f := 18) rfl ?_); refine goesL_ (some 93) rfl rfl Try.func18 (by kernel_rfl) rfl #[.int .i64 t128] rfl (by (try simp only [List.map_toArray, List.map_cons, List.map_nil]); first | done | rfl | (simp only [List.length_drop, List.length_take]; rfl)) ?_; (with_reducible refine (lockgatelaw20_num.calls t128 t129 _ A32.out).mono ?_); rintro e w' ⟨rfl, ⟨nd, rfl⟩⟩; refine ⟨_, rfl, ?_⟩))
                                          go_ret
                                          exact ⟨by first | rfl | (simp [errW_none, errW_some] <;> rfl) | (simp [*, errW_none, errW_some] <;> rfl), by repeat (first | (with_reducible first | exact HB.out | apply below_alloc | apply pw_below_drewN | apply below_drew1) | exact HB.out)⟩
                                      · rw [if_neg c33] at H
                                        have c33b0 : (t129 == 0) = false := beq_eq_false_iff_ne.mpr c33
                                        have c33b1 : (t129 != 0) = true := bne_iff_ne.mpr c33
                                        obtain rfl := Option.some.inj H
                                        have p126 : 0 ≤ (x12_5 : Int) := of_decide_eq_true (by first | (with_reducible assumption) | assumption)
                                        have q126 : x12_5 < (t123.length : Int) := of_decide_eq_true (by first | (with_reducible assumption) | assumption)
                                        obtain ⟨ad126, e126, hx126_0⟩ := Kd.at_string (Kd.R_reads' HO_11.out).2.2 x12_5 p126 q126
                                        cases e126
                                        replace p126 := eq_true p126
                                        replace q126 := eq_true q126
                                        go_wp2_with (first | ((with_reducible refine gate_callee (f := 16) rfl ?_); refine goesL_ (some 89) rfl rfl Try.func16 (by kernel_rfl) rfl #[.slice Ao26 y120.length co26, .string (rdOf ByteArray.empty t123 x12_5)] rfl (by (try simp only [List.map_toArray, List.map_cons, List.map_nil]); first | done | rfl | (simp only [List.length_drop, List.length_take]; rfl)) ?_; (with_reducible refine (walk_Find.calls _ _ y120 (rdOf ByteArray.empty t123 x12_5) t127 t128 _ ?side1 ?side2 A31.out).mono ?_); (case side1 => repeat (first | exact (Kd.R_reads' HO_8.out).2.2 | (with_reducible refine Kd.C_alloc ?_ _) | (with_reducible refine Kd.C_drewN ?_ _) | (with_reducible refine Kd.C_drew ?_))); (case side2 => exact (Kd.R_reads' HO_8.out).2.1); rintro e w39 ⟨rfl, hb⟩; refine ⟨_, rfl, ?_⟩; have n0_ := Aside0.mk (Kd.R_below (by (with_reducible repeat (first | apply Kd.R_alloc | apply Kd.R_drewN | apply Kd.R_drew)); exact HO_8.out) hb); have n1_ := Aside0.mk (Kd.R_below (by (with_reducible repeat (first | apply Kd.R_alloc | apply Kd.R_drewN | apply Kd.R_drew)); exact HO_11.out) hb); have n2_ := Aside0.mk (below_step (by repeat (first | (with_reducible first | exact HB.out | apply below_alloc | apply pw_below_drewN | apply below_drew1) | exact HB.out)) hb); clear HO_8; clear HO_11; clear HB; have HO_8 := n0_; have HO_11 := n1_; have HB := n2_; clear n0_ n1_ n2_; (try clear hb); (try clear hb2); (try clear hk); (try clear hi)) | ((with_reducible refine gate_callee (f := 18) rfl ?_); refine goesL_ (some 93) rfl rfl Try.func18 (by kernel_rfl) rfl #[.int .i64 t128] rfl (by (try simp only [List.map_toArray, List.map_cons, List.map_nil]); first | done | rfl | (simp only [List.length_drop, List.length_take]; rfl)) ?_; (with_reducible refine (lockgatelaw20_num.calls t128 t129 _ A32.out).mono ?_); rintro e w' ⟨rfl, ⟨nd, rfl⟩⟩; refine ⟨_, rfl, ?_⟩))
                                        go_ret
                                        exact ⟨by first | rfl | (simp [errW_none, errW_some] <;> rfl) | (simp [*, errW_none, errW_some] <;> rfl), by repeat (first | (with_reducible first | exact HB.out | apply below_alloc | apply pw_below_drewN | apply below_drew1) | exact HB.out)⟩
                                    · rw [if_neg c30] at H
                                      exact absurd H (by simp)
                                  · rw [if_neg c29] at H
                                    have c29b0 : decide (x12_5 < (t123.length : Int)) = false := decide_eq_false c29
                                    clear c29
                                    obtain rfl := Option.some.inj H
                                    go_wp2
                                    go_ret
                                    exact ⟨by first | rfl | (simp [errW_none, errW_some] <;> rfl) | (simp [*, errW_none, errW_some] <;> rfl), by repeat (first | (with_reducible first | exact HB.out | apply below_alloc | apply pw_below_drewN | apply below_drew1) | exact HB.out)⟩
                            · rw [if_neg c25] at H
                              have c25b0 : ((t123.length : Int) == x10_20) = false := beq_eq_false_iff_ne.mpr c25
                              have c25b1 : ((t123.length : Int) != x10_20) = true := bne_iff_ne.mpr c25
                              obtain rfl := Option.some.inj H
                              obtain ⟨Ao40, co40, eo40⟩ := Kd.R_slice HO_8.out
                              subst eo40
                              go_wp2_with (first | ((with_reducible refine gate_callee (f := 19) rfl ?_); refine goesL_ (some 72) rfl rfl Try.func19 (by kernel_rfl) rfl #[.slice Ao40 y120.length co40] rfl (by (try simp only [List.map_toArray, List.map_cons, List.map_nil]); first | done | rfl | (simp only [List.length_drop, List.length_take]; rfl)) ?_; (with_reducible refine (walk_Paths.calls _ _ y120 t123 _ ?side1 ?side2 A24.out).mono ?_); (case side1 => repeat (first | exact (Kd.R_reads' HO_8.out).2.2 | (with_reducible refine Kd.C_alloc ?_ _) | (with_reducible refine Kd.C_drewN ?_ _) | (with_reducible refine Kd.C_drew ?_))); (case side2 => exact (Kd.R_reads' HO_8.out).2.1); rintro e w41 ⟨v124, rfl, ho0, hb⟩; refine ⟨_, rfl, ?_⟩; have n0_ := Aside0.mk (Kd.R_below (by (with_reducible repeat (first | apply Kd.R_alloc | apply Kd.R_drewN | apply Kd.R_drew)); exact HO_8.out) hb); have n1_ := Aside0.mk (Kd.R_lower ho0 (below_size (by repeat (first | (with_reducible first | exact HB.out | apply below_alloc | apply pw_below_drewN | apply below_drew1) | exact HB.out)))); have n2_ := Aside0.mk (below_step (by repeat (first | (with_reducible first | exact HB.out | apply below_alloc | apply pw_below_drewN | apply below_drew1) | exact HB.out)) hb); clear HO_8; clear HB; have HO_8 := n0_; have HO125 := n1_; have HB := n2_; clear n0_ n1_ n2_; (try clear hb); (try clear hb2); (try clear hk); (try clear hi); (try clear ho0); obtain ⟨Ao42, co42, eo42⟩ := Kd.R_slice HO125.out; subst eo42))
                              go_ret
                              exact ⟨by first | rfl | (simp [errW_none, errW_some] <;> rfl) | (simp [*, errW_none, errW_some] <;> rfl), by repeat (first | (with_reducible first | exact HB.out | apply below_alloc | apply pw_below_drewN | apply below_drew1) | exact HB.out)⟩
                    · rw [if_neg c19] at H
                      exact absurd H (by simp)

/-- THE ONE PURE STATEMENT of lockgatelaw20_WalkDeep: yours. -/
def lockgatelaw20_WalkDeep.Pure : Prop := ∀ (a0 : Int) (a1 : Int), (Lit.int .i64 a0).wf = true → (Lit.int .i64 a1).wf = true → ∃ k, lockgatelaw20_WalkDeep.f k a0 a1 = some true
theorem lockgatelaw20_WalkDeep.walk (P : lockgatelaw20_WalkDeep.Pure) (a0 : Int) (a1 : Int) (w : World) (w0 : (Lit.int .i64 a0).wf = true) (w1 : (Lit.int .i64 a1).wf = true) :
    Calls Try.prog 7 #[.int .i64 a0, .int .i64 a1] w fun e w' => e = .returned (.bool true) ∧ Below w.heap.size w w' := by
  obtain ⟨k, h⟩ := P a0 a1 w0 w1
  refine (lockgatelaw20_WalkDeep.calls k a0 a1 true w h).mono ?_
  rintro e w' ⟨rfl, hd⟩
  exact ⟨rfl, hd⟩

end Go.Proofs.Ytnmlmbbacicojaa.PWalkSame
namespace Go.Proofs.Ytnmlmbbacicojaa.Pure
open Go.RowKit Go.Proofs.Ytnmlmbbacicojaa.PWalkSame Go.Proofs.YtnmlmbbacicojaaW.PrintWords Go.Proofs.YtnmlmbbacicojaaW.PrintLast
set_option linter.unusedVariables false
set_option linter.unusedSimpArgs false

theorem tdiv_nat (a b : Nat) : (a : Int).tdiv (b : Int) = ((a / b : Nat) : Int) := by rw [Int.tdiv_eq_ediv_of_nonneg (by omega)]; rfl
theorem wrapn {x : Int} (h1 : -4611686018427387904 ≤ x) (h2 : x ≤ 4611686018427387904) : wrap64 x = x := by unfold wrap64; omega
theorem l2_ev {m n W : Nat} (h1 : 1 ≤ m) (h2 : m ≤ 27) (hn : n ≤ 60) (hW : W = min n (500 / (m + 1))) (d : Nat) : ∀ i : Nat, i + d = W → Ev (fun k => lockgatelaw20_WalkDeep.l2 k (m : Int) (chain m n) ((List.range W).map (fun t => pth m (t + 1))) (i : Int)) true := by
  have hok := chain_ok (m := m) (n := n) h2 hn
  induction d with
  | zero =>
    intro i hi
    refine Ev.step (f := fun _ => some true) (fun k => ?_) (Ev.now _)
    rw [lockgatelaw20_WalkDeep.l2.eq_2]
    rw [if_neg (by simp; omega)]
  | succ d ih =>
    intro i hi
    refine Ev.step (fun k => ?_) (ih (i + 1) (by omega))
    have hlt : i < W := by omega
    have hr : rdOf ByteArray.empty ((List.range W).map (fun t => pth m (t + 1))) (i : Int) = pth m (i + 1) := by
      unfold rdOf; simp [hlt]
    have hle : i + 1 ≤ 500 / (m + 1) := by omega
    have hmul := (Nat.le_div_iff_mul_le (x := i + 1) (y := 500) (k := m + 1) (by omega)).1 hle
    have hf : walk_Find.f (chain m n) (pth m (i + 1)) = some (((i + 1 : Nat) : Int), 0) := by
      unfold walk_Find.f
      rw [dif_pos ⟨hok, by rw [pth_size]; omega⟩, find_chain h1 h2 hmul (by omega)]
    have hw : wrap64 ((i : Int) + 1) = ((i + 1 : Nat) : Int) := by rw [wrapn (by omega) (by omega)]; omega
    have hw2 : wrap64 ((m : Int) + 1) = ((m + 1 : Nat) : Int) := by rw [wrapn (by omega) (by omega)]; omega
    have hw3 : wrap64 (((i + 1 : Nat) : Int) * ((m + 1 : Nat) : Int)) = (((i + 1) * (m + 1) : Nat) : Int) := by
      rw [← Int.natCast_mul, wrapn (by omega) (by omega)]
    rw [lockgatelaw20_WalkDeep.l2.eq_2]
    rw [if_pos (by simp; omega), if_pos (by omega), hr, hf]
    have hnum : ∀ p : Int × Int, p.2 = 0 → lockgatelaw20_num.f p.2 = some 0 := fun p hp => by unfold lockgatelaw20_num.f; rw [hp]
    rw [Option.bind_some, hnum _ rfl, Option.bind_some, if_pos rfl, hw, if_pos rfl, hw2, hw3, pth_size, if_pos rfl]
theorem j3_ev {m n W : Nat} (h1 : 1 ≤ m) (h2 : m ≤ 27) (hn : n ≤ 60) (hW : W = min n (500 / (m + 1))) : Ev (fun k => lockgatelaw20_WalkDeep.j3 k (m : Int) (chain m n) (W : Int)) true := by
  refine Ev.step (fun k => ?_) (l2_ev h1 h2 hn hW W 0 (by omega))
  rw [lockgatelaw20_WalkDeep.j3.eq_2]
  unfold walk_Paths.f
  rw [dif_pos (chain_ok h2 hn), paths_chain m n hn, ← hW]
  rw [Option.bind_some, if_pos (by simp)]
  rfl
theorem l1_ev {m n : Nat} (h1 : 1 ≤ m) (h2 : m ≤ 27) (hn : n ≤ 60) (d : Nat) : ∀ i : Nat, i + d = n → Ev (fun k => lockgatelaw20_WalkDeep.l1 k (n : Int) (m : Int) (sd m) ((List.range i).map (dnode m)) (i : Int)) true := by
  induction d with
  | zero =>
    intro i hi
    obtain rfl : i = n := by omega
    refine Ev.step (fun k => ?_) (j3_ev (W := min i (500 / (m + 1))) h1 h2 hn rfl)
    rw [lockgatelaw20_WalkDeep.l1.eq_2]
    rw [if_neg (by omega), if_pos (by simp; omega), Option.bind_some]
    have hw : wrap64 ((i : Int) + 1) = (i : Int) + 1 := wrapn (by omega) (by omega)
    have hw2 : wrap64 ((m : Int) + 1) = ((m + 1 : Nat) : Int) := by rw [wrapn (by omega) (by omega)]; omega
    have hd : (500 : Int).tdiv ((m + 1 : Nat) : Int) = ((500 / (m + 1) : Nat) : Int) := tdiv_nat 500 (m + 1)
    have hb : 500 / (m + 1) ≤ 500 := Nat.div_le_self _ _
    rw [hw, hw2, if_neg (by omega), hd]
    clear hd
    generalize 500 / (m + 1) = q at hb ⊢
    rw [wrapn (x := (q : Int)) (by omega) (by omega)]
    have hc : (List.range i).map (dnode m) ++ [(⟨(i : Int) + 1, 1, 0, 0, ([] : List (S35)), ([] : List (S32))⟩ : S30)] = chain m i := rfl
    rw [hc]
    by_cases hg : (q : Int) > (i : Int)
    · rw [if_pos hg, show min i q = i by omega]
    · rw [if_neg hg, show min i q = q by omega]
  | succ d ih =>
    intro i hi
    refine Ev.step (fun k => ?_) (ih (i + 1) (by omega))
    rw [lockgatelaw20_WalkDeep.l1.eq_2]
    rw [if_pos (by omega), if_pos (by simp; omega), wrapn (x := (i : Int) + 1) (by omega) (by omega), wrapn (x := (i : Int) + 2) (by omega) (by omega), List.range_succ, List.map_append]
    rfl
theorem l0_ev {m n : Nat} (h1 : 1 ≤ m) (h2 : m ≤ 27) (hn : n ≤ 60) (d : Nat) : ∀ i : Nat, i + d = m → Ev (fun k => lockgatelaw20_WalkDeep.l0 k (n : Int) (m : Int) (sd i) (i : Int)) true := by
  induction d with
  | zero =>
    intro i hi
    obtain rfl : i = m := by omega
    refine Ev.step (fun k => ?_) (l1_ev h1 h2 hn n 0 (by omega))
    rw [lockgatelaw20_WalkDeep.l0.eq_2]
    rw [if_neg (by omega)]
    rfl
  | succ d ih =>
    intro i hi
    refine Ev.step (fun k => ?_) (ih (i + 1) (by omega))
    have hs : sd i ++ (⟨#[100]⟩ : ByteArray) = sd (i + 1) := by
      have h : (sd i ++ (⟨#[100]⟩ : ByteArray)).data.toList = nm (i + 1) := by
        unfold nm; rw [List.replicate_succ']; simp [ByteArray.data_append, sd, nm]
      rw [← bs_of (sd i ++ (⟨#[100]⟩ : ByteArray)), h]; rfl
    rw [lockgatelaw20_WalkDeep.l0.eq_2]
    rw [if_pos (by omega), if_pos (by unfold sd; rw [bs_size, nm_len]; omega), hs, wrapn (by omega) (by omega)]
    rfl
theorem WalkDeep : lockgatelaw20_WalkDeep.Pure := by
  intro n m hn hm
  have H : Ev (fun k => lockgatelaw20_WalkDeep.f k n m) true := by
    have j0t : Ev (fun k => lockgatelaw20_WalkDeep.j0 k n m true true) true := Ev.step (f := fun _ => some true) (fun k => by rw [lockgatelaw20_WalkDeep.j0.eq_2, if_pos rfl]) (Ev.now _)
    by_cases c1 : n < 1
    · refine Ev.congr (fun k => ?_) j0t
      unfold lockgatelaw20_WalkDeep.f lockgatelaw20_alive.f; rw [Option.bind_some, if_pos rfl, if_pos c1]
    · by_cases c2 : n > 60
      · refine Ev.congr (fun k => ?_) j0t
        unfold lockgatelaw20_WalkDeep.f lockgatelaw20_alive.f; rw [Option.bind_some, if_pos rfl, if_neg c1, if_pos c2]
      · by_cases c3 : m < 1
        · refine Ev.congr (fun k => ?_) j0t
          unfold lockgatelaw20_WalkDeep.f lockgatelaw20_alive.f; rw [Option.bind_some, if_pos rfl, if_neg c1, if_neg c2, if_pos c3]
        · by_cases c4 : m > 27
          · refine Ev.congr (fun k => ?_) j0t
            unfold lockgatelaw20_WalkDeep.f lockgatelaw20_alive.f; rw [Option.bind_some, if_pos rfl, if_neg c1, if_neg c2, if_neg c3, decide_eq_true c4]
          · obtain ⟨n', rfl⟩ : ∃ k : Nat, n = k := ⟨n.toNat, by omega⟩
            obtain ⟨m', rfl⟩ : ∃ k : Nat, m = k := ⟨m.toNat, by omega⟩
            have h0 := l0_ev (m := m') (n := n') (by omega) (by omega) (by omega) m' 0 (by omega)
            refine Ev.congr (g := fun k => lockgatelaw20_WalkDeep.f k n' m') (f := fun k => lockgatelaw20_WalkDeep.j0 k n' m' true false) (fun k => ?_) (Ev.step (fun k => ?_) h0)
            · unfold lockgatelaw20_WalkDeep.f lockgatelaw20_alive.f; rw [Option.bind_some, if_pos rfl, if_neg c1, if_neg c2, if_neg c3, decide_eq_false c4]
            · rw [lockgatelaw20_WalkDeep.j0.eq_2]
              rw [if_neg (by simp)]
              rfl
  exact H.rounds
end Go.Proofs.Ytnmlmbbacicojaa.Pure
