/-
  LocksShared in plain words: what each call makes. No program.
-/
import Derived.Test.YtcmiboipgngjaaaT
namespace Go.Proofs.Ytcmiboipgngjaaa
set_option linter.unusedVariables false
set_option linter.unusedSimpArgs false
open Go.RowKit

/-- where no holder waits nobody is stuck -/
theorem none_stuck {H R : List Lk} (hd : (R.map Lk.th).Nodup) (h : ∀ x ∈ H, waitsP R x.th = false) (u : Int) : ¬ stuckP H R u := by
  rintro ⟨T, hT, hu⟩
  obtain ⟨x, hx, e1, -⟩ := hT u hu
  have hTH : ∀ z ∈ H, ¬ T z.th := fun z hz ht => by
    obtain ⟨y, hy, e, -⟩ := hT z.th ht
    have : waitsP R z.th = true := waitsP_mem.2 ⟨y, hy, e⟩
    rw [h z hz] at this; cases this
  obtain ⟨a, z, b, e2, hz, hf⟩ := first_with (l := onT x.tg R) (p := fun y : Lk => T y.th) ⟨x, mem_onT.2 ⟨hx, rfl⟩, by rw [e1]; exact hu⟩
  have hzm : z ∈ onT x.tg R := by rw [e2]; simp
  obtain ⟨hzR, hzt⟩ := mem_onT.1 hzm
  obtain ⟨z', hz', e3, h3⟩ := hT z.th hz
  obtain rfl := nd_inj hd hz' hzR e3
  rw [hzt] at h3
  rcases h3 with ⟨pre, post, e4, y, hy, hTy⟩ | ⟨y, hy, -, hTy⟩
  · have := split_uniq (e2 ▸ nodup_of_map (nd_onT hd x.tg)) (e2.symm.trans e4)
    rw [← this] at hy
    exact hf y hy hTy
  · exact hTH y (mem_onT.1 hy).1 hTy
theorem wf_mk {a b : Int} (h : -1000000 ≤ a ∧ a ≤ 1000000) (h2 : -1000000 ≤ b ∧ b ≤ 1000000) : (Lit.int .i64 a).wf = true ∧ (Lit.int .i64 b).wf = true := ⟨wf64 ⟨by omega, by omega⟩, wf64 ⟨by omega, by omega⟩⟩
def shM (i : Nat) : Lk := ⟨i, 1, false⟩
def shB (j : Nat) : Lk := ⟨200 + j, 1, false⟩
def sh100 : Lk := ⟨100, 1, true⟩
/-- the holders from i to n -/
def shH (i n : Nat) : List Lk := (List.range' i n).map shM
def shR (m : Nat) : List Lk := (List.range m).map shB
theorem onT_all {l : List Lk} {k : Int} (h : ∀ x ∈ l, x.tg = k) : onT k l = l := List.filter_eq_self.2 fun x hx => by simp [h x hx]
theorem shH_mem {i n : Nat} {x : Lk} (h : x ∈ shH i n) : ∃ j, i ≤ j ∧ j < i + n ∧ x = shM j := by
  obtain ⟨j, hj, rfl⟩ := List.mem_map.1 h
  rw [List.mem_range'_1] at hj
  exact ⟨j, hj.1, hj.2, rfl⟩
theorem shR_mem {m : Nat} {x : Lk} (h : x ∈ shR m) : ∃ j, j < m ∧ x = shB j := by
  obtain ⟨j, hj, rfl⟩ := List.mem_map.1 h
  exact ⟨j, List.mem_range.1 hj, rfl⟩
theorem onT_shH (i n : Nat) : onT 1 (shH i n) = shH i n := onT_all fun x hx => by obtain ⟨j, -, -, rfl⟩ := shH_mem hx; rfl
theorem onT_shR (m : Nat) : onT 1 (shR m) = shR m := onT_all fun x hx => by obtain ⟨j, -, rfl⟩ := shR_mem hx; rfl
theorem onT_sh1R (m : Nat) : onT 1 (sh100 :: shR m) = sh100 :: shR m := onT_all fun x hx => by
  rcases List.mem_cons.1 hx with rfl | hx
  · rfl
  · obtain ⟨j, -, rfl⟩ := shR_mem hx; rfl
theorem shH_succ (n : Nat) : shH 0 (n + 1) = shH 0 n ++ [shM n] := by unfold shH; rw [List.range'_concat, List.map_append]; simp
theorem shR_succ (n : Nat) : shR (n + 1) = shR n ++ [shB n] := by unfold shR; rw [List.range_succ, List.map_append]; rfl
theorem sh_holds {i n : Nat} {th : Int} (h : th < i ∨ i + n ≤ th) : holdsP (shH i n) th 1 = false := by
  unfold holdsP
  refine List.any_eq_false.2 fun x hx => ?_
  obtain ⟨j, h1, h2, rfl⟩ := shH_mem hx
  have : ¬ (j : Int) = th := by omega
  simp [shM, this]
theorem sh_waits {m : Nat} {th : Int} (h : th < 100) : waitsP (sh100 :: shR m) th = false := by
  unfold waitsP
  refine List.any_eq_false.2 fun x hx => ?_
  rcases List.mem_cons.1 hx with rfl | hx
  · have : ¬ (100 : Int) = th := by omega
    simp [sh100, this]
  · obtain ⟨j, h1, rfl⟩ := shR_mem hx
    have : ¬ (200 + (j : Int)) = th := by omega
    simp [shB, this]
theorem sh_waits2 (m : Nat) : waitsP (sh100 :: shR m) (200 + (m : Int)) = false := by
  unfold waitsP
  refine List.any_eq_false.2 fun x hx => ?_
  rcases List.mem_cons.1 hx with rfl | hx
  · have : ¬ (100 : Int) = 200 + (m : Int) := by omega
    simp [sh100, this]
  · obtain ⟨j, h1, rfl⟩ := shR_mem hx
    have : ¬ (200 + (j : Int)) = 200 + (m : Int) := by omega
    simp [shB, this]
theorem sh_ask1 (i : Nat) : askB (shH 0 i) [] (shM i) = true ∧ askH (shH 0 i) [] (shM i) = shH 0 (i + 1) ∧ askR (shH 0 i) [] (shM i) = [] := by
  have h1 : waitsP [] (shM i).th = false := rfl
  have h2 : holdsP (shH 0 i) (shM i).th (shM i).tg = false := sh_holds (.inr (by show ((0 + i : Nat) : Int) ≤ i; omega))
  have h3 : freeP (shH 0 i) [] (shM i) = true := by
    unfold freeP
    rw [show onT (shM i).tg (shH 0 i) = shH 0 i from onT_shH 0 i]
    rw [Bool.and_eq_true]
    refine ⟨rfl, beside_true.2 fun x hx => ?_⟩
    obtain ⟨j, -, -, rfl⟩ := shH_mem hx
    exact ⟨rfl, rfl⟩
  unfold askB askH askR askB
  rw [h1, h2, h3, shH_succ]
  exact ⟨rfl, rfl, rfl⟩
theorem sh_ask2 {n : Nat} (hn : 1 ≤ n) (hn2 : n ≤ 20) : askB (shH 0 n) [] sh100 = false ∧ askH (shH 0 n) [] sh100 = shH 0 n ∧ askR (shH 0 n) [] sh100 = [sh100] := by
  have h1 : waitsP [] sh100.th = false := rfl
  have h2 : holdsP (shH 0 n) sh100.th sh100.tg = false := sh_holds (.inr (by show ((0 + n : Nat) : Int) ≤ 100; omega))
  have h3 : freeP (shH 0 n) [] sh100 = false := by
    unfold freeP
    rw [show onT sh100.tg (shH 0 n) = shH 0 n from onT_shH 0 n]
    have : besideL (shH 0 n) sh100 = false := beside_false.2 ⟨shM 0, List.mem_map.2 ⟨0, by rw [List.mem_range'_1]; omega, rfl⟩, .inr rfl⟩
    rw [this, Bool.and_false]
  unfold askB askH askR askB
  rw [h1, h2, h3]
  exact ⟨rfl, rfl, rfl⟩
theorem sh_ask3 {n m : Nat} (hn2 : n ≤ 20) : askB (shH 0 n) (sh100 :: shR m) (shB m) = false ∧ askH (shH 0 n) (sh100 :: shR m) (shB m) = shH 0 n ∧ askR (shH 0 n) (sh100 :: shR m) (shB m) = sh100 :: shR (m + 1) := by
  have h1 : waitsP (sh100 :: shR m) (shB m).th = false := sh_waits2 m
  have h2 : holdsP (shH 0 n) (shB m).th (shB m).tg = false := sh_holds (.inr (by show ((0 + n : Nat) : Int) ≤ 200 + (m : Int); omega))
  have h3 : freeP (shH 0 n) (sh100 :: shR m) (shB m) = false := by
    unfold freeP
    rw [show onT (shB m).tg (sh100 :: shR m) = sh100 :: shR m from onT_sh1R m]
    rfl
  unfold askB askH askR askB
  rw [h1, h2, h3, shR_succ]
  exact ⟨rfl, rfl, rfl⟩
theorem sh_ok1 : ∀ i, i ≤ 20 → Ok (shH 0 i) []
  | 0, _ => Ok.nil
  | i + 1, h => by
    obtain ⟨-, e1, e2⟩ := sh_ask1 i
    have := (sh_ok1 i (by omega)).ask (x := shM i) (wf_mk ⟨by show (-1000000 : Int) ≤ i; omega, by show (i : Int) ≤ 1000000; omega⟩ (show -1000000 ≤ (1 : Int) ∧ (1 : Int) ≤ 1000000 from ⟨by decide, by decide⟩))
    rwa [e1, e2] at this
theorem sh_ok2 {n : Nat} (hn : 1 ≤ n) (hn2 : n ≤ 20) : ∀ m, m ≤ 20 → Ok (shH 0 n) (sh100 :: shR m)
  | 0, _ => by
    obtain ⟨-, e1, e2⟩ := sh_ask2 hn hn2
    have := (sh_ok1 n hn2).ask (x := sh100) (wf_mk ⟨by decide, by decide⟩ ⟨by decide, by decide⟩)
    rwa [e1, e2] at this
  | m + 1, h => by
    obtain ⟨-, e1, e2⟩ := sh_ask3 (n := n) (m := m) hn2
    have := (sh_ok2 hn hn2 m (by omega)).ask (x := shB m) (wf_mk ⟨by show (-1000000 : Int) ≤ 200 + (m : Int); omega, by show 200 + (m : Int) ≤ 1000000; omega⟩ (show -1000000 ≤ (1 : Int) ∧ (1 : Int) ≤ 1000000 from ⟨by decide, by decide⟩))
    rwa [e1, e2] at this
theorem sh_none {n m : Nat} (hn : 1 ≤ n) (hn2 : n ≤ 20) (hm : m ≤ 20) (u : Int) : ¬ stuckP (shH 0 n) (sh100 :: shR m) u :=
  none_stuck (sh_ok2 hn hn2 m hm).nd (fun x hx => by obtain ⟨j, -, h2, rfl⟩ := shH_mem hx; exact sh_waits (by show (j : Int) < 100; omega)) u
theorem sh_off (i n : Nat) : offT i 1 (shH i (n + 1)) = shH (i + 1) n := by
  unfold shH
  rw [List.range'_succ, List.map_cons]
  unfold offT
  rw [List.filter_cons]
  rw [if_neg (by simp [shM])]
  refine List.filter_eq_self.2 fun x hx => ?_
  obtain ⟨j, h1, h2, rfl⟩ := shH_mem hx
  have : ¬ (j : Int) = i := by omega
  simp [shM, this]
/-- one of many lets go -/
theorem sh_rel (i n m : Nat) : gotP (shH i (n + 2)) (sh100 :: shR m) i 1 = [] ∧ relH (shH i (n + 2)) (sh100 :: shR m) i 1 = shH (i + 1) (n + 1) ∧ relR (shH i (n + 2)) (sh100 :: shR m) i 1 = sh100 :: shR m := by
  have e : gotP (shH i (n + 2)) (sh100 :: shR m) i 1 = [] := by
    unfold gotP
    rw [sh_off, onT_shH, onT_sh1R, grant_no]
    exact beside_false.2 ⟨shM (i + 1), List.mem_map.2 ⟨i + 1, by rw [List.mem_range'_1]; omega, rfl⟩, .inr rfl⟩
  refine ⟨e, by unfold relH; rw [e, sh_off, List.append_nil], ?_⟩
  unfold relR
  rw [e]
  exact List.filter_eq_self.2 fun x _ => rfl
/-- the last lets go -/
theorem sh_last (i m : Nat) : gotP (shH i 1) (sh100 :: shR m) i 1 = [sh100] ∧ relH (shH i 1) (sh100 :: shR m) i 1 = [sh100] ∧ relR (shH i 1) (sh100 :: shR m) i 1 = shR m := by
  have e : gotP (shH i 1) (sh100 :: shR m) i 1 = [sh100] := by
    unfold gotP
    rw [sh_off i 0, onT_sh1R]
    show (grantL [] (sh100 :: shR m)).1 = _
    rw [grant_yes rfl]
    cases m with
    | zero => rfl
    | succ m =>
      have : shR (m + 1) = shB 0 :: (List.range' 1 m).map shB := by unfold shR; rw [List.range_eq_range', List.range'_succ, List.map_cons]
      rw [this, grant_no rfl]
  refine ⟨e, by unfold relH; rw [e, sh_off i 0]; rfl, ?_⟩
  unfold relR
  rw [e, List.filter_cons, if_neg (by simp)]
  refine List.filter_eq_self.2 fun x hx => ?_
  obtain ⟨j, h1, rfl⟩ := shR_mem hx
  have : ¬ (100 : Int) = 200 + (j : Int) := by omega
  simp [sh100, shB, this]
theorem grant_shared : ∀ (w h : List Lk), (∀ x ∈ h, x.al = false) → (∀ x ∈ w, x.al = false) → grantL h w = (w, [])
  | [], h, _, _ => rfl
  | x :: w, h, hh, hw => by
    have hb : besideL h x = true := beside_true.2 fun y hy => ⟨hh y hy, hw x (by simp)⟩
    rw [grant_yes hb, grant_shared w (h ++ [x]) (fun y hy => by
      rcases List.mem_append.1 hy with hy | hy
      · exact hh y hy
      · rw [List.mem_singleton.1 hy]; exact hw x (by simp)) (fun y hy => hw y (by simp [hy]))]
theorem sh_all (m : Nat) : gotP [sh100] (shR m) 100 1 = shR m ∧ relH [sh100] (shR m) 100 1 = shR m := by
  have e0 : offT 100 1 [sh100] = [] := rfl
  have e : gotP [sh100] (shR m) 100 1 = shR m := by
    unfold gotP
    rw [e0, onT_shR]
    show (grantL [] (shR m)).1 = _
    rw [grant_shared _ _ (by simp) (fun x hx => by obtain ⟨j, -, rfl⟩ := shR_mem hx; rfl)]
  exact ⟨e, by unfold relH; rw [e, e0]; rfl⟩
theorem shR_len (m : Nat) : (shR m).length = m := by unfold shR; simp
theorem shH_len (i n : Nat) : (shH i n).length = n := by unfold shH; simp
end Go.Proofs.Ytcmiboipgngjaaa
