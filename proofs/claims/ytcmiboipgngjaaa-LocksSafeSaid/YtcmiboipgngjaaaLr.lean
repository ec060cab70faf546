/-
  LocksRing in plain words. No program.
-/
import Derived.Test.YtcmiboipgngjaaaWs
namespace Go.Proofs.Ytcmiboipgngjaaa
set_option linter.unusedVariables false
set_option linter.unusedSimpArgs false
open Go.RowKit

theorem ask_row {H R : List Lk} {x : Lk} (h1 : ∀ y ∈ R, y.th ≠ x.th) (h2 : ∀ y ∈ H, ¬ (y.th = x.th ∧ y.tg = x.tg)) (h3 : ∃ h ∈ H, h.tg = x.tg ∧ (h.al = true ∨ x.al = true)) : askB H R x = false ∧ askH H R x = H ∧ askR H R x = R ++ [x] := by
  have e1 : waitsP R x.th = false := by
    cases hq : waitsP R x.th with
    | false => rfl
    | true => obtain ⟨y, hy, e⟩ := waitsP_mem.1 hq; exact absurd e (h1 y hy)
  have e2 : holdsP H x.th x.tg = false := by
    cases hq : holdsP H x.th x.tg with
    | false => rfl
    | true => obtain ⟨y, hy, e⟩ := holdsP_mem.1 hq; exact absurd e (h2 y hy)
  have e3 : freeP H R x = false := by
    unfold freeP
    obtain ⟨h, hh, e, hc⟩ := h3
    rw [beside_false.2 ⟨h, mem_onT.2 ⟨hh, e⟩, hc⟩, Bool.and_false]
  unfold askB askH askR askB
  rw [e1, e2, e3]
  exact ⟨rfl, rfl, rfl⟩
theorem ask_yes {H R : List Lk} {x : Lk} (h1 : ∀ y ∈ R, y.th ≠ x.th ∧ y.tg ≠ x.tg) (h2 : ∀ y ∈ H, y.tg ≠ x.tg) : askB H R x = true ∧ askH H R x = H ++ [x] ∧ askR H R x = R := by
  have e1 : waitsP R x.th = false := by
    cases hq : waitsP R x.th with
    | false => rfl
    | true => obtain ⟨y, hy, e⟩ := waitsP_mem.1 hq; exact absurd e (h1 y hy).1
  have e2 : holdsP H x.th x.tg = false := by
    cases hq : holdsP H x.th x.tg with
    | false => rfl
    | true => obtain ⟨y, hy, e⟩ := holdsP_mem.1 hq; exact absurd e.2 (h2 y hy)
  have e4 : onT x.tg R = [] := List.eq_nil_iff_forall_not_mem.2 fun y hy => (h1 y (mem_onT.1 hy).1).2 (mem_onT.1 hy).2
  have e5 : onT x.tg H = [] := List.eq_nil_iff_forall_not_mem.2 fun y hy => h2 y (mem_onT.1 hy).1 (mem_onT.1 hy).2
  have e3 : freeP H R x = true := by unfold freeP; rw [e4, e5]; rfl
  unfold askB askH askR askB
  rw [e1, e2, e3]
  exact ⟨rfl, rfl, rfl⟩
def rgm (f : Nat → Lk) (i : Nat) : List Lk := (List.range i).map f
theorem rgm_mem {f : Nat → Lk} {i : Nat} {x : Lk} : x ∈ rgm f i ↔ ∃ j, j < i ∧ x = f j := by
  unfold rgm
  rw [List.mem_map]
  constructor
  · rintro ⟨j, hj, rfl⟩; exact ⟨j, List.mem_range.1 hj, rfl⟩
  · rintro ⟨j, hj, rfl⟩; exact ⟨j, List.mem_range.2 hj, rfl⟩
theorem rgm_succ (f : Nat → Lk) (i : Nat) : rgm f (i + 1) = rgm f i ++ [f i] := by unfold rgm; rw [List.range_succ, List.map_append]; rfl
theorem rgm_len (f : Nat → Lk) (i : Nat) : (rgm f i).length = i := by unfold rgm; simp
def fH (i : Nat) : Lk := ⟨i, i, true⟩
def fA (n i : Nat) : Lk := ⟨i, ((i + 1) % n : Nat), true⟩
def fB (n j : Nat) : Lk := ⟨100 + j, (j % n : Nat), false⟩
def fD (k : Nat) : Lk := ⟨300 + k, 50, true⟩
def f5 : Lk := ⟨500, 50, true⟩
theorem rg_ask1 (i : Nat) : askB (rgm fH i) [] (fH i) = true ∧ askH (rgm fH i) [] (fH i) = rgm fH (i + 1) ∧ askR (rgm fH i) [] (fH i) = [] := by
  rw [rgm_succ]
  exact ask_yes (by simp) (fun y hy => by obtain ⟨j, hj, rfl⟩ := rgm_mem.1 hy; show (j : Int) ≠ i; omega)
theorem rg_ask2 {n i : Nat} (hn : 2 ≤ n) (hi : i < n) : askB (rgm fH n) (rgm (fA n) i) (fA n i) = false ∧ askH (rgm fH n) (rgm (fA n) i) (fA n i) = rgm fH n ∧ askR (rgm fH n) (rgm (fA n) i) (fA n i) = rgm (fA n) (i + 1) := by
  rw [rgm_succ]
  have hm : (i + 1) % n < n := Nat.mod_lt _ (by omega)
  have hne : (i + 1) % n ≠ i := by
    by_cases h : i + 1 = n
    · rw [h, Nat.mod_self]; omega
    · rw [Nat.mod_eq_of_lt (by omega)]; omega
  refine ask_row (fun y hy => by obtain ⟨j, hj, rfl⟩ := rgm_mem.1 hy; show (j : Int) ≠ i; omega) (fun y hy => ?_) ⟨fH ((i + 1) % n), rgm_mem.2 ⟨_, hm, rfl⟩, rfl, .inl rfl⟩
  obtain ⟨j, hj, rfl⟩ := rgm_mem.1 hy
  rintro ⟨e1, e2⟩
  have e1 : (j : Int) = i := e1
  have e2 : (j : Int) = ((i + 1) % n : Nat) := e2
  omega
theorem rg_ask3 {n j : Nat} (hn : 2 ≤ n) (hn2 : n ≤ 15) : askB (rgm fH n) (rgm (fA n) n ++ rgm (fB n) j) (fB n j) = false ∧ askH (rgm fH n) (rgm (fA n) n ++ rgm (fB n) j) (fB n j) = rgm fH n ∧ askR (rgm fH n) (rgm (fA n) n ++ rgm (fB n) j) (fB n j) = rgm (fA n) n ++ rgm (fB n) (j + 1) := by
  rw [rgm_succ, ← List.append_assoc]
  have hm : j % n < n := Nat.mod_lt _ (by omega)
  refine ask_row (fun y hy => ?_) (fun y hy => ?_) ⟨fH (j % n), rgm_mem.2 ⟨_, hm, rfl⟩, rfl, .inl rfl⟩
  · rcases List.mem_append.1 hy with hy | hy
    · obtain ⟨i, hi, rfl⟩ := rgm_mem.1 hy; show (i : Int) ≠ 100 + (j : Int); omega
    · obtain ⟨i, hi, rfl⟩ := rgm_mem.1 hy; show 100 + (i : Int) ≠ 100 + (j : Int); omega
  · obtain ⟨i, hi, rfl⟩ := rgm_mem.1 hy
    rintro ⟨e1, -⟩
    have e1 : (i : Int) = 100 + (j : Int) := e1
    omega
/-- the ring and those behind it -/
def rgR (n m : Nat) : List Lk := rgm (fA n) n ++ rgm (fB n) m
theorem rgR_mem {n m : Nat} {x : Lk} (h : x ∈ rgR n m) : (∃ i, i < n ∧ x = fA n i) ∨ ∃ j, j < m ∧ x = fB n j := by
  rcases List.mem_append.1 h with h | h
  · exact .inl (rgm_mem.1 h)
  · exact .inr (rgm_mem.1 h)
theorem rgR_tg {n m : Nat} (hn : 2 ≤ n) {x : Lk} (h : x ∈ rgR n m) : 0 ≤ x.tg ∧ x.tg < n := by
  rcases rgR_mem h with ⟨i, hi, rfl⟩ | ⟨j, hj, rfl⟩
  · have : (i + 1) % n < n := Nat.mod_lt _ (by omega)
    show (0 : Int) ≤ ((i + 1) % n : Nat) ∧ (((i + 1) % n : Nat) : Int) < n; omega
  · have : j % n < n := Nat.mod_lt _ (by omega)
    show (0 : Int) ≤ (j % n : Nat) ∧ ((j % n : Nat) : Int) < n; omega
theorem rg_ask4 {n m : Nat} (hn : 2 ≤ n) (hn2 : n ≤ 15) (hm : m ≤ 10) : askB (rgm fH n) (rgR n m) f5 = true ∧ askH (rgm fH n) (rgR n m) f5 = rgm fH n ++ [f5] ∧ askR (rgm fH n) (rgR n m) f5 = rgR n m := by
  refine ask_yes (fun y hy => ⟨?_, ?_⟩) (fun y hy => ?_)
  · rcases rgR_mem hy with ⟨i, hi, rfl⟩ | ⟨j, hj, rfl⟩
    · show (i : Int) ≠ 500; omega
    · show 100 + (j : Int) ≠ 500; omega
  · have := rgR_tg hn hy
    show y.tg ≠ 50; omega
  · obtain ⟨i, hi, rfl⟩ := rgm_mem.1 hy
    show (i : Int) ≠ 50; omega
theorem rg_ask5 {n m k : Nat} (hn : 2 ≤ n) (hn2 : n ≤ 15) (hm : m ≤ 10) (hk : k ≤ 10) : askB (rgm fH n ++ [f5]) (rgR n m ++ rgm fD k) (fD k) = false ∧ askH (rgm fH n ++ [f5]) (rgR n m ++ rgm fD k) (fD k) = rgm fH n ++ [f5] ∧ askR (rgm fH n ++ [f5]) (rgR n m ++ rgm fD k) (fD k) = rgR n m ++ rgm fD (k + 1) := by
  rw [rgm_succ, ← List.append_assoc]
  refine ask_row (fun y hy => ?_) (fun y hy => ?_) ⟨f5, by simp, rfl, .inl rfl⟩
  · rcases List.mem_append.1 hy with hy | hy
    · rcases rgR_mem hy with ⟨i, hi, rfl⟩ | ⟨j, hj, rfl⟩
      · show (i : Int) ≠ 300 + (k : Int); omega
      · show 100 + (j : Int) ≠ 300 + (k : Int); omega
    · obtain ⟨i, hi, rfl⟩ := rgm_mem.1 hy; show 300 + (i : Int) ≠ 300 + (k : Int); omega
  · rcases List.mem_append.1 hy with hy | hy
    · obtain ⟨i, hi, rfl⟩ := rgm_mem.1 hy
      rintro ⟨e1, -⟩
      have e1 : (i : Int) = 300 + (k : Int) := e1
      omega
    · rw [List.mem_singleton.1 hy]
      rintro ⟨e1, -⟩
      have e1 : (500 : Int) = 300 + (k : Int) := e1
      omega
theorem wf_big {a : Int} (h : -1000000 ≤ a ∧ a ≤ 1000000) : (Lit.int .i64 a).wf = true := wf64 ⟨by omega, by omega⟩
theorem rg_wf1 {i : Nat} (h : i ≤ 15) : (Lit.int .i64 (fH i).th).wf = true ∧ (Lit.int .i64 (fH i).tg).wf = true :=
  ⟨wf_big (show -1000000 ≤ (i : Int) ∧ (i : Int) ≤ 1000000 by omega), wf_big (show -1000000 ≤ (i : Int) ∧ (i : Int) ≤ 1000000 by omega)⟩
theorem rg_wf2 {n i : Nat} (hn : 2 ≤ n) (hn2 : n ≤ 15) (h : i < n) : (Lit.int .i64 (fA n i).th).wf = true ∧ (Lit.int .i64 (fA n i).tg).wf = true := by
  have : (i + 1) % n < n := Nat.mod_lt _ (by omega)
  exact ⟨wf_big (show -1000000 ≤ (i : Int) ∧ (i : Int) ≤ 1000000 by omega), wf_big (show -1000000 ≤ (((i + 1) % n : Nat) : Int) ∧ (((i + 1) % n : Nat) : Int) ≤ 1000000 by omega)⟩
theorem rg_wf3 {n j : Nat} (hn : 2 ≤ n) (hn2 : n ≤ 15) (h : j ≤ 10) : (Lit.int .i64 (fB n j).th).wf = true ∧ (Lit.int .i64 (fB n j).tg).wf = true := by
  have : j % n < n := Nat.mod_lt _ (by omega)
  exact ⟨wf_big (show -1000000 ≤ 100 + (j : Int) ∧ 100 + (j : Int) ≤ 1000000 by omega), wf_big (show -1000000 ≤ ((j % n : Nat) : Int) ∧ ((j % n : Nat) : Int) ≤ 1000000 by omega)⟩
theorem rg_wf4 : (Lit.int .i64 f5.th).wf = true ∧ (Lit.int .i64 f5.tg).wf = true := ⟨wf_big (by decide), wf_big (by decide)⟩
theorem rg_wf5 {k : Nat} (h : k ≤ 10) : (Lit.int .i64 (fD k).th).wf = true ∧ (Lit.int .i64 (fD k).tg).wf = true :=
  ⟨wf_big (show -1000000 ≤ 300 + (k : Int) ∧ 300 + (k : Int) ≤ 1000000 by omega), wf_big (show -1000000 ≤ (50 : Int) ∧ (50 : Int) ≤ 1000000 by omega)⟩
theorem rg_stuck {n m k : Nat} (hn : 2 ≤ n) (hn2 : n ≤ 15) (hm : m ≤ 10) (hk : k ≤ 10) (hd : ((rgR n m ++ rgm fD k).map Lk.th).Nodup) (u : Int) :
    stuckP (rgm fH n ++ [f5]) (rgR n m ++ rgm fD k) u ↔ (0 ≤ u ∧ u < n) ∨ (100 ≤ u ∧ u < 100 + m) := by
  constructor
  · rintro ⟨T, hT, hu⟩
    have hno5 : ¬ T 500 := fun h => by
      obtain ⟨x, hx, e, -⟩ := hT 500 h
      rcases List.mem_append.1 hx with hx | hx
      · rcases rgR_mem hx with ⟨i, hi, rfl⟩ | ⟨j, hj, rfl⟩
        · have e : (i : Int) = 500 := e; omega
        · have e : 100 + (j : Int) = 500 := e; omega
      · obtain ⟨j, hj, rfl⟩ := rgm_mem.1 hx
        have e : 300 + (j : Int) = 500 := e; omega
    have hnoD : ∀ y ∈ onT 50 (rgR n m ++ rgm fD k), ¬ T y.th := by
      intro y0 hy0 hT0
      obtain ⟨a, z, b, e2, hz, hf⟩ := first_with (l := onT 50 (rgR n m ++ rgm fD k)) (p := fun y : Lk => T y.th) ⟨y0, hy0, hT0⟩
      have hzm : z ∈ onT 50 (rgR n m ++ rgm fD k) := by rw [e2]; simp
      obtain ⟨hzR, hzt⟩ := mem_onT.1 hzm
      obtain ⟨z', hz', e3, h3⟩ := hT z.th hz
      obtain rfl := nd_inj hd hz' hzR e3
      rw [hzt] at h3
      rcases h3 with ⟨pre, post, e4, y, hy, hTy⟩ | ⟨y, hy, -, hTy⟩
      · have := split_uniq (e2 ▸ nodup_of_map (nd_onT hd 50)) (e2.symm.trans e4)
        rw [← this] at hy
        exact hf y hy hTy
      · obtain ⟨h1, h2⟩ := mem_onT.1 hy
        rcases List.mem_append.1 h1 with h1 | h1
        · obtain ⟨i, hi, rfl⟩ := rgm_mem.1 h1
          have h2 : (i : Int) = 50 := h2
          omega
        · rw [List.mem_singleton.1 h1] at hTy
          exact hno5 hTy
    obtain ⟨x, hx, e, -⟩ := hT u hu
    rcases List.mem_append.1 hx with h | h
    · rcases rgR_mem h with ⟨i, hi, rfl⟩ | ⟨j, hj, rfl⟩
      · have e : (i : Int) = u := e; exact .inl ⟨by omega, by omega⟩
      · have e : 100 + (j : Int) = u := e; exact .inr ⟨by omega, by omega⟩
    · obtain ⟨j, hj, rfl⟩ := rgm_mem.1 h
      exact absurd (e ▸ hu) (hnoD (fD j) (mem_onT.2 ⟨hx, rfl⟩))
  · intro hu
    refine ⟨fun u => (0 ≤ u ∧ u < n) ∨ (100 ≤ u ∧ u < 100 + m), fun v hv => ?_, hu⟩
    rcases hv with ⟨h1, h2⟩ | ⟨h1, h2⟩
    · obtain ⟨i, rfl⟩ := Int.eq_ofNat_of_zero_le h1
      have hi : i < n := by omega
      have hm2 : (i + 1) % n < n := Nat.mod_lt _ (by omega)
      refine ⟨fA n i, List.mem_append_left _ (List.mem_append_left _ (rgm_mem.2 ⟨i, hi, rfl⟩)), rfl, .inr ⟨fH ((i + 1) % n), mem_onT.2 ⟨List.mem_append_left _ (rgm_mem.2 ⟨_, hm2, rfl⟩), rfl⟩, .inl rfl, .inl ?_⟩⟩
      show (0 : Int) ≤ (((i + 1) % n : Nat) : Int) ∧ (((i + 1) % n : Nat) : Int) < n
      omega
    · obtain ⟨j, hj⟩ := Int.eq_ofNat_of_zero_le (show 0 ≤ v - 100 by omega)
      have hj2 : j < m := by omega
      have hm2 : j % n < n := Nat.mod_lt _ (by omega)
      refine ⟨fB n j, List.mem_append_left _ (List.mem_append_right _ (rgm_mem.2 ⟨j, hj2, rfl⟩)), (by show 100 + (j : Int) = v; omega), .inr ⟨fH (j % n), mem_onT.2 ⟨List.mem_append_left _ (rgm_mem.2 ⟨_, hm2, rfl⟩), rfl⟩, .inl rfl, .inl ?_⟩⟩
      show (0 : Int) ≤ ((j % n : Nat) : Int) ∧ ((j % n : Nat) : Int) < n
      omega
/-- who is stuck -/
def rgS (n m : Nat) : List Int := (List.range n).map (fun i : Nat => (i : Int)) ++ (List.range m).map (fun j : Nat => 100 + (j : Int))
theorem rgS_len (n m : Nat) : (rgS n m).length = n + m := by simp [rgS]
theorem rgS_at {n m i : Nat} (h : i < (rgS n m).length) : (rgS n m)[i] = if i < n then (i : Int) else 100 + (i : Int) - n := by
  unfold rgS at h ⊢
  by_cases hi : i < n
  · rw [List.getElem_append_left (by simpa using hi), if_pos hi]; simp
  · rw [List.getElem_append_right (by simpa using hi), if_neg hi]
    simp
    omega
theorem rgS_rising {n m : Nat} (hn2 : n ≤ 15) : Rising (rgS n m) := by
  unfold Rising
  rw [List.pairwise_iff_getElem]
  intro i j hi hj hij
  rw [rgS_at, rgS_at]
  split <;> split <;> omega
theorem rgS_mem {n m : Nat} {u : Int} : u ∈ rgS n m ↔ (0 ≤ u ∧ u < n) ∨ (100 ≤ u ∧ u < 100 + m) := by
  unfold rgS
  simp only [List.mem_append, List.mem_map, List.mem_range]
  constructor
  · rintro (⟨i, hi, rfl⟩ | ⟨j, hj, rfl⟩)
    · exact .inl ⟨by omega, by omega⟩
    · exact .inr ⟨by omega, by omega⟩
  · rintro (⟨h1, h2⟩ | ⟨h1, h2⟩)
    · exact .inl ⟨u.toNat, by omega, by omega⟩
    · exact .inr ⟨(u - 100).toNat, by omega, by omega⟩
end Go.Proofs.Ytcmiboipgngjaaa
