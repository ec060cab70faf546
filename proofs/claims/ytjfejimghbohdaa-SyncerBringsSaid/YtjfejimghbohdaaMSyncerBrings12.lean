/-
  A chain of changes, in plain words.
  Plans where nothing hangs on anything, and plans of a chain: plain words.
  How often a buffer stands in a plan, and what is done at its end: plain words.
  The law SyncerLeast. No condition.
  The law SyncerBrings. No condition.
-/
import Derived.Test.YtjfejimghbohdaaMB11
namespace Go.Proofs.Ytjfejimghbohdaa
set_option linter.unusedVariables false
set_option linter.unusedSimpArgs false
open Go.RowKit Go.Maps

def chC (bf : Nat → Int) (i j : Nat) : Rc := ⟨bf j, if j = 0 then [] else [(j : Int) - 1], decide (j < i)⟩
/-- n changes, each hanging on the one ahead, the first i done -/
def chR (bf : Nat → Int) (n i : Nat) : List Rc := (List.range n).map (chC bf i)
theorem chR_len (bf : Nat → Int) (n i : Nat) : (chR bf n i).length = n := by simp [chR]
theorem chR_at {bf : Nat → Int} {n i j : Nat} (h : j < n) : (chR bf n i).getD j zr = chC bf i j := by simp [chR, h]
theorem chR_zero (bf : Nat → Int) : chR bf 0 0 = [] := rfl
theorem chR_snoc (bf : Nat → Int) (n : Nat) : chR bf n 0 ++ [⟨bf n, if n = 0 then [] else [(n : Int) - 1], false⟩] = chR bf (n + 1) 0 := by
  unfold chR
  rw [List.range_succ, List.map_append]
  simp [chC]
theorem chR_tot (bf : Nat → Int) (n i : Nat) : tot (chR bf n i) ≤ n := by
  unfold tot chR
  rw [List.map_map]
  induction n with
  | zero => simp
  | succ n ih =>
    rw [List.range_succ, List.map_append, List.sum_append]
    have : (((fun c : Rc => c.on.length) ∘ chC bf i) n) ≤ 1 := by
      show (chC bf i n).on.length ≤ 1
      unfold chC
      by_cases h : n = 0 <;> simp [h]
    simp only [List.map_cons, List.map_nil, List.sum_cons, List.sum_nil]
    omega
theorem chR_open {bf : Nat → Int} {n i j : Nat} {b : Int} (h : j < n) : openAt (chR bf n i) b j = (decide (i ≤ j) && decide (bf j = b)) := by
  unfold openAt
  rw [chR_at h]
  unfold chC
  simp only
  by_cases h2 : j < i
  · have : ¬ i ≤ j := by omega
    simp [h2, this]
  · have : i ≤ j := by omega
    simp [h2, this]
theorem chR_may {bf : Nat → Int} {n i j : Nat} (h : j < n) : mayAt (chR bf n i) j = decide (j ≤ i) := by
  unfold mayAt cnt
  rw [chR_at h]
  unfold chC
  simp only
  by_cases h0 : j = 0
  · subst h0; simp
  · rw [if_neg h0]
    have : rd (chR bf n i) ((j : Int) - 1) = chC bf i (j - 1) := by
      unfold rd
      have e : ((j : Int) - 1).toNat = j - 1 := by omega
      rw [e]; exact chR_at (by omega)
    rw [List.filter_cons, this]
    unfold chC
    simp only [List.filter_nil]
    by_cases h2 : j - 1 < i
    · have h3 : j ≤ i := by omega
      simp [h2, h3]
    · have h3 : ¬ j ≤ i := by omega
      simp [h2, h3]
theorem filter_at1 {n i : Nat} (h : i < n) : (List.range n).filter (fun j => decide (j = i)) = [i] := by
  induction n with
  | zero => omega
  | succ n ih =>
    rw [List.range_succ, List.filter_append]
    by_cases e : i = n
    · subst e
      have : (List.range i).filter (fun j => decide (j = i)) = [] := List.filter_eq_nil_iff.2 fun j hj => by have := List.mem_range.1 hj; simp; omega
      rw [this]; simp
    · rw [ih (by omega)]
      have : ¬ n = i := fun h => e h.symm
      simp [this]
theorem chR_next (bf : Nat → Int) (n i : Nat) (b : Int) : nextR (chR bf n i) b = if i < n ∧ bf i = b then [(i : Int)] else [] := by
  unfold nextR
  rw [chR_len]
  have e : (List.range n).filter (fun j => openAt (chR bf n i) b j && mayAt (chR bf n i) j) = (List.range n).filter (fun j => decide (j = i) && decide (bf i = b)) := by
    refine List.filter_congr fun j hj => ?_
    have hj := List.mem_range.1 hj
    rw [chR_open hj, chR_may hj]
    by_cases h : j = i
    · subst h; simp
    · by_cases h2 : i ≤ j
      · have : ¬ j ≤ i := by omega
        simp [h, h2, this]
      · simp [h, h2]
  rw [e]
  by_cases hb : bf i = b
  · simp only [hb, decide_true, Bool.and_true, and_true]
    by_cases hi : i < n
    · rw [filter_at1 hi, if_pos hi]; rfl
    · rw [if_neg hi]
      have : (List.range n).filter (fun j => decide (j = i)) = [] := List.filter_eq_nil_iff.2 fun j hj => by have := List.mem_range.1 hj; simp; omega
      rw [this]; rfl
  · rw [if_neg (fun h => hb h.2)]
    simp only [hb, decide_false, Bool.and_false]
    rw [List.filter_eq_nil_iff.2 (fun _ _ => by simp)]; rfl
theorem chR_written {bf : Nat → Int} {n i : Nat} (h : i < n) : writtenR (chR bf n i) (bf i) = chR bf n (i + 1) := by
  unfold writtenR setD
  rw [chR_next, if_pos ⟨h, rfl⟩, chR_len]
  unfold chR
  refine List.map_congr_left fun j hj => ?_
  have hj := List.mem_range.1 hj
  have : ((List.range n).map (chC bf i)).getD j zr = chC bf i j := chR_at hj
  rw [this]
  unfold chC
  simp only [Rc.mk.injEq, true_and]
  by_cases h1 : j < i
  · have : j < i + 1 := by omega
    simp [h1, this]
  · by_cases h2 : j = i
    · subst h2; simp
    · have h3 : ¬ j < i + 1 := by omega
      have h4 : ¬ (j : Int) = (i : Int) := by omega
      simp [h1, h3, h4]
theorem filter_ge (n i : Nat) : ((List.range n).filter (fun j => decide (i ≤ j))).length = n - i := by
  induction n with
  | zero => simp
  | succ n ih =>
    rw [List.range_succ, List.filter_append, List.length_append, ih]
    by_cases h : i ≤ n
    · simp [h]; omega
    · simp [h]; omega
theorem chR_opn (bf : Nat → Int) (n i : Nat) : (Of (chR bf n i)).opn = ((n - i : Nat) : Int) := by
  show (((List.range (chR bf n i).length).filter (fun j => !((chR bf n i).getD j zr).done)).length : Int) = _
  rw [chR_len]
  have e : (List.range n).filter (fun j => !((chR bf n i).getD j zr).done) = (List.range n).filter (fun j => decide (i ≤ j)) := by
    refine List.filter_congr fun j hj => ?_
    rw [chR_at (List.mem_range.1 hj)]
    unfold chC
    by_cases h : j < i
    · have : ¬ i ≤ j := by omega
      simp [h, this]
    · have : i ≤ j := by omega
      simp [h, this]
  rw [e, filter_ge]
theorem chR_blocked5 (n i : Nat) : (blockedR (chR (fun _ => 5) n i) 5).length = n - (i + 1) := by
  unfold blockedR castL
  rw [List.length_map, chR_len]
  rw [← filter_ge n (i + 1)]
  congr 1
  refine List.filter_congr fun j hj => ?_
  have hj := List.mem_range.1 hj
  rw [chR_open hj, chR_may hj]
  by_cases h : i + 1 ≤ j
  · have h1 : i ≤ j := by omega
    have h2 : ¬ j ≤ i := by omega
    simp [h, h1, h2]
  · by_cases h1 : i ≤ j
    · have h2 : j ≤ i := by omega
      simp [h, h1, h2]
    · simp [h, h1]
theorem chR_ready {bf : Nat → Int} {n i : Nat} (h : i < n) {xs : List Int} (hx : readyR (chR bf n i) xs) : xs = [bf i] :=
  ready_one (bf i) hx (fun x => by
    rw [chR_next]
    by_cases e : bf i = x
    · rw [if_pos ⟨h, e⟩]; simp [e]
    · rw [if_neg (fun h => e h.2)]
      simp
      exact fun h => e h.symm)
end Go.Proofs.Ytjfejimghbohdaa
namespace Go.Proofs.Ytjfejimghbohdaa
set_option linter.unusedVariables false
set_option linter.unusedSimpArgs false
open Go.RowKit Go.Maps

def lsR (l : List Int) : List Rc := l.map (fun b => ⟨b, [], false⟩)
theorem lsR_len (l : List Int) : (lsR l).length = l.length := by simp [lsR]
theorem lsR_snoc (l : List Int) (b : Int) : lsR (l ++ [b]) = lsR l ++ [⟨b, [], false⟩] := by simp [lsR]
theorem lsR_tot (l : List Int) : tot (lsR l) = 0 := by
  unfold tot lsR
  rw [List.map_map]
  induction l with
  | nil => rfl
  | cons a l ih => simp only [List.map_cons, List.sum_cons, ih]; rfl
structure FlatR (r : List Rc) (bs : List Int) : Prop where
  on : ∀ i, i < r.length → (r.getD i zr).on = []
  up : Rising bs
  open_ : ∀ b, b ∈ bs ↔ ∃ i, i < r.length ∧ (r.getD i zr).done = false ∧ (r.getD i zr).buf = b
theorem rd_nat (r : List Rc) (i : Nat) : rd r (i : Int) = r.getD i zr := by unfold rd; rw [Int.toNat_natCast]
theorem FlatR.may {r : List Rc} {bs : List Int} (h : FlatR r bs) {i : Nat} (hi : i < r.length) : mayR r i = !(r.getD i zr).done :=
  mayR_yes (fun j hj => by rw [h.on i hi] at hj; cases hj)
theorem FlatR.cand {r : List Rc} {bs : List Int} (h : FlatR r bs) (b : Int) : candR r (allI r.length) b ↔ b ∈ bs := by
  rw [h.open_]
  constructor
  · rintro ⟨i, hr, hm, hb⟩
    have hg := hr.good
    exact ⟨i, by have := hg.2.1; omega, by rw [← rd_nat]; exact hg.2.2, hb⟩
  · rintro ⟨i, hi, hd, hb⟩
    refine ⟨i, .id (allI_mem.2 (by omega)) ⟨by omega, by omega, by rw [rd_nat]; exact hd⟩, ?_, hb⟩
    rw [h.may hi, hd]; rfl
theorem FlatR.write {r : List Rc} {bs : List Int} {b : Int} (h : FlatR r (b :: bs)) : FlatR (writtenR r b) bs := by
  have hm : ∀ i, i < r.length → ((i : Int) ∈ nextR r b ↔ (r.getD i zr).done = false ∧ (r.getD i zr).buf = b) := fun i hi => by
    have h1 := h.may hi
    unfold mayR at h1
    rw [mem_nextR, openAt_eq]
    constructor
    · rintro ⟨-, h2, h3⟩
      simpa using h2
    · rintro ⟨h2, h3⟩
      rw [h2] at h1
      exact ⟨hi, by rw [h2, h3]; simp, by simpa using h1⟩
  have hu := List.pairwise_cons.1 h.up
  refine ⟨fun i hi => ?_, hu.2, fun c => ?_⟩
  · unfold writtenR at hi ⊢
    rw [setD_len] at hi
    rw [setD_at hi]; exact h.on i hi
  · have hc := h.open_ c
    constructor
    · intro hcb
      obtain ⟨i, hi, hd, hb⟩ := hc.1 (List.mem_cons_of_mem _ hcb)
      have hne : c ≠ b := by have := hu.1 c hcb; omega
      refine ⟨i, by unfold writtenR; rw [setD_len]; exact hi, ?_, ?_⟩
      · unfold writtenR
        rw [setD_at hi]
        show ((r.getD i zr).done || decide _) = false
        rw [hd, decide_eq_false (fun hx => by have := ((hm i hi).1 hx).2; exact hne (hb.symm.trans this))]; rfl
      · unfold writtenR
        rw [setD_at hi]; exact hb
    · rintro ⟨i, hi, hd, hb⟩
      unfold writtenR at hi hd hb
      rw [setD_len] at hi
      rw [setD_at hi] at hd hb
      obtain ⟨hd1, hd2⟩ := Bool.or_eq_false_iff.1 (show ((r.getD i zr).done || decide _) = false from hd)
      have hd2 := of_decide_eq_false hd2
      have hb : (r.getD i zr).buf = c := hb
      rcases List.mem_cons.1 (hc.2 ⟨i, hi, hd1, hb⟩) with e | e
      · exact absurd ((hm i hi).2 ⟨hd1, hb.trans e⟩) hd2
      · exact e
theorem FlatR.plan {bs : List Int} : ∀ {r : List Rc}, FlatR r bs → ∃ r2, PlanR (allI r.length) r bs r2 := by
  induction bs with
  | nil =>
    intro r h
    refine ⟨r, .done fun x hx => ?_⟩
    obtain ⟨i, rfl⟩ := Int.eq_ofNat_of_zero_le hx.good.1
    have hg := hx.good
    have := (h.open_ (r.getD i zr).buf).2 ⟨i, by have := hg.2.1; omega, by rw [← rd_nat]; exact hg.2.2, rfl⟩
    cases this
  | cons b bs ih =>
    intro r h
    obtain ⟨r2, h2⟩ := ih h.write
    have e : (writtenR r b).length = r.length := setD_len _ _
    rw [e] at h2
    refine ⟨r2, .step ⟨(h.cand b).2 List.mem_cons_self, fun b' hb' => ?_⟩ h2⟩
    rcases List.mem_cons.1 ((h.cand b').1 hb') with rfl | hx
    · omega
    · have := (List.pairwise_cons.1 h.up).1 b' hx
      omega
theorem putAll_mem (l : List Int) (b : Int) : ∀ a : List Int, b ∈ l.foldl putL a ↔ b ∈ a ∨ b ∈ l := by
  induction l with
  | nil => intro a; simp
  | cons x l ih =>
    intro a
    rw [List.foldl_cons, ih, putL_mem, List.mem_cons]
    constructor
    · rintro ((h | h) | h)
      · exact .inl h
      · exact .inr (.inl h)
      · exact .inr (.inr h)
    · rintro (h | h | h)
      · exact .inl (.inl h)
      · exact .inl (.inr h)
      · exact .inr h
theorem putAll_rising (l : List Int) : ∀ a : List Int, Rising a → Rising (l.foldl putL a) := by
  induction l with
  | nil => intro a h; exact h
  | cons x l ih => intro a h; exact ih _ (putL_rising h x)
theorem putAll_len (l : List Int) : ∀ a : List Int, (l.foldl putL a).length ≤ a.length + l.length := by
  induction l with
  | nil => intro a; simp
  | cons x l ih => intro a; have := ih (putL a x); have := putL_len_le a x; rw [List.foldl_cons, List.length_cons]; omega
theorem putAll_snoc (l : List Int) (b : Int) : (l ++ [b]).foldl putL [] = putL (l.foldl putL []) b := by rw [List.foldl_append]; rfl
theorem ls_flat (l : List Int) : FlatR (lsR l) (l.foldl putL []) := by
  have hg : ∀ i, i < l.length → (lsR l).getD i zr = ⟨l.getD i 0, [], false⟩ := fun i hi => by simp [lsR, hi]
  refine ⟨fun i hi => ?_, putAll_rising l [] List.Pairwise.nil, fun b => ?_⟩
  · rw [lsR_len] at hi; rw [hg i hi]
  · rw [putAll_mem, lsR_len]
    constructor
    · rintro (h | h)
      · cases h
      · obtain ⟨i, hi, rfl⟩ := List.getElem_of_mem h
        exact ⟨i, hi, by rw [hg i hi], by rw [hg i hi]; simp [hi]⟩
    · rintro ⟨i, hi, -, hb⟩
      rw [hg i hi] at hb
      have hb : l.getD i 0 = b := hb
      refine .inr ?_
      rw [← hb, List.getD_eq_getElem?_getD, List.getElem?_eq_getElem hi]
      exact List.getElem_mem hi
theorem ls_plan {l : List Int} {out : List Int} {r2 : List Rc} (h : PlanR (allI (lsR l).length) (lsR l) out r2) : out = l.foldl putL [] := by
  obtain ⟨r3, h3⟩ := (ls_flat l).plan
  exact (h.uniq h3).1

/-- what is needed for some changes of a chain that begins at i: those up to the greatest of them -/
theorem chR_rd {bf : Nat → Int} {n i : Nat} {x : Int} (h : 0 ≤ x ∧ x < (n : Int)) : rd (chR bf n i) x = chC bf i x.toNat := by
  unfold rd; exact chR_at (by omega)
theorem chR_good {bf : Nat → Int} {n i : Nat} {x : Int} : good (chR bf n i) x ↔ (i : Int) ≤ x ∧ x < (n : Int) := by
  unfold good
  rw [chR_len]
  constructor
  · rintro ⟨h1, h2, h3⟩
    rw [chR_rd ⟨h1, h2⟩] at h3
    have h4 : ¬ x.toNat < i := by simpa [chC] using h3
    omega
  · rintro ⟨h1, h2⟩
    have h0 : 0 ≤ x := by omega
    refine ⟨h0, h2, ?_⟩
    rw [chR_rd ⟨h0, h2⟩]
    have h4 : ¬ x.toNat < i := by omega
    simp [chC, h4]
theorem chR_reachTo {bf : Nat → Int} {n i t : Nat} {ids : List Int} (ht : t < n) (hm : (t : Int) ∈ ids) (hle : ∀ x ∈ ids, x ≤ (t : Int)) (x : Int) : Reach (chR bf n i) ids x ↔ (i : Int) ≤ x ∧ x ≤ (t : Int) := by
  constructor
  · intro h
    refine ⟨(chR_good.1 h.good).1, ?_⟩
    induction h with
    | id hx hg => exact hle _ hx
    | on hy hx hg ih =>
      have hyg := chR_good.1 hy.good
      rw [chR_rd ⟨by omega, hyg.2⟩] at hx
      unfold chC at hx
      simp only at hx
      split at hx
      · cases hx
      · rw [List.mem_singleton.1 hx]; omega
  · intro h
    have key : ∀ d : Nat, (i : Int) ≤ (t : Int) - d → Reach (chR bf n i) ids ((t : Int) - d) := by
      intro d
      induction d with
      | zero => intro h; exact .id (by simpa using hm) (chR_good.2 (by omega))
      | succ d ih =>
        intro h
        refine .on (ih (by omega)) ?_ (chR_good.2 (by omega))
        rw [chR_rd (by omega)]
        unfold chC
        have h0 : ¬ ((t : Int) - d).toNat = 0 := by omega
        simp only [h0, if_false, List.mem_singleton]
        omega
    have := key ((t : Int) - x).toNat (by omega)
    have e : (t : Int) - ((((t : Int) - x).toNat : Nat) : Int) = x := by omega
    rwa [e] at this
theorem chR_mayR {bf : Nat → Int} {n i j : Nat} (h : j < n) : mayR (chR bf n i) j = decide (j = i) := by
  unfold mayR
  rw [chR_may h, chR_at h]
  unfold chC
  simp only
  by_cases h1 : j = i
  · subst h1; simp
  · by_cases h2 : j ≤ i
    · have : j < i := by omega
      simp [h1, h2, this]
    · simp [h1, h2]
theorem chR_plan {bf : Nat → Int} {n t : Nat} {ids : List Int} (ht : t < n) (hm : (t : Int) ∈ ids) (hle : ∀ x ∈ ids, x ≤ (t : Int)) : ∀ d i : Nat, i + d = t + 1 → PlanR ids (chR bf n i) ((List.range' i d).map bf) (chR bf n (t + 1)) := by
  intro d
  induction d with
  | zero =>
    intro i hi
    obtain rfl : i = t + 1 := by omega
    refine .done fun x hx => ?_
    have := (chR_reachTo ht hm hle x).1 hx
    omega
  | succ d ih =>
    intro i hi
    have hin : i < n := by omega
    have hb : ∀ b, candR (chR bf n i) ids b → b = bf i := by
      rintro b ⟨j, hr, hmj, hb⟩
      have hj := ((chR_reachTo ht hm hle _).1 hr)
      have hjn : j < n := by omega
      rw [chR_mayR hjn] at hmj
      have e := of_decide_eq_true hmj
      rw [chR_at hjn] at hb
      rw [← hb, e]; rfl
    refine .step (b := bf i) ⟨⟨i, (chR_reachTo ht hm hle _).2 (by omega), by rw [chR_mayR hin]; simp, by rw [chR_at hin]; rfl⟩, fun b' hb' => by rw [hb b' hb']; omega⟩ ?_
    rw [chR_written hin]
    exact ih (i + 1) (by omega)
theorem chR_plan1 {bf : Nat → Int} {n t : Nat} (ht : t < n) {out : List Int} {r2 : List Rc} (h : PlanR [(t : Int)] (chR bf n 0) out r2) : out = (List.range (t + 1)).map bf := by
  have := (h.uniq (chR_plan ht (List.mem_singleton.2 rfl) (fun x hx => by rw [List.mem_singleton.1 hx]; omega) (t + 1) 0 (by omega))).1
  rw [this, List.range_eq_range']
theorem chR_planAll {bf : Nat → Int} {n : Nat} (hn : 0 < n) {out : List Int} {r2 : List Rc} (h : PlanR (allI (chR bf n 0).length) (chR bf n 0) out r2) : out = (List.range n).map bf := by
  rw [chR_len] at h
  have := (h.uniq (chR_plan (t := n - 1) (by omega) (allI_mem.2 (by omega)) (fun x hx => by have := allI_mem.1 hx; omega) n 0 (by omega))).1
  rw [this, List.range_eq_range']
end Go.Proofs.Ytjfejimghbohdaa
namespace Go.Proofs.Ytjfejimghbohdaa
set_option linter.unusedVariables false
set_option linter.unusedSimpArgs false
open Go.RowKit Go.Maps

def bufN (r : List Rc) (b : Int) (k : Nat) : Nat := (List.range k).countP (fun i => decide ((r.getD i zr).buf = b))
def openN (r : List Rc) (b : Int) : Nat := (List.range r.length).countP (openAt r b)
def eqN (l : List Int) (b : Int) : Nat := l.countP (fun y => decide (y = b))
theorem countP_lt {α : Type} {p q : α → Bool} : ∀ {l : List α}, (∀ x ∈ l, p x = true → q x = true) → (∃ x ∈ l, q x = true ∧ p x = false) → l.countP p < l.countP q
  | [], _, h => by obtain ⟨x, hx, _⟩ := h; cases hx
  | a :: l, h1, h2 => by
    have hm : l.countP p ≤ l.countP q := List.countP_mono_left fun x hx => h1 x (List.mem_cons_of_mem _ hx)
    rw [List.countP_cons, List.countP_cons]
    obtain ⟨x, hx, hq, hp⟩ := h2
    rcases List.mem_cons.1 hx with rfl | hx
    · rw [hq, hp]; simp; omega
    · have := countP_lt (l := l) (fun x hx => h1 x (List.mem_cons_of_mem _ hx)) ⟨x, hx, hq, hp⟩
      cases hpa : p a with
      | true => rw [h1 a List.mem_cons_self hpa]; simp; omega
      | false => cases q a <;> simp <;> omega
theorem bufN_succ (r : List Rc) (b : Int) (k : Nat) : bufN r b (k + 1) = bufN r b k + if (r.getD k zr).buf = b then 1 else 0 := by
  unfold bufN
  rw [List.range_succ, List.countP_append, List.countP_singleton]
  by_cases h : (r.getD k zr).buf = b <;> simp [h]
theorem bufN_le (r : List Rc) (b : Int) (k : Nat) : bufN r b k ≤ k := by
  have := List.countP_le_length (p := fun i => decide ((r.getD i zr).buf = b)) (l := List.range k)
  rw [List.length_range] at this; exact this
theorem eqN_take (l : List Int) (b : Int) {k : Nat} (h : k < l.length) : eqN (l.take (k + 1)) b = eqN (l.take k) b + if l[k] = b then 1 else 0 := by
  unfold eqN
  rw [List.take_succ_eq_append_getElem h, List.countP_append, List.countP_singleton]
  by_cases h : l[k] = b <;> simp [h]
theorem eqN_le (l : List Int) (b : Int) : eqN l b ≤ l.length := List.countP_le_length
theorem openN_le (r : List Rc) (b : Int) : openN r b ≤ bufN r b r.length :=
  List.countP_mono_left fun i _ h => (Bool.and_eq_true_iff.1 (show (!(r.getD i zr).done && decide ((r.getD i zr).buf = b)) = true from h)).2
theorem open_written {r : List Rc} {b c : Int} {i : Nat} (hi : i < r.length) : openAt (writtenR r c) b i = (openAt r b i && !decide ((i : Int) ∈ nextR r c)) := by
  rw [openAt_eq, openAt_eq]
  unfold writtenR
  rw [setD_at hi]
  show (!((r.getD i zr).done || decide _) && decide ((r.getD i zr).buf = b)) = _
  cases (r.getD i zr).done <;> cases decide ((i : Int) ∈ nextR r c) <;> simp
theorem openN_written {r : List Rc} {b c : Int} (hc : nextR r c ≠ []) : openN (writtenR r c) b + (if c = b then 1 else 0) ≤ openN r b := by
  unfold openN
  have hl : (writtenR r c).length = r.length := setD_len _ _
  rw [hl]
  have hm : ∀ x ∈ List.range r.length, openAt (writtenR r c) b x = true → openAt r b x = true := fun x hx h => by
    rw [open_written (List.mem_range.1 hx)] at h
    exact (Bool.and_eq_true_iff.1 h).1
  by_cases e : c = b
  · subst e
    rw [if_pos rfl]
    obtain ⟨x, hx⟩ := List.exists_mem_of_ne_nil _ hc
    obtain ⟨i, rfl⟩ := Int.eq_ofNat_of_zero_le (nextR_range hx).1
    obtain ⟨h1, h2, h3⟩ := mem_nextR.1 hx
    refine countP_lt hm ⟨i, List.mem_range.2 h1, h2, ?_⟩
    rw [open_written h1]
    simp [show (Int.ofNat i) ∈ nextR r c from hx]
    intro _
    exact hx
  · rw [if_neg e]
    exact List.countP_mono_left hm
section
variable {ids : List Int} {r r2 : List Rc} {out : List Int}
theorem PlanR.open_ (h : PlanR ids r out r2) (b : Int) : eqN out b ≤ openN r b := by
  induction h with
  | done => simp [eqN]
  | step hb _ ih =>
    rename_i r r2 c out hp
    have := openN_written (b := b) hb.1.next
    unfold eqN at ih ⊢
    rw [List.countP_cons]
    by_cases e : c = b
    · rw [if_pos e] at this; simp [e]; omega
    · rw [if_neg e] at this; simp [e]; omega
theorem PlanR.count (h : PlanR ids r out r2) (b : Int) : eqN out b ≤ bufN r b r.length := Nat.le_trans (h.open_ b) (openN_le r b)
theorem PlanR.len (h : PlanR ids r out r2) : r2.length = r.length ∧ out.length + leftR r2 ≤ leftR r := by
  induction h with
  | done => simp
  | step hb _ ih =>
    have := left_written hb.1.next
    rw [List.length_cons]
    refine ⟨ih.1.trans (setD_len _ _), by omega⟩
theorem PlanR.end_ (h : PlanR ids r out r2) (x : Int) : ¬ Reach r2 ids x := by
  induction h with
  | done h => exact h x
  | step hb _ ih => exact ih
theorem PlanR.doneR (h : PlanR ids r out r2) {x : Int} (hx : x ∈ ids) (hr : 0 ≤ x ∧ x < (r.length : Int)) : doneR r2 x = true := by
  have hl := h.len.1
  unfold Go.Proofs.Ytjfejimghbohdaa.doneR
  rw [hl, decide_eq_true hr.1, decide_eq_true hr.2]
  cases hd : (rd r2 x).done with
  | true => rfl
  | false => exact absurd (Reach.id hx ⟨hr.1, by rw [hl]; exact hr.2, hd⟩) (h.end_ x)
theorem PlanR.need (h : PlanR ids r out r2) {xs : List Int} (hx : needR r2 ids xs) : xs = [] :=
  List.eq_nil_iff_forall_not_mem.2 fun x hm => h.end_ x ((hx.2 x).1 hm)
theorem PlanR.cut {k : Nat} (hk : k < out.length) (h : PlanR ids r (out.drop k) r2) : bestR r ids out[k] ∧ PlanR ids (writtenR r out[k]) (out.drop (k + 1)) r2 := by
  rw [List.drop_eq_getElem_cons hk] at h
  cases h with
  | step hb h => exact ⟨hb, h⟩
end
end Go.Proofs.Ytjfejimghbohdaa
namespace Go.Proofs.Ytjfejimghbohdaa
set_option linter.unusedVariables false
set_option linter.unusedSimpArgs false
open Go.RowKit Go.Maps

section
variable {n : Nat} {w W : World} {F X : List Atom} {g : Nat} {r : List Rc}
theorem OneP.put {l : List Int} {v : Value} (h : OneP n w g r (rowA 3 1 v l.length (ints l) :: X) W) (hl : l.length < 274877906944) (x : Int) :
    Calls Try.prog 17 #[v, .int .i64 x] W fun e W' => ∃ A c, e = .returned (.slice A (putL l x).length c) ∧ OneP n w g r (rowA 3 1 (.slice A (putL l x).length c) (putL l x).length (ints (putL l x)) :: X) W' := by
  obtain ⟨pg, hg, ho⟩ := h
  refine (put_c ho.front hl x).mono ?_
  rintro e W' ⟨v', rfl, h'⟩
  obtain ⟨A, c, rfl⟩ := own_slice h'.row
  exact ⟨A, c, rfl, pg, hg, h'.back⟩
theorem OneP.own0 (h : OneP n w g r X W) : Own n w W [] := by obtain ⟨pg, hg, ho⟩ := h; exact ho.sub (List.nil_sublist _)
theorem OneP.nilRow (h : OneP n w g r X W) : OneP n w g r (rowA 3 1 (.slice none 0 0) 0 (ints []) :: X) W := by
  obtain ⟨pg, hg, ho⟩ := h
  exact ⟨pg, hg, (Own.nilRow ho 3 1).back⟩
end
set_option maxHeartbeats 8000000 in
set_option maxRecDepth 100000 in
theorem SyncerLeast_walk (w : World) (A0 : Option Addr) (len0 cap0 : Nat) (zs : List Int) (g1 : zs.length = len0) (g2 : len0 ≤ maxLen) (g3 : ∀ n ∈ zs, (Lit.int .i64 n).wf = true) (g4 : zs ≠ [] → ∃ x, A0 = some x ∧ x.block < w.heap.size ∧ ∀ j, j < zs.length → w.cell? (x.add j) = some (.int .i64 (zs.getD j 0))) :
    Calls Try.prog 4 #[.slice A0 len0 cap0] w fun e w' => e = .returned (.bool true) ∧ Below w.heap.size w w' := by
  subst g1
  have HZ := hide (Reads.old (F := []) (n := w.heap.size) (w := w) (Ints.of_open (B := w.heap.size) g4))
  have HA := hide (alive7_c w)
  have HI := hide (fun j (hj : j < zs.length) => i64_of_wf (g3 zs[j] (List.getElem_mem hj)))
  clear g2 g3 g4
  go_enter Try.func4, Try.ntmps4
  by_cases hp : zs.length ≤ 80
  · have o1 : ¬ (80 : Int) < (zs.length : Int) := by omega
    have HP := hide hp
    go_upto_region 7 with (first
      | (go_at_call 7; refine HA.out.mono ?_; rintro e W1 ⟨rfl, hb1⟩; have H1 := hide ((Own.start w).above hb1); clear hb1)
      | (go_at_call 15; refine (OneP.new H1.out).mono ?_; rintro e W2 ⟨g, rfl, h2⟩; have H2 := hide h2.nilRow; clear h2))
    clear HA H1 o1 hp
    go_loopg [6, 5] zs.length (fun m i v wr => ∃ (k : Nat) (l : List Int) (A2 : Option Addr) (c2 : Nat), k ≤ zs.length ∧ m = zs.length - k ∧ i = .int .i64 k ∧ v = .slice A2 l.length c2 ∧ Hid (l = (zs.take k).foldl putL []) ∧ Hid (OneP w.heap.size w g (lsR (zs.take k)) [rowA 3 1 (.slice A2 l.length c2) l.length (ints l)] wr))
    case atStart => exact ⟨0, [], none, 0, by omega, by omega, rfl, rfl, hide rfl, H2⟩
    case round =>
      obtain ⟨k, l, A2, c2, hk, rfl, rfl, rfl, HL, H3⟩ := hrel
      clear H2
      have HLL := hide (show l.length ≤ 80 from by have := putAll_len (zs.take k) []; rw [← HL.out, List.length_take, List.length_nil] at this; have := HP.out; omega)
      by_cases hlt : k < zs.length
      · obtain ⟨ba, oa, rfl, _, hc⟩ := HZ.out wr H3.out.own0 (by intro e; rw [e] at hlt; simp at hlt)
        have y0 := hc k hlt
        have HG := hide (show zs.getD k 0 = zs[k] from by simp [hlt])
        rw [HG.out] at y0
        clear hc
        have HT := hide (show zs.take (k + 1) = zs.take k ++ [zs[k]] from List.take_succ_eq_append_getElem hlt)
        have HIK := hide (HI.out k hlt)
        have HZ2 := hide (fun W' (h : Own w.heap.size w W' []) => show W'.cell? ⟨ba, oa + k, none⟩ = some (.int .i64 zs[k]) from by
          obtain ⟨ba', oa', e, -, hc2⟩ := HZ.out W' h (by intro e; rw [e] at hlt; simp at hlt)
          cases e
          have := hc2 k hlt
          rwa [HG.out] at this)
        clear HG
        generalize zs[k] = x at y0 HT HIK HZ2
        have o1 : (k : Int) < (zs.length : Int) := by omega
        have o2 : (0 : Int) ≤ (k : Int) := by omega
        have HC := hide (H3.out.add0 x HIK.out (by rw [lsR_len, List.length_take]; have := HP.out; omega) (by rw [lsR_tot]; omega))
        go_wp2_with (first
          | (go_at_call 16; refine HC.out.mono ?_; rintro e W4 ⟨rfl, h4⟩; have H4 := hide h4; have y1 := HZ2.out W4 h4.own0; clear h4)
          | (go_at_call 17; refine (OneP.put H4.out (by have := HLL.out; omega) x).mono ?_; rintro e W5 ⟨A5, c5, rfl, h5⟩; have H5 := hide h5; clear h5))
        go_roundg (zs.length - (k + 1))
        case measure => omega
        case rel => exact ⟨k + 1, putL l x, A5, c5, by omega, by omega, by go_num, rfl, hide (by rw [HT.out, putAll_snoc, ← HL.out]), hide (by rw [HT.out, lsR_snoc]; exact H5.out)⟩
      · obtain rfl : k = zs.length := by omega
        have o1 : ¬ (zs.length : Int) < (zs.length : Int) := by omega
        have HT := hide (show zs.take zs.length = zs from List.take_length)
        rw [HT.out] at HL H3
        have HC := hide (all_c H3.out (by rw [lsR_len]; have := HP.out; omega))
        have HS := hide (fun (W5 : World) (out : List Int) (r2 : List Rc) (A5 : Option Addr) (c5 : Nat) (hpl : PlanR (allI (lsR zs).length) (lsR zs) out r2) (h : OneP w.heap.size w g (lsR zs) (rowA 3 1 (.slice A5 out.length c5) out.length (ints out) :: [rowA 3 1 (.slice A2 l.length c2) l.length (ints l)]) W5) => show Calls Try.prog 18 #[.slice A5 out.length c5, .slice A2 l.length c2] W5 fun e W' => e = .returned (.bool true) ∧ Below w.heap.size w W' from by
          have e := (ls_plan hpl).trans HL.out.symm
          subst e
          refine (h.same (A := A5) (B := A2) (c := c5) (d := c2) (l := out) (m := out) (by simp) (by simp) (by have := HLL.out; omega) (by have := HLL.out; omega)).mono ?_
          rintro e W' ⟨rfl, h'⟩
          rw [sameI_self]
          exact ⟨rfl, h'.below'⟩)
        go_wp2_with (first
          | (go_at_call 19; refine HC.out.mono ?_; rintro e W5 ⟨out, r2, A5, c5, rfl, hpl, h5⟩; have H5 := hide (HS.out _ _ _ _ _ hpl h5); clear hpl h5)
          | (go_at_call 18; refine H5.out.mono ?_; rintro e W6 ⟨rfl, h6⟩; have H6 := hide h6; clear h6))
        go_ret
        exact ⟨rfl, H6.out⟩
  · have o1 : (80 : Int) < (zs.length : Int) := by omega
    go_wp2_with (go_at_call 7; refine HA.out.mono ?_; rintro e W1 ⟨rfl, hb1⟩; have H1 := hide hb1; clear hb1)
    go_ret
    exact ⟨rfl, H1.out⟩
end Go.Proofs.Ytjfejimghbohdaa
namespace Go.Proofs.Ytjfejimghbohdaa
set_option linter.unusedVariables false
set_option linter.unusedSimpArgs false
open Go.RowKit Go.Maps

section
variable {n : Nat} {w W : World} {X : List Atom} {g : Nat} {r : List Rc}
theorem OneP.cellRow {l : List Int} {ga c : Nat} (h : OneP n w g r (rowA 3 1 (.slice (some ⟨ga, 0, none⟩) l.length c) l.length (ints l) :: X) W) {j : Nat} (hj : j < l.length) : W.cell? ⟨ga, j, none⟩ = some (.int .i64 l[j]) := by
  obtain ⟨pg, hg, ho⟩ := h
  have := ho.hold (rowA 3 1 (.slice (some ⟨ga, 0, none⟩) l.length c) l.length (ints l)) (by simp)
  have h2 := World.ownsRow.cellAt this j (by omega)
  exact h2.trans (ints_at hj)
theorem OneP.done (h : OneP n w g r X W) (id : Int) : Calls Try.prog 13 #[.pointer (some ⟨g, 0, none⟩), .int .i64 id] W fun e W' => e = .returned (.bool (doneR r id)) ∧ W = W' := by
  obtain ⟨pg, hg, ho⟩ := h
  exact gdone_c hg (fun a ha => ho.hold a (List.mem_append_left _ ha)) id
theorem OneP.need {ids : List Int} (h : OneP n w g r X W) (A : Option Addr) (c : Nat) (hl : ids.length < 274877906944) (hr : Reads n w X A ids) : Calls Try.prog 14 #[.pointer (some ⟨g, 0, none⟩), .slice A ids.length c] W fun e W' => ∃ xs A' c', e = .returned (.slice A' xs.length c') ∧ needR r ids xs ∧ Below n w W' := by
  obtain ⟨pg, hg, ho⟩ := h
  refine (need_c hg ho A c ids hl hr).mono ?_
  rintro e W' ⟨v, xs, rfl, hx, ho'⟩
  obtain ⟨A', c', rfl⟩ := own_slice ho'.row
  exact ⟨xs, A', c', rfl, hx, ho'.below⟩
theorem OneP.sm (h : OneP n w g r X W) : Sm r := by obtain ⟨pg, hg, ho⟩ := h; exact hg.sm
theorem OneP.holdX (h : OneP n w g r X W) : ∀ a ∈ X, a.Q W := by obtain ⟨pg, hg, ho⟩ := h; exact fun a ha => ho.hold a (List.mem_append_right _ ha)
end
set_option maxHeartbeats 16000000 in
set_option maxRecDepth 100000 in
theorem SyncerBrings_walk (w : World) (A0 : Option Addr) (len0 cap0 : Nat) (l : List Ac) (h1 : l.length = len0) (h2 : len0 ≤ cap0) (h3 : AcsOk l) (h4 : kAc.C w A0 l) (A1 : Option Addr) (len1 cap1 : Nat) (zs : List Int) (g1 : zs.length = len1) (g2 : len1 ≤ maxLen) (g3 : ∀ n ∈ zs, (Lit.int .i64 n).wf = true) (g4 : zs ≠ [] → ∃ x, A1 = some x ∧ x.block < w.heap.size ∧ ∀ j, j < zs.length → w.cell? (x.add j) = some (.int .i64 (zs.getD j 0))) :
    Calls Try.prog 3 #[.slice A0 len0 cap0, .slice A1 len1 cap1] w fun e w' => e = .returned (.bool true) ∧ Below w.heap.size w w' := by
  subst h1
  subst g1
  have HZ := hide (Reads.old (F := []) (n := w.heap.size) (w := w) (Ints.of_open (B := w.heap.size) g4))
  have HA := hide (alive7_c w)
  have HBG := hide (fun W hb => big_c (w := w) W A0 cap0 l h4 hb)
  have HBO := hide (fun W ho hf => both_c (w := w) (W := W) (F := []) ho A0 cap0 l h4 hf h3.1)
  have HRL := hide (rowsOf_le l l.length (Nat.le_refl _))
  rw [List.take_length] at HRL
  have HF2 := hide (fun (h : Few l) => h.1)
  clear h2 h3 h4 g2 g3 g4
  go_enter Try.func3, Try.ntmps3
  go_upto_region 3 with (first
    | (go_at_call 7; refine HA.out.mono ?_; rintro e W1 ⟨rfl, hb1⟩; have H1 := hide hb1; clear hb1)
    | (go_at_call 8; refine (HBG.out _ H1.out).mono ?_; rintro e w' ⟨⟨bb, rfl, hbb⟩, rfl⟩; have HBB := hide hbb; clear hbb))
  cases bb with
  | true =>
    go_wp2
    go_ret
    exact ⟨rfl, H1.out⟩
  | false =>
    by_cases hp : zs.length ≤ 200
    · have o1 : ¬ (200 : Int) < (zs.length : Int) := by omega
      have HB := hide (HBO.out W1 ((Own.start w).above H1.out) (HBB.out rfl))
      have HLE := hide (HF2.out (HBB.out rfl))
      clear H1 HBG HBO HA
      go_upto_region 8 with (go_at_call 9; refine HB.out.mono ?_; rintro e W2 ⟨g, b, rfl, h2⟩; have H2 := hide h2; clear h2)
      have HR0 := hide (show (rowsOf l).length ≤ 150 from by have := HRL.out.1; have := HLE.out; omega)
      clear HB HRL HLE HF2 HBB
      generalize rowsOf l = r at H2 HR0
      obtain ⟨pr, HR, HQ⟩ : ∃ pr, Hid (IsR b r pr) ∧ Hid (OneP w.heap.size w g r pr W2) := by
        obtain ⟨pg, pr, hg, hr, ho⟩ := H2.out
        rw [List.append_nil] at ho
        exact ⟨pr, hide hr, hide ⟨pg, hg, ho⟩⟩
      clear H2 o1
      have HZL := hide (show zs.length < 274877906944 from by omega)
      have hzl := HZL.out
      have hr150 := HR0.out
      have HZX := hide (fun (X : List Atom) => show Reads w.heap.size w X A1 zs from fun V hV => HZ.out V (hV.sub (List.nil_sublist _)))
      by_cases hin : ∀ x ∈ zs, 0 ≤ x ∧ x < (r.length : Int)
      · have HP := hide (planS_c (want := zs) (A := A1) (cw := cap1) HQ.out HZL.out (HZX.out pr) (by have := HR0.out; omega) hin)
        have HIN := hide hin
        clear hin
        go_upto_region 9 with (go_at_call 10; refine HP.out.mono ?_; rintro e W3 ⟨out, r2, A3, c3, rfl, hp, h3⟩; have H3 := hide h3; have HPL := hide hp; clear hp h3)
        clear HP HQ
        have HOL := hide (show out.length ≤ 150 from by have := HPL.out.len.2; have := leftR_le r; have := HR0.out; omega)
        have hol := HOL.out
        go_upto_region 12 with (go_at_call 11; refine (num11_c _ _).mono ?_; rintro e w' ⟨rfl, rfl⟩)
        go_loopg [12] out.length (fun m i wr => ∃ (k : Nat) (rk : List Rc), k ≤ out.length ∧ m = out.length - k ∧ i = .int .i64 k ∧ Hid (PlanR zs rk (out.drop k) r2) ∧ Hid (OneP w.heap.size w g rk (rowA 3 1 (.slice A3 out.length c3) out.length (ints out) :: pr) wr))
        case atStart => exact ⟨0, r, by omega, by omega, rfl, HPL, H3⟩
        case round =>
          obtain ⟨k, rk, hk, rfl, rfl, HK, HO⟩ := hrel
          clear H3
          by_cases hlt : k < out.length
          · obtain ⟨ga, rfl⟩ : ∃ ga, A3 = some ⟨ga, 0, none⟩ := by
              obtain ⟨pg, hg, ho⟩ := HO.out
              exact row_form ho.front.row (by omega)
            have HCUT := hide (HK.out.cut hlt)
            have HI := hide (HCUT.out.1.1.i64 HO.out.sm.buf)
            have HW := hide (HO.out.wr out[k] HI.out)
            have hnx : 0 < (nextR rk out[k]).length := List.length_pos_iff.2 HCUT.out.1.1.next
            have HNXT := hide HCUT.out.2
            have y0 := HO.out.cellRow hlt
            have HCN := hide (HPL.out.count out[k])
            have HCR := hide (fun (rr : List Rc) (V : World) (h : OneP w.heap.size w g rr (rowA 3 1 (.slice (some ⟨ga, 0, none⟩) out.length c3) out.length (ints out) :: pr) V) => h.cellRow hlt)
            have o1 : (k : Int) < (out.length : Int) := by omega
            have o2 : (0 : Int) ≤ (k : Int) := by omega
            clear HCUT HK HO
            generalize out[k] = x at HI HW hnx HNXT y0 HCN HCR
            generalize (nextR rk x).length = nl at HW hnx
            have z1 : ((nl : Int) == 0) = false := (int_neb (by omega)).1
            have z2 : ¬ nl = 0 := by omega
            go_upto_region 18 with (go_at_call 12; refine HW.out.mono ?_; rintro e W4 ⟨A4, c4, rfl, h4⟩; have H4 := hide h4; clear h4)
            clear HW z1 z2 y0
            generalize writtenR rk x = rn at H4 HNXT
            go_loopg [13, 14] out.length (fun m nn jj wr => ∃ (j : Nat) (v : Int), j ≤ out.length ∧ m = out.length - j ∧ nn = .int .i64 v ∧ jj = .int .i64 j ∧ Hid (v = (eqN (out.take j) x : Int)) ∧ Hid (OneP w.heap.size w g rn (rowA 3 1 (.slice (some ⟨ga, 0, none⟩) out.length c3) out.length (ints out) :: pr) wr))
            case atStart => exact ⟨0, 0, by omega, by omega, rfl, rfl, hide (by simp [eqN]), H4⟩
            case round =>
              obtain ⟨j, v, hj, rfl, rfl, rfl, HV, HJ⟩ := hrel
              clear H4
              by_cases hlt2 : j < out.length
              · have y1 := HJ.out.cellRow hlt2
                have y2 := HCR.out _ _ HJ.out
                have HE := hide (eqN_take out x hlt2)
                have hv0 : 0 ≤ v ∧ v ≤ 150 := by have := HV.out; have := eqN_le (out.take j) x; have := List.length_take_le j out; omega
                generalize out[j] = xj at y1 HE
                have q1 : (j : Int) < (out.length : Int) := by omega
                have q2 : (0 : Int) ≤ (j : Int) := by omega
                have HN := hide HJ.out.drew
                clear HJ
                by_cases he : xj = x
                · obtain ⟨m0, m1⟩ := int_eqb he
                  have HE2 := hide (show v + 1 = (eqN (out.take (j + 1)) x : Int) from by rw [HE.out, if_pos he]; have := HV.out; omega)
                  clear he
                  go_wp2
                  go_region
                  generalize wr.drew = Wz at HN ⊢
                  clear y1 y2
                  go_wp2
                  go_roundg (out.length - (j + 1))
                  case measure => omega
                  case rel => exact ⟨j + 1, v + 1, by omega, by omega, by go_num, by go_num, HE2, HN⟩
                · obtain ⟨m0, m1⟩ := int_neb he
                  have HE2 := hide (show v = (eqN (out.take (j + 1)) x : Int) from by rw [HE.out, if_neg he]; exact HV.out)
                  clear he
                  go_wp2
                  go_region
                  generalize wr.drew = Wz at HN ⊢
                  clear y1 y2
                  go_wp2
                  go_roundg (out.length - (j + 1))
                  case measure => omega
                  case rel => exact ⟨j + 1, v, by omega, by omega, rfl, by go_num, HE2, HN⟩
              · obtain rfl : j = out.length := by omega
                have q1 : ¬ (out.length : Int) < (out.length : Int) := by omega
                have HV2 := hide (show v = (eqN out x : Int) from by have := HV.out; rwa [List.take_length] at this)
                clear HV
                go_upto_region 23 with (fail)
                go_loopg [13, 15] r.length (fun m nn jj wr => ∃ (j : Nat) (v : Int), j ≤ r.length ∧ m = r.length - j ∧ nn = .int .i64 v ∧ jj = .int .i64 j ∧ Hid (v = (eqN out x : Int) - (bufN r x j : Int)) ∧ Hid (OneP w.heap.size w g rn (rowA 3 1 (.slice (some ⟨ga, 0, none⟩) out.length c3) out.length (ints out) :: pr) wr))
                case atStart => exact ⟨0, v, by omega, by omega, rfl, rfl, hide (by rw [HV2.out]; simp [bufN]), HJ⟩
                case round =>
                  obtain ⟨j, v, hj, rfl, rfl, rfl, HV, HJ2⟩ := hrel
                  clear HJ HV2
                  have hq : ∀ a ∈ pr, a.Q wr := fun a ha => HJ2.out.holdX a (List.mem_cons_of_mem _ ha)
                  by_cases hlt2 : j < r.length
                  · obtain ⟨gl, c', von, x0, x1, -, -, -⟩ := HR.out.cellAt hq hlt2
                    have y2 := HCR.out _ _ HJ2.out
                    have HE := hide (bufN_succ r x j)
                    have hv0 : -150 ≤ v ∧ v ≤ 150 := by have := HV.out; have := eqN_le out x; have := bufN_le r x j; omega
                    generalize (r.getD j zr).buf = xj at x1 HE
                    have q1 : (j : Int) < (r.length : Int) := by omega
                    have q2 : (0 : Int) ≤ (j : Int) := by omega
                    have HN := hide HJ2.out.drew
                    clear HJ2 hq
                    by_cases he : xj = x
                    · obtain ⟨m0, m1⟩ := int_eqb he
                      have HE2 := hide (show v - 1 = (eqN out x : Int) - (bufN r x (j + 1) : Int) from by rw [HE.out, if_pos he]; have := HV.out; omega)
                      clear he
                      go_wp2
                      go_region
                      generalize wr.drew = Wz at HN ⊢
                      clear x0 x1 y2
                      go_wp2
                      go_roundg (r.length - (j + 1))
                      case measure => omega
                      case rel => exact ⟨j + 1, v - 1, by omega, by omega, by go_num, by go_num, HE2, HN⟩
                    · obtain ⟨m0, m1⟩ := int_neb he
                      have HE2 := hide (show v = (eqN out x : Int) - (bufN r x (j + 1) : Int) from by rw [HE.out, if_neg he]; exact HV.out)
                      clear he
                      go_wp2
                      go_region
                      generalize wr.drew = Wz at HN ⊢
                      clear x0 x1 y2
                      go_wp2
                      go_roundg (r.length - (j + 1))
                      case measure => omega
                      case rel => exact ⟨j + 1, v, by omega, by omega, rfl, by go_num, HE2, HN⟩
                  · obtain rfl : j = r.length := by omega
                    have q1 : ¬ (r.length : Int) < (r.length : Int) := by omega
                    obtain ⟨Al, cl, x0⟩ := HR.out.slice hq
                    have q2 : ¬ (0 : Int) < v := by have := HV.out; have := HCN.out; omega
                    have q3 : v ≤ 0 := by omega
                    clear hq
                    go_wp2
                    go_roundg (out.length - (k + 1))
                    case measure => omega
                    case rel => exact ⟨k + 1, rn, by omega, by omega, by go_num, HNXT, HJ2⟩
          · obtain rfl : k = out.length := by omega
            have o1 : ¬ (out.length : Int) < (out.length : Int) := by omega
            obtain rfl : rk = r2 := by have := HK.out; rw [List.drop_length] at this; cases this; rfl
            have HND := hide (HO.out.need (ids := zs) A1 cap1 HZL.out (HZX.out _))
            have HDN := hide (fun (x : Int) (hx : x ∈ zs) => HPL.out.doneR hx (HIN.out x hx))
            have HNE := hide (fun (xs : List Int) (h : needR rk zs xs) => HPL.out.need h)
            go_upto_region 30 with (fail)
            go_loopg [16] zs.length (fun m i wq => ∃ k : Nat, k ≤ zs.length ∧ m = zs.length - k ∧ i = .int .i64 k ∧ wq = wr)
            case atStart => exact ⟨0, by omega, by omega, rfl, rfl⟩
            case round =>
              obtain ⟨k, hk, rfl, rfl, rfl⟩ := hrel
              by_cases hlt : k < zs.length
              · obtain ⟨ba, oa, rfl, _, hc⟩ := HZ.out _ HO.out.own0 (by intro e; rw [e] at hlt; simp at hlt)
                have y0 := hc k hlt
                have hgd : zs.getD k 0 = zs[k] := by simp [hlt]
                rw [hgd] at y0
                have HX := hide (HO.out.done zs[k])
                have hdd := HDN.out zs[k] (List.getElem_mem hlt)
                rw [hdd] at HX
                clear hc hgd hdd
                generalize zs[k] = x at y0 HX
                have q1 : (0 : Int) ≤ (k : Int) := by omega
                have q2 : (k : Int) < (zs.length : Int) := by omega
                go_wp2_with (go_at_call 13; refine HX.out.mono ?_; rintro e w' ⟨rfl, rfl⟩)
                go_roundg (zs.length - (k + 1))
                case measure => omega
                case rel => exact ⟨k + 1, by omega, by omega, by go_num, rfl⟩
              · obtain rfl : k = zs.length := by omega
                have q1 : ¬ (zs.length : Int) < (zs.length : Int) := by omega
                go_wp2_with (go_at_call 14; refine HND.out.mono ?_; rintro e W7 ⟨xs, A7, c7, rfl, hx, hb⟩; obtain rfl := HNE.out _ hx; have HBL := hide hb; clear hb hx)
                go_ret
                exact ⟨rfl, HBL.out⟩
      · have HP := hide (planNo_c (want := zs) (A := A1) (cw := cap1) HQ.out HZL.out (HZX.out pr) hin)
        clear hin
        go_wp2_with (first
          | (go_at_call 10; refine HP.out.mono ?_; rintro e w' ⟨rfl, rfl⟩)
          | (go_at_call 11; refine (num11_c _ _).mono ?_; rintro e w' ⟨rfl, rfl⟩))
        go_ret
        exact ⟨rfl, HQ.out.below'⟩
    · have o1 : (200 : Int) < (zs.length : Int) := by omega
      go_wp2
      go_ret
      exact ⟨rfl, H1.out⟩
end Go.Proofs.Ytjfejimghbohdaa
