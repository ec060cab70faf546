/-
  A chain of changes, in plain words.
  Plans where nothing hangs on anything, and plans of a chain: plain words.
  The law SyncerLeast. No condition.
  The law SyncerChain. No condition.
-/
import Derived.Test.YtjfejimghbohdaaMB11
namespace Go.Proofs.Ytjfejimghbohdaa
set_option linter.unusedVariables false
set_option linter.unusedSimpArgs false
open Go.RowKit Go.Maps

def chC (bf : Nat → Int) (i j : Nat) : Rc := ⟨bf j, if j = 0 then [] else [(j : Int) - 1], decide (j < i)⟩
/-- n changes, each hanging on the one ahead, the first i done -/
def chR (bf : Nat → Int) (n i : Nat) : List Rc := (List.range n).map (chC bf i)
theorem chR_len (bf : Nat → Int) (n i : Nat) : (chR bf n i).length = n := by simp [chR]
theorem chR_at {bf : Nat → Int} {n i j : Nat} (h : j < n) : (chR bf n i).getD j zr = chC bf i j := by simp [chR, h]
theorem chR_zero (bf : Nat → Int) : chR bf 0 0 = [] := rfl
theorem chR_snoc (bf : Nat → Int) (n : Nat) : chR bf n 0 ++ [⟨bf n, if n = 0 then [] else [(n : Int) - 1], false⟩] = chR bf (n + 1) 0 := by
  unfold chR
  rw [List.range_succ, List.map_append]
  simp [chC]
theorem chR_tot (bf : Nat → Int) (n i : Nat) : tot (chR bf n i) ≤ n := by
  unfold tot chR
  rw [List.map_map]
  induction n with
  | zero => simp
  | succ n ih =>
    rw [List.range_succ, List.map_append, List.sum_append]
    have : (((fun c : Rc => c.on.length) ∘ chC bf i) n) ≤ 1 := by
      show (chC bf i n).on.length ≤ 1
      unfold chC
      by_cases h : n = 0 <;> simp [h]
    simp only [List.map_cons, List.map_nil, List.sum_cons, List.sum_nil]
    omega
theorem chR_open {bf : Nat → Int} {n i j : Nat} {b : Int} (h : j < n) : openAt (chR bf n i) b j = (decide (i ≤ j) && decide (bf j = b)) := by
  unfold openAt
  rw [chR_at h]
  unfold chC
  simp only
  by_cases h2 : j < i
  · have : ¬ i ≤ j := by omega
    simp [h2, this]
  · have : i ≤ j := by omega
    simp [h2, this]
theorem chR_may {bf : Nat → Int} {n i j : Nat} (h : j < n) : mayAt (chR bf n i) j = decide (j ≤ i) := by
  unfold mayAt cnt
  rw [chR_at h]
  unfold chC
  simp only
  by_cases h0 : j = 0
  · subst h0; simp
  · rw [if_neg h0]
    have : rd (chR bf n i) ((j : Int) - 1) = chC bf i (j - 1) := by
      unfold rd
      have e : ((j : Int) - 1).toNat = j - 1 := by omega
      rw [e]; exact chR_at (by omega)
    rw [List.filter_cons, this]
    unfold chC
    simp only [List.filter_nil]
    by_cases h2 : j - 1 < i
    · have h3 : j ≤ i := by omega
      simp [h2, h3]
    · have h3 : ¬ j ≤ i := by omega
      simp [h2, h3]
theorem filter_at1 {n i : Nat} (h : i < n) : (List.range n).filter (fun j => decide (j = i)) = [i] := by
  induction n with
  | zero => omega
  | succ n ih =>
    rw [List.range_succ, List.filter_append]
    by_cases e : i = n
    · subst e
      have : (List.range i).filter (fun j => decide (j = i)) = [] := List.filter_eq_nil_iff.2 fun j hj => by have := List.mem_range.1 hj; simp; omega
      rw [this]; simp
    · rw [ih (by omega)]
      have : ¬ n = i := fun h => e h.symm
      simp [this]
theorem chR_next (bf : Nat → Int) (n i : Nat) (b : Int) : nextR (chR bf n i) b = if i < n ∧ bf i = b then [(i : Int)] else [] := by
  unfold nextR
  rw [chR_len]
  have e : (List.range n).filter (fun j => openAt (chR bf n i) b j && mayAt (chR bf n i) j) = (List.range n).filter (fun j => decide (j = i) && decide (bf i = b)) := by
    refine List.filter_congr fun j hj => ?_
    have hj := List.mem_range.1 hj
    rw [chR_open hj, chR_may hj]
    by_cases h : j = i
    · subst h; simp
    · by_cases h2 : i ≤ j
      · have : ¬ j ≤ i := by omega
        simp [h, h2, this]
      · simp [h, h2]
  rw [e]
  by_cases hb : bf i = b
  · simp only [hb, decide_true, Bool.and_true, and_true]
    by_cases hi : i < n
    · rw [filter_at1 hi, if_pos hi]; rfl
    · rw [if_neg hi]
      have : (List.range n).filter (fun j => decide (j = i)) = [] := List.filter_eq_nil_iff.2 fun j hj => by have := List.mem_range.1 hj; simp; omega
      rw [this]; rfl
  · rw [if_neg (fun h => hb h.2)]
    simp only [hb, decide_false, Bool.and_false]
    rw [List.filter_eq_nil_iff.2 (fun _ _ => by simp)]; rfl
theorem chR_written {bf : Nat → Int} {n i : Nat} (h : i < n) : writtenR (chR bf n i) (bf i) = chR bf n (i + 1) := by
  unfold writtenR setD
  rw [chR_next, if_pos ⟨h, rfl⟩, chR_len]
  unfold chR
  refine List.map_congr_left fun j hj => ?_
  have hj := List.mem_range.1 hj
  have : ((List.range n).map (chC bf i)).getD j zr = chC bf i j := chR_at hj
  rw [this]
  unfold chC
  simp only [Rc.mk.injEq, true_and]
  by_cases h1 : j < i
  · have : j < i + 1 := by omega
    simp [h1, this]
  · by_cases h2 : j = i
    · subst h2; simp
    · have h3 : ¬ j < i + 1 := by omega
      have h4 : ¬ (j : Int) = (i : Int) := by omega
      simp [h1, h3, h4]
theorem filter_ge (n i : Nat) : ((List.range n).filter (fun j => decide (i ≤ j))).length = n - i := by
  induction n with
  | zero => simp
  | succ n ih =>
    rw [List.range_succ, List.filter_append, List.length_append, ih]
    by_cases h : i ≤ n
    · simp [h]; omega
    · simp [h]; omega
theorem chR_opn (bf : Nat → Int) (n i : Nat) : (Of (chR bf n i)).opn = ((n - i : Nat) : Int) := by
  show (((List.range (chR bf n i).length).filter (fun j => !((chR bf n i).getD j zr).done)).length : Int) = _
  rw [chR_len]
  have e : (List.range n).filter (fun j => !((chR bf n i).getD j zr).done) = (List.range n).filter (fun j => decide (i ≤ j)) := by
    refine List.filter_congr fun j hj => ?_
    rw [chR_at (List.mem_range.1 hj)]
    unfold chC
    by_cases h : j < i
    · have : ¬ i ≤ j := by omega
      simp [h, this]
    · have : i ≤ j := by omega
      simp [h, this]
  rw [e, filter_ge]
theorem chR_blocked5 (n i : Nat) : (blockedR (chR (fun _ => 5) n i) 5).length = n - (i + 1) := by
  unfold blockedR castL
  rw [List.length_map, chR_len]
  rw [← filter_ge n (i + 1)]
  congr 1
  refine List.filter_congr fun j hj => ?_
  have hj := List.mem_range.1 hj
  rw [chR_open hj, chR_may hj]
  by_cases h : i + 1 ≤ j
  · have h1 : i ≤ j := by omega
    have h2 : ¬ j ≤ i := by omega
    simp [h, h1, h2]
  · by_cases h1 : i ≤ j
    · have h2 : j ≤ i := by omega
      simp [h, h1, h2]
    · simp [h, h1]
theorem chR_ready {bf : Nat → Int} {n i : Nat} (h : i < n) {xs : List Int} (hx : readyR (chR bf n i) xs) : xs = [bf i] :=
  ready_one (bf i) hx (fun x => by
    rw [chR_next]
    by_cases e : bf i = x
    · rw [if_pos ⟨h, e⟩]; simp [e]
    · rw [if_neg (fun h => e h.2)]
      simp
      exact fun h => e h.symm)
end Go.Proofs.Ytjfejimghbohdaa
namespace Go.Proofs.Ytjfejimghbohdaa
set_option linter.unusedVariables false
set_option linter.unusedSimpArgs false
open Go.RowKit Go.Maps

def lsR (l : List Int) : List Rc := l.map (fun b => ⟨b, [], false⟩)
theorem lsR_len (l : List Int) : (lsR l).length = l.length := by simp [lsR]
theorem lsR_snoc (l : List Int) (b : Int) : lsR (l ++ [b]) = lsR l ++ [⟨b, [], false⟩] := by simp [lsR]
theorem lsR_tot (l : List Int) : tot (lsR l) = 0 := by
  unfold tot lsR
  rw [List.map_map]
  induction l with
  | nil => rfl
  | cons a l ih => simp only [List.map_cons, List.sum_cons, ih]; rfl
structure FlatR (r : List Rc) (bs : List Int) : Prop where
  on : ∀ i, i < r.length → (r.getD i zr).on = []
  up : Rising bs
  open_ : ∀ b, b ∈ bs ↔ ∃ i, i < r.length ∧ (r.getD i zr).done = false ∧ (r.getD i zr).buf = b
theorem rd_nat (r : List Rc) (i : Nat) : rd r (i : Int) = r.getD i zr := by unfold rd; rw [Int.toNat_natCast]
theorem FlatR.may {r : List Rc} {bs : List Int} (h : FlatR r bs) {i : Nat} (hi : i < r.length) : mayR r i = !(r.getD i zr).done :=
  mayR_yes (fun j hj => by rw [h.on i hi] at hj; cases hj)
theorem FlatR.cand {r : List Rc} {bs : List Int} (h : FlatR r bs) (b : Int) : candR r (allI r.length) b ↔ b ∈ bs := by
  rw [h.open_]
  constructor
  · rintro ⟨i, hr, hm, hb⟩
    have hg := hr.good
    exact ⟨i, by have := hg.2.1; omega, by rw [← rd_nat]; exact hg.2.2, hb⟩
  · rintro ⟨i, hi, hd, hb⟩
    refine ⟨i, .id (allI_mem.2 (by omega)) ⟨by omega, by omega, by rw [rd_nat]; exact hd⟩, ?_, hb⟩
    rw [h.may hi, hd]; rfl
theorem FlatR.write {r : List Rc} {bs : List Int} {b : Int} (h : FlatR r (b :: bs)) : FlatR (writtenR r b) bs := by
  have hm : ∀ i, i < r.length → ((i : Int) ∈ nextR r b ↔ (r.getD i zr).done = false ∧ (r.getD i zr).buf = b) := fun i hi => by
    have h1 := h.may hi
    unfold mayR at h1
    rw [mem_nextR, openAt_eq]
    constructor
    · rintro ⟨-, h2, h3⟩
      simpa using h2
    · rintro ⟨h2, h3⟩
      rw [h2] at h1
      exact ⟨hi, by rw [h2, h3]; simp, by simpa using h1⟩
  have hu := List.pairwise_cons.1 h.up
  refine ⟨fun i hi => ?_, hu.2, fun c => ?_⟩
  · unfold writtenR at hi ⊢
    rw [setD_len] at hi
    rw [setD_at hi]; exact h.on i hi
  · have hc := h.open_ c
    constructor
    · intro hcb
      obtain ⟨i, hi, hd, hb⟩ := hc.1 (List.mem_cons_of_mem _ hcb)
      have hne : c ≠ b := by have := hu.1 c hcb; omega
      refine ⟨i, by unfold writtenR; rw [setD_len]; exact hi, ?_, ?_⟩
      · unfold writtenR
        rw [setD_at hi]
        show ((r.getD i zr).done || decide _) = false
        rw [hd, decide_eq_false (fun hx => by have := ((hm i hi).1 hx).2; exact hne (hb.symm.trans this))]; rfl
      · unfold writtenR
        rw [setD_at hi]; exact hb
    · rintro ⟨i, hi, hd, hb⟩
      unfold writtenR at hi hd hb
      rw [setD_len] at hi
      rw [setD_at hi] at hd hb
      obtain ⟨hd1, hd2⟩ := Bool.or_eq_false_iff.1 (show ((r.getD i zr).done || decide _) = false from hd)
      have hd2 := of_decide_eq_false hd2
      have hb : (r.getD i zr).buf = c := hb
      rcases List.mem_cons.1 (hc.2 ⟨i, hi, hd1, hb⟩) with e | e
      · exact absurd ((hm i hi).2 ⟨hd1, hb.trans e⟩) hd2
      · exact e
theorem FlatR.plan {bs : List Int} : ∀ {r : List Rc}, FlatR r bs → ∃ r2, PlanR (allI r.length) r bs r2 := by
  induction bs with
  | nil =>
    intro r h
    refine ⟨r, .done fun x hx => ?_⟩
    obtain ⟨i, rfl⟩ := Int.eq_ofNat_of_zero_le hx.good.1
    have hg := hx.good
    have := (h.open_ (r.getD i zr).buf).2 ⟨i, by have := hg.2.1; omega, by rw [← rd_nat]; exact hg.2.2, rfl⟩
    cases this
  | cons b bs ih =>
    intro r h
    obtain ⟨r2, h2⟩ := ih h.write
    have e : (writtenR r b).length = r.length := setD_len _ _
    rw [e] at h2
    refine ⟨r2, .step ⟨(h.cand b).2 List.mem_cons_self, fun b' hb' => ?_⟩ h2⟩
    rcases List.mem_cons.1 ((h.cand b').1 hb') with rfl | hx
    · omega
    · have := (List.pairwise_cons.1 h.up).1 b' hx
      omega
theorem putAll_mem (l : List Int) (b : Int) : ∀ a : List Int, b ∈ l.foldl putL a ↔ b ∈ a ∨ b ∈ l := by
  induction l with
  | nil => intro a; simp
  | cons x l ih =>
    intro a
    rw [List.foldl_cons, ih, putL_mem, List.mem_cons]
    constructor
    · rintro ((h | h) | h)
      · exact .inl h
      · exact .inr (.inl h)
      · exact .inr (.inr h)
    · rintro (h | h | h)
      · exact .inl (.inl h)
      · exact .inl (.inr h)
      · exact .inr h
theorem putAll_rising (l : List Int) : ∀ a : List Int, Rising a → Rising (l.foldl putL a) := by
  induction l with
  | nil => intro a h; exact h
  | cons x l ih => intro a h; exact ih _ (putL_rising h x)
theorem putAll_len (l : List Int) : ∀ a : List Int, (l.foldl putL a).length ≤ a.length + l.length := by
  induction l with
  | nil => intro a; simp
  | cons x l ih => intro a; have := ih (putL a x); have := putL_len_le a x; rw [List.foldl_cons, List.length_cons]; omega
theorem putAll_snoc (l : List Int) (b : Int) : (l ++ [b]).foldl putL [] = putL (l.foldl putL []) b := by rw [List.foldl_append]; rfl
theorem ls_flat (l : List Int) : FlatR (lsR l) (l.foldl putL []) := by
  have hg : ∀ i, i < l.length → (lsR l).getD i zr = ⟨l.getD i 0, [], false⟩ := fun i hi => by simp [lsR, hi]
  refine ⟨fun i hi => ?_, putAll_rising l [] List.Pairwise.nil, fun b => ?_⟩
  · rw [lsR_len] at hi; rw [hg i hi]
  · rw [putAll_mem, lsR_len]
    constructor
    · rintro (h | h)
      · cases h
      · obtain ⟨i, hi, rfl⟩ := List.getElem_of_mem h
        exact ⟨i, hi, by rw [hg i hi], by rw [hg i hi]; simp [hi]⟩
    · rintro ⟨i, hi, -, hb⟩
      rw [hg i hi] at hb
      have hb : l.getD i 0 = b := hb
      refine .inr ?_
      rw [← hb, List.getD_eq_getElem?_getD, List.getElem?_eq_getElem hi]
      exact List.getElem_mem hi
theorem ls_plan {l : List Int} {out : List Int} {r2 : List Rc} (h : PlanR (allI (lsR l).length) (lsR l) out r2) : out = l.foldl putL [] := by
  obtain ⟨r3, h3⟩ := (ls_flat l).plan
  exact (h.uniq h3).1

/-- what is needed for some changes of a chain that begins at i: those up to the greatest of them -/
theorem chR_rd {bf : Nat → Int} {n i : Nat} {x : Int} (h : 0 ≤ x ∧ x < (n : Int)) : rd (chR bf n i) x = chC bf i x.toNat := by
  unfold rd; exact chR_at (by omega)
theorem chR_good {bf : Nat → Int} {n i : Nat} {x : Int} : good (chR bf n i) x ↔ (i : Int) ≤ x ∧ x < (n : Int) := by
  unfold good
  rw [chR_len]
  constructor
  · rintro ⟨h1, h2, h3⟩
    rw [chR_rd ⟨h1, h2⟩] at h3
    have h4 : ¬ x.toNat < i := by simpa [chC] using h3
    omega
  · rintro ⟨h1, h2⟩
    have h0 : 0 ≤ x := by omega
    refine ⟨h0, h2, ?_⟩
    rw [chR_rd ⟨h0, h2⟩]
    have h4 : ¬ x.toNat < i := by omega
    simp [chC, h4]
theorem chR_reachTo {bf : Nat → Int} {n i t : Nat} {ids : List Int} (ht : t < n) (hm : (t : Int) ∈ ids) (hle : ∀ x ∈ ids, x ≤ (t : Int)) (x : Int) : Reach (chR bf n i) ids x ↔ (i : Int) ≤ x ∧ x ≤ (t : Int) := by
  constructor
  · intro h
    refine ⟨(chR_good.1 h.good).1, ?_⟩
    induction h with
    | id hx hg => exact hle _ hx
    | on hy hx hg ih =>
      have hyg := chR_good.1 hy.good
      rw [chR_rd ⟨by omega, hyg.2⟩] at hx
      unfold chC at hx
      simp only at hx
      split at hx
      · cases hx
      · rw [List.mem_singleton.1 hx]; omega
  · intro h
    have key : ∀ d : Nat, (i : Int) ≤ (t : Int) - d → Reach (chR bf n i) ids ((t : Int) - d) := by
      intro d
      induction d with
      | zero => intro h; exact .id (by simpa using hm) (chR_good.2 (by omega))
      | succ d ih =>
        intro h
        refine .on (ih (by omega)) ?_ (chR_good.2 (by omega))
        rw [chR_rd (by omega)]
        unfold chC
        have h0 : ¬ ((t : Int) - d).toNat = 0 := by omega
        simp only [h0, if_false, List.mem_singleton]
        omega
    have := key ((t : Int) - x).toNat (by omega)
    have e : (t : Int) - ((((t : Int) - x).toNat : Nat) : Int) = x := by omega
    rwa [e] at this
theorem chR_mayR {bf : Nat → Int} {n i j : Nat} (h : j < n) : mayR (chR bf n i) j = decide (j = i) := by
  unfold mayR
  rw [chR_may h, chR_at h]
  unfold chC
  simp only
  by_cases h1 : j = i
  · subst h1; simp
  · by_cases h2 : j ≤ i
    · have : j < i := by omega
      simp [h1, h2, this]
    · simp [h1, h2]
theorem chR_plan {bf : Nat → Int} {n t : Nat} {ids : List Int} (ht : t < n) (hm : (t : Int) ∈ ids) (hle : ∀ x ∈ ids, x ≤ (t : Int)) : ∀ d i : Nat, i + d = t + 1 → PlanR ids (chR bf n i) ((List.range' i d).map bf) (chR bf n (t + 1)) := by
  intro d
  induction d with
  | zero =>
    intro i hi
    obtain rfl : i = t + 1 := by omega
    refine .done fun x hx => ?_
    have := (chR_reachTo ht hm hle x).1 hx
    omega
  | succ d ih =>
    intro i hi
    have hin : i < n := by omega
    have hb : ∀ b, candR (chR bf n i) ids b → b = bf i := by
      rintro b ⟨j, hr, hmj, hb⟩
      have hj := ((chR_reachTo ht hm hle _).1 hr)
      have hjn : j < n := by omega
      rw [chR_mayR hjn] at hmj
      have e := of_decide_eq_true hmj
      rw [chR_at hjn] at hb
      rw [← hb, e]; rfl
    refine .step (b := bf i) ⟨⟨i, (chR_reachTo ht hm hle _).2 (by omega), by rw [chR_mayR hin]; simp, by rw [chR_at hin]; rfl⟩, fun b' hb' => by rw [hb b' hb']; omega⟩ ?_
    rw [chR_written hin]
    exact ih (i + 1) (by omega)
theorem chR_plan1 {bf : Nat → Int} {n t : Nat} (ht : t < n) {out : List Int} {r2 : List Rc} (h : PlanR [(t : Int)] (chR bf n 0) out r2) : out = (List.range (t + 1)).map bf := by
  have := (h.uniq (chR_plan ht (List.mem_singleton.2 rfl) (fun x hx => by rw [List.mem_singleton.1 hx]; omega) (t + 1) 0 (by omega))).1
  rw [this, List.range_eq_range']
theorem chR_planAll {bf : Nat → Int} {n : Nat} (hn : 0 < n) {out : List Int} {r2 : List Rc} (h : PlanR (allI (chR bf n 0).length) (chR bf n 0) out r2) : out = (List.range n).map bf := by
  rw [chR_len] at h
  have := (h.uniq (chR_plan (t := n - 1) (by omega) (allI_mem.2 (by omega)) (fun x hx => by have := allI_mem.1 hx; omega) n 0 (by omega))).1
  rw [this, List.range_eq_range']
end Go.Proofs.Ytjfejimghbohdaa
namespace Go.Proofs.Ytjfejimghbohdaa
set_option linter.unusedVariables false
set_option linter.unusedSimpArgs false
open Go.RowKit Go.Maps

section
variable {n : Nat} {w W : World} {F X : List Atom} {g : Nat} {r : List Rc}
theorem OneP.put {l : List Int} {v : Value} (h : OneP n w g r (rowA 3 1 v l.length (ints l) :: X) W) (hl : l.length < 274877906944) (x : Int) :
    Calls Try.prog 17 #[v, .int .i64 x] W fun e W' => ∃ A c, e = .returned (.slice A (putL l x).length c) ∧ OneP n w g r (rowA 3 1 (.slice A (putL l x).length c) (putL l x).length (ints (putL l x)) :: X) W' := by
  obtain ⟨pg, hg, ho⟩ := h
  refine (put_c ho.front hl x).mono ?_
  rintro e W' ⟨v', rfl, h'⟩
  obtain ⟨A, c, rfl⟩ := own_slice h'.row
  exact ⟨A, c, rfl, pg, hg, h'.back⟩
theorem OneP.own0 (h : OneP n w g r X W) : Own n w W [] := by obtain ⟨pg, hg, ho⟩ := h; exact ho.sub (List.nil_sublist _)
theorem OneP.nilRow (h : OneP n w g r X W) : OneP n w g r (rowA 3 1 (.slice none 0 0) 0 (ints []) :: X) W := by
  obtain ⟨pg, hg, ho⟩ := h
  exact ⟨pg, hg, (Own.nilRow ho 3 1).back⟩
end
set_option maxHeartbeats 8000000 in
set_option maxRecDepth 100000 in
theorem SyncerLeast_walk (w : World) (A0 : Option Addr) (len0 cap0 : Nat) (zs : List Int) (g1 : zs.length = len0) (g2 : len0 ≤ maxLen) (g3 : ∀ n ∈ zs, (Lit.int .i64 n).wf = true) (g4 : zs ≠ [] → ∃ x, A0 = some x ∧ x.block < w.heap.size ∧ ∀ j, j < zs.length → w.cell? (x.add j) = some (.int .i64 (zs.getD j 0))) :
    Calls Try.prog 4 #[.slice A0 len0 cap0] w fun e w' => e = .returned (.bool true) ∧ Below w.heap.size w w' := by
  subst g1
  have HZ := hide (Reads.old (F := []) (n := w.heap.size) (w := w) (Ints.of_open (B := w.heap.size) g4))
  have HA := hide (alive7_c w)
  have HI := hide (fun j (hj : j < zs.length) => i64_of_wf (g3 zs[j] (List.getElem_mem hj)))
  clear g2 g3 g4
  go_enter Try.func4, Try.ntmps4
  by_cases hp : zs.length ≤ 80
  · have o1 : ¬ (80 : Int) < (zs.length : Int) := by omega
    have HP := hide hp
    go_upto_region 7 with (first
      | (go_at_call 7; refine HA.out.mono ?_; rintro e W1 ⟨rfl, hb1⟩; have H1 := hide ((Own.start w).above hb1); clear hb1)
      | (go_at_call 15; refine (OneP.new H1.out).mono ?_; rintro e W2 ⟨g, rfl, h2⟩; have H2 := hide h2.nilRow; clear h2))
    clear HA H1 o1 hp
    go_loopg [6, 5] zs.length (fun m i v wr => ∃ (k : Nat) (l : List Int) (A2 : Option Addr) (c2 : Nat), k ≤ zs.length ∧ m = zs.length - k ∧ i = .int .i64 k ∧ v = .slice A2 l.length c2 ∧ Hid (l = (zs.take k).foldl putL []) ∧ Hid (OneP w.heap.size w g (lsR (zs.take k)) [rowA 3 1 (.slice A2 l.length c2) l.length (ints l)] wr))
    case atStart => exact ⟨0, [], none, 0, by omega, by omega, rfl, rfl, hide rfl, H2⟩
    case round =>
      obtain ⟨k, l, A2, c2, hk, rfl, rfl, rfl, HL, H3⟩ := hrel
      clear H2
      have HLL := hide (show l.length ≤ 80 from by have := putAll_len (zs.take k) []; rw [← HL.out, List.length_take, List.length_nil] at this; have := HP.out; omega)
      by_cases hlt : k < zs.length
      · obtain ⟨ba, oa, rfl, _, hc⟩ := HZ.out wr H3.out.own0 (by intro e; rw [e] at hlt; simp at hlt)
        have y0 := hc k hlt
        have HG := hide (show zs.getD k 0 = zs[k] from by simp [hlt])
        rw [HG.out] at y0
        clear hc
        have HT := hide (show zs.take (k + 1) = zs.take k ++ [zs[k]] from List.take_succ_eq_append_getElem hlt)
        have HIK := hide (HI.out k hlt)
        have HZ2 := hide (fun W' (h : Own w.heap.size w W' []) => show W'.cell? ⟨ba, oa + k, none⟩ = some (.int .i64 zs[k]) from by
          obtain ⟨ba', oa', e, -, hc2⟩ := HZ.out W' h (by intro e; rw [e] at hlt; simp at hlt)
          cases e
          have := hc2 k hlt
          rwa [HG.out] at this)
        clear HG
        generalize zs[k] = x at y0 HT HIK HZ2
        have o1 : (k : Int) < (zs.length : Int) := by omega
        have o2 : (0 : Int) ≤ (k : Int) := by omega
        have HC := hide (H3.out.add0 x HIK.out (by rw [lsR_len, List.length_take]; have := HP.out; omega) (by rw [lsR_tot]; omega))
        go_wp2_with (first
          | (go_at_call 16; refine HC.out.mono ?_; rintro e W4 ⟨rfl, h4⟩; have H4 := hide h4; have y1 := HZ2.out W4 h4.own0; clear h4)
          | (go_at_call 17; refine (OneP.put H4.out (by have := HLL.out; omega) x).mono ?_; rintro e W5 ⟨A5, c5, rfl, h5⟩; have H5 := hide h5; clear h5))
        go_roundg (zs.length - (k + 1))
        case measure => omega
        case rel => exact ⟨k + 1, putL l x, A5, c5, by omega, by omega, by go_num, rfl, hide (by rw [HT.out, putAll_snoc, ← HL.out]), hide (by rw [HT.out, lsR_snoc]; exact H5.out)⟩
      · obtain rfl : k = zs.length := by omega
        have o1 : ¬ (zs.length : Int) < (zs.length : Int) := by omega
        have HT := hide (show zs.take zs.length = zs from List.take_length)
        rw [HT.out] at HL H3
        have HC := hide (all_c H3.out (by rw [lsR_len]; have := HP.out; omega))
        have HS := hide (fun (W5 : World) (out : List Int) (r2 : List Rc) (A5 : Option Addr) (c5 : Nat) (hpl : PlanR (allI (lsR zs).length) (lsR zs) out r2) (h : OneP w.heap.size w g (lsR zs) (rowA 3 1 (.slice A5 out.length c5) out.length (ints out) :: [rowA 3 1 (.slice A2 l.length c2) l.length (ints l)]) W5) => show Calls Try.prog 18 #[.slice A5 out.length c5, .slice A2 l.length c2] W5 fun e W' => e = .returned (.bool true) ∧ Below w.heap.size w W' from by
          have e := (ls_plan hpl).trans HL.out.symm
          subst e
          refine (h.same (A := A5) (B := A2) (c := c5) (d := c2) (l := out) (m := out) (by simp) (by simp) (by have := HLL.out; omega) (by have := HLL.out; omega)).mono ?_
          rintro e W' ⟨rfl, h'⟩
          rw [sameI_self]
          exact ⟨rfl, h'.below'⟩)
        go_wp2_with (first
          | (go_at_call 19; refine HC.out.mono ?_; rintro e W5 ⟨out, r2, A5, c5, rfl, hpl, h5⟩; have H5 := hide (HS.out _ _ _ _ _ hpl h5); clear hpl h5)
          | (go_at_call 18; refine H5.out.mono ?_; rintro e W6 ⟨rfl, h6⟩; have H6 := hide h6; clear h6))
        go_ret
        exact ⟨rfl, H6.out⟩
  · have o1 : (80 : Int) < (zs.length : Int) := by omega
    go_wp2_with (go_at_call 7; refine HA.out.mono ?_; rintro e W1 ⟨rfl, hb1⟩; have H1 := hide hb1; clear hb1)
    go_ret
    exact ⟨rfl, H1.out⟩
end Go.Proofs.Ytjfejimghbohdaa
namespace Go.Proofs.Ytjfejimghbohdaa
set_option linter.unusedVariables false
set_option linter.unusedSimpArgs false
open Go.RowKit Go.Maps

def bfC : Nat → Int := fun j => 1000 - (j : Int)
section
variable {n n2 b c c2 : Nat} {w W : World} {F X : List Atom} {g : Nat} {A : Option Addr} {out l : List Int}
theorem ch_add0 (h : OneP n w g (chR bfC 0 0) X W) :
    Calls Try.prog 16 #[.pointer (some ⟨g, 0, none⟩), .int .i64 1000, .slice none 0 0] W fun e W' => ∃ z, e = .returned (.tuple #[.int .i64 z, .int .i64 0]) ∧ OneP n w g (chR bfC 1 0) X W' := by
  refine (h.add0 1000 (by unfold I64; omega) (by rw [chR_len]; omega) (by have := chR_tot bfC 0 0; omega)).mono ?_
  rintro e W' ⟨he, h'⟩
  have := chR_snoc bfC 0
  rw [if_pos rfl] at this
  exact ⟨_, he, this ▸ h'⟩
theorem ch_add1 {k : Nat} (h : OneP n w g (chR bfC k 0) X W) (hk : 0 < k) (hk2 : k < 1000) :
    Calls Try.prog 16 #[.pointer (some ⟨g, 0, none⟩), .int .i64 (1000 - (k : Int)), .slice (some ⟨W.heap.size, 0, none⟩) 1 1] (W.alloc (.cells #[.int .i64 ((k : Int) - 1)] 3)) fun e W' => ∃ z, e = .returned (.tuple #[.int .i64 z, .int .i64 0]) ∧ OneP n w g (chR bfC (k + 1) 0) X W' := by
  have ht := chR_tot bfC k 0
  refine (h.add1 (1000 - (k : Int)) (by unfold I64; omega) ((k : Int) - 1) (by rw [chR_len]; omega) (by omega) (by rw [chR_len]; omega)).mono ?_
  rintro e W' ⟨he, h'⟩
  have := chR_snoc bfC k
  rw [if_neg (by omega)] at this
  exact ⟨_, he, this ▸ h'⟩
theorem OneP.leftC {m : Nat} (h : OneP n w g (chR bfC m 0) X W) : Calls Try.prog 20 #[.pointer (some ⟨g, 0, none⟩)] W fun e W' => e = .returned (.int .i64 (m : Int)) ∧ W = W' := by
  obtain ⟨pg, hg, ho⟩ := h
  refine (gleft_c hg ho).mono ?_
  rintro e W' ⟨he, hw⟩
  rw [chR_opn, Nat.sub_zero] at he
  exact ⟨he, hw⟩
theorem chT_succ (k : Nat) : (List.range (k + 1)).map bfC = (List.range k).map bfC ++ [1000 - (k : Int)] := by rw [List.range_succ, List.map_append]; rfl
/-- the slice of the first t + 1 of what stands in the row -/
theorem same_pre (h : OneP n w g (chR bfC n2 0) (rowA 3 1 (.slice A out.length c) out.length (ints out) :: rowA 3 1 (.slice (some ⟨b, 0, none⟩) l.length c2) l.length (ints l) :: X) W) (t d : Nat) (ht : t ≤ l.length) (ho : out = l.take t) (hl : l.length < 1099511627776) :
    Calls Try.prog 18 #[.slice A out.length c, .slice (some ⟨b, 0, none⟩) t d] W fun e W' => e = .returned (.bool true) ∧ OneP n w g (chR bfC n2 0) (rowA 3 1 (.slice A out.length c) out.length (ints out) :: rowA 3 1 (.slice (some ⟨b, 0, none⟩) l.length c2) l.length (ints l) :: X) W' := by
  obtain ⟨pg, hg, ho'⟩ := h
  have h1 := Reads.row (n := n) (w := w) (F := pg ++ (rowA 3 1 (.slice A out.length c) out.length (ints out) :: rowA 3 1 (.slice (some ⟨b, 0, none⟩) l.length c2) l.length (ints l) :: X)) (A := A) (c := c) (k := out.length) (on := out) (by simp)
  have h2 := Reads.row (n := n) (w := w) (F := pg ++ (rowA 3 1 (.slice A out.length c) out.length (ints out) :: rowA 3 1 (.slice (some ⟨b, 0, none⟩) l.length c2) l.length (ints l) :: X)) (A := some ⟨b, 0, none⟩) (c := c2) (k := l.length) (on := l) (by simp)
  have h3 : Reads n w (pg ++ (rowA 3 1 (.slice A out.length c) out.length (ints out) :: rowA 3 1 (.slice (some ⟨b, 0, none⟩) l.length c2) l.length (ints l) :: X)) (some ⟨b, 0, none⟩) out := fun V hV => by rw [ho]; exact (h2 V hV).take t
  have e : t = out.length := by rw [ho, List.length_take]; omega
  have hol : out.length < 1099511627776 := by omega
  have := same_c A c out (some ⟨b, 0, none⟩) d out hol hol h1 h3 ho'
  rw [← e] at this ⊢
  refine this.mono ?_
  rintro e W' ⟨he, h⟩
  rw [sameI_self] at he
  exact ⟨he, pg, hg, h⟩
end
set_option maxHeartbeats 8000000 in
set_option maxRecDepth 100000 in
theorem SyncerChain_walk (w : World) (z : Int) (wz : (Lit.int .i64 z).wf = true) (y : Int) (wy : (Lit.int .i64 y).wf = true) :
    Calls Try.prog 5 #[.int .i64 z, .int .i64 y] w fun e w' => e = .returned (.bool true) ∧ Below w.heap.size w w' := by
  have HA := hide (alive7_c w)
  by_cases hz : (1 ≤ z ∧ z ≤ 60) ∧ (0 ≤ y ∧ y < z)
  · obtain ⟨m, rfl⟩ := Int.eq_ofNat_of_zero_le (show 0 ≤ z by omega)
    obtain ⟨t, rfl⟩ := Int.eq_ofNat_of_zero_le hz.2.1
    have hm0 : 0 < m := by omega
    have hm : m ≤ 60 := by omega
    have htm : t < m := by omega
    have o1 : ¬ (m : Int) < 1 := by omega
    have o2 : ¬ (60 : Int) < (m : Int) := by omega
    have o3 : ¬ (t : Int) < 0 := by omega
    have o4 : ¬ (m : Int) ≤ (t : Int) := by omega
    have o5 : ¬ m ≤ t := by omega
    clear hz wz wy
    go_enter Try.func5, Try.ntmps5
    go_upto_region 7 with (first
      | (go_at_call 7; refine HA.out.mono ?_; rintro e W1 ⟨rfl, hb1⟩; have H1 := hide ((Own.start w).above hb1); clear hb1)
      | (go_at_call 15; refine (OneP.new H1.out).mono ?_; rintro e W2 ⟨g, rfl, h2⟩; have H2 := hide (show OneP w.heap.size w g (chR bfC 0 0) [rowA 3 1 (.slice none 0 0) 0 (ints [])] W2 from h2.nilRow); clear h2))
    clear HA H1 o1 o2 o3 o4 o5
    have HM := hide hm
    go_loopg [8, 7] m (fun mm i v wr => ∃ (k : Nat) (A2 : Option Addr) (c2 : Nat), k ≤ m ∧ mm = m - k ∧ i = .int .i64 k ∧ v = .slice A2 k c2 ∧ Hid (OneP w.heap.size w g (chR bfC k 0) [rowA 3 1 (.slice A2 k c2) k (ints ((List.range k).map bfC))] wr))
    case atStart => exact ⟨0, none, 0, by omega, by omega, rfl, rfl, H2⟩
    case round =>
      obtain ⟨k, A2, c2, hk, rfl, rfl, rfl, H3⟩ := hrel
      clear H2
      by_cases hlt : k < m
      · have p1 : (k : Int) < (m : Int) := by omega
        have p4 : IntKind.i64.wrap (1000 - (k : Int)) = 1000 - (k : Int) := IntWalk.i64_in _ (by omega)
        have HK := hide (show k ≤ 60 from by omega)
        by_cases h0 : k = 0
        · subst h0
          have p2 : ¬ (0 : Int) < ((0 : Nat) : Int) := by omega
          have HC := hide (ch_add0 H3.out)
          go_wp2_with (first
            | (go_at_call 16; refine HC.out.mono ?_; rintro e W4 ⟨z, rfl, h4⟩; have H4 := hide h4; clear h4)
            | (at_builtin; go_must (obtain ⟨i0, hi, hz0, hz1, hz2⟩ := info_parts info3; obtain ⟨pg, hg, ho⟩ := H4.out; have HO := hide ho.front; refine wpList_append_own_at _ rfl _ _ 23 rfl w.heap.size 3 i0 (.int .i64 0) 1 8 Try.underlying23 hi hz0 hz1 hz2 rfl (by decide) _ _ _ rfl (HO.out.row.alloc _) ⟨W4.heap.size, 0, none⟩ 1 1 [.int .i64 1000] rfl rfl (cell_one_new _ _ _) (by simp [Value.oneCell']) (by unfold maxLen; omega) (by omega) (by have := HO.out.sz; simp; omega) ?_); intro v' w4 hown' hgrow _ hat; obtain ⟨A6, c6, rfl⟩ := own_slice hown'; have H5 := hide (show OneP w.heap.size w g (chR bfC 1 0) [rowA 3 1 (.slice A6 (0 + 1) c6) (0 + 1) (ints ((List.range (0 + 1)).map bfC))] w4 from ⟨pg, hg, ((HO.out.alloc _).growRow hown' hgrow hat).back⟩); clear hown' hgrow hat))
          go_roundg (m - (0 + 1))
          case measure => omega
          case rel => exact ⟨0 + 1, A6, c6, by omega, by omega, by go_num, rfl, H5⟩
        · have p2 : (0 : Int) < (k : Int) := by omega
          have p3 : IntKind.i64.wrap ((k : Int) - 1) = (k : Int) - 1 := IntWalk.i64_in _ (by omega)
          have HC := hide (ch_add1 H3.out (by omega) (by omega))
          go_wp2_with (first
            | (go_at_call 16; refine HC.out.mono ?_; rintro e W4 ⟨z, rfl, h4⟩; have H4 := hide h4; clear h4)
            | (at_builtin; go_must (obtain ⟨i0, hi, hz0, hz1, hz2⟩ := info_parts info3; obtain ⟨pg, hg, ho⟩ := H4.out; have HO := hide ho.front; refine wpList_append_own_at _ rfl _ _ 23 rfl w.heap.size 3 i0 (.int .i64 0) 1 8 Try.underlying23 hi hz0 hz1 hz2 rfl (by decide) _ _ _ rfl (HO.out.row.alloc _) ⟨W4.heap.size, 0, none⟩ 1 1 [.int .i64 (1000 - (k : Int))] rfl rfl (cell_one_new _ _ _) (by simp [Value.oneCell']) (by have := HK.out; unfold maxLen; omega) (by have := HK.out; omega) (by have := HO.out.sz; simp; omega) ?_); intro v' w4 hown' hgrow _ hat; obtain ⟨A6, c6, rfl⟩ := own_slice hown'; have H5 := hide (show OneP w.heap.size w g (chR bfC (k + 1) 0) [rowA 3 1 (.slice A6 (k + 1) c6) (k + 1) (ints ((List.range (k + 1)).map bfC))] w4 from ⟨pg, hg, (by have := ((HO.out.alloc _).growRow hown' hgrow hat).back; rw [chT_succ]; rw [show ints ((List.range k).map bfC ++ [1000 - (k : Int)]) = ints ((List.range k).map bfC) ++ [Value.int .i64 (1000 - (k : Int))] from by simp [ints]]; exact this)⟩); clear hown' hgrow hat))
          go_roundg (m - (k + 1))
          case measure => omega
          case rel => exact ⟨k + 1, A6, c6, by omega, by omega, by go_num, rfl, H5⟩
      · obtain rfl : k = m := by omega
        have p1 : ¬ (k : Int) < (k : Int) := by omega
        obtain ⟨b2, rfl⟩ : ∃ b2, A2 = some ⟨b2, 0, none⟩ := by
          obtain ⟨pg, hg, ho⟩ := H3.out
          exact row_form ho.front.row (by omega)
        have HLn := hide (show ((List.range k).map bfC).length = k from by simp)
        have HTk := hide (show ((List.range k).map bfC).take (t + 1) = (List.range (t + 1)).map bfC from by rw [← List.map_take, List.take_range, Nat.min_eq_left (by omega)])
        have hck : k ≤ c2 := by
          obtain ⟨pg, hg, ho⟩ := H3.out
          rcases ho.front.row.2 with ⟨h1, h2⟩ | ⟨g', cap, cur, h1, _, _, h3, _⟩
          · cases h1
          · injection h1 with _ _ h1; omega
        have htk : t + 1 ≤ c2 := by omega
        have HC := hide (H3.out.plan1 (t : Int) (by rw [chR_len]; omega) (by rw [chR_len]; omega))
        have HPL := hide (fun (out : List Int) (r2 : List Rc) (h : PlanR [(t : Int)] (chR bfC k 0) out r2) => chR_plan1 htm h)
        have HPA := hide (fun (out : List Int) (r2 : List Rc) (h : PlanR (allI (chR bfC k 0).length) (chR bfC k 0) out r2) => chR_planAll hm0 h)
        generalize (List.range k).map bfC = l at H3 HLn HTk HC HPA
        clear H3
        have e := HLn.out
        subst e
        have HS1 := hide (fun (V : World) (out : List Int) (r2 : List Rc) (A5 : Option Addr) (c5 : Nat) (hpl : PlanR [(t : Int)] (chR bfC l.length 0) out r2) (h : OneP w.heap.size w g (chR bfC l.length 0) (rowA 3 1 (.slice A5 out.length c5) out.length (ints out) :: [rowA 3 1 (.slice (some ⟨b2, 0, none⟩) l.length c2) l.length (ints l)]) V) =>
          same_pre h (t + 1) c2 (by omega) ((HPL.out _ _ hpl).trans HTk.out.symm) (by have := HM.out; omega))
        have HLE := hide (show l.length < 274877906944 from by have := HM.out; omega)
        have p5 : IntKind.i64.wrap ((t : Int) + 1) = ((t + 1 : Nat) : Int) := (IntWalk.i64_in _ (by omega)).trans (by omega)
        have p6 : ¬ ((t + 1 : Nat) : Int) < 0 := by omega
        go_upto_region 15 with (go_at_call 10; refine HC.out.mono ?_; rintro e W4 ⟨out, r2, A4, c4, rfl, hp, h4⟩; have H4 := hide (HS1.out _ _ _ _ _ hp h4); clear h4 hp)
        clear HC HS1 HPL HTk
        go_wp2_with (first
          | (go_at_call 11; refine (num11_c _ _).mono ?_; rintro e w' ⟨rfl, rfl⟩)
          | (go_at_call 20; refine H7.out.mono ?_; rintro e w' ⟨rfl, rfl⟩)
          | (go_at_call 19; refine (all_c H5.out (by rw [chR_len]; exact HLE.out)).mono ?_; rintro e W6 ⟨out6, r6, A6, c6, rfl, hp6, h6⟩; have e6 := HPA.out _ _ hp6; subst e6; have H6 := hide (h6.same (A := A6) (B := some ⟨b2, 0, none⟩) (c := c6) (d := c2) (l := out6) (m := out6) (by simp) (by simp) (by have := HLE.out; omega) (by have := HLE.out; omega)); rw [sameI_self] at H6; clear h6 hp6)
          | (have hx6 := H6; clear hx6; go_at_call 18; refine H6.out.mono ?_; rintro e W7 ⟨rfl, h7⟩; have H7 := hide h7.leftC; have H8 := hide h7.below'; clear h7)
          | (go_at_call 18; refine H4.out.mono ?_; rintro e W5 ⟨rfl, h5⟩; have H5 := hide h5; clear h5))
        go_ret
        exact ⟨rfl, H8.out⟩
  · clear wz wy
    by_cases a1 : z < 1
    · clear hz
      go_enter Try.func5, Try.ntmps5
      go_wp2_with (go_at_call 7; refine HA.out.mono ?_; rintro e W1 ⟨rfl, hb1⟩; have H1 := hide hb1; clear hb1)
      go_ret
      exact ⟨rfl, H1.out⟩
    · by_cases a2 : 60 < z
      · clear hz
        go_enter Try.func5, Try.ntmps5
        go_wp2_with (go_at_call 7; refine HA.out.mono ?_; rintro e W1 ⟨rfl, hb1⟩; have H1 := hide hb1; clear hb1)
        go_ret
        exact ⟨rfl, H1.out⟩
      · by_cases a3 : y < 0
        · clear hz
          go_enter Try.func5, Try.ntmps5
          go_wp2_with (go_at_call 7; refine HA.out.mono ?_; rintro e W1 ⟨rfl, hb1⟩; have H1 := hide hb1; clear hb1)
          go_ret
          exact ⟨rfl, H1.out⟩
        · have a4 : z ≤ y := by omega
          have a5 : ¬ y < z := by omega
          clear hz
          go_enter Try.func5, Try.ntmps5
          go_wp2_with (go_at_call 7; refine HA.out.mono ?_; rintro e W1 ⟨rfl, hb1⟩; have H1 := hide hb1; clear hb1)
          go_ret
          exact ⟨rfl, H1.out⟩
end Go.Proofs.Ytjfejimghbohdaa
