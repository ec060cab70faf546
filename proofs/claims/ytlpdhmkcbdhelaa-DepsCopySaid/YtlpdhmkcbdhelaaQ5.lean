/-
  All graphs on the way are in their bounds, where their rows are few: plain words.
-/
import Derived.Test.YtlpdhmkcbdhelaaQ4
namespace Go.Proofs.Ytlpdhmkcbdhelaa
set_option linter.unusedVariables false
set_option linter.unusedSimpArgs false
open Go.RowKit

/-- rows that are few -/
structure Sm (r : List Rc) : Prop where
  len : r.length < 274877906944
  on : ∀ i, i < r.length → (r.getD i zr).on.length < 274877906944
  to : ∀ k, (toL r k).length < 274877906944
  buf : ∀ i, i < r.length → I64 (r.getD i zr).buf
theorem fit_shape {r : List Rc} (hs : Sm r) (st : St) (hl : st.l.length = r.length)
    (hc : ∀ i, i < r.length → (st.l.getD i zc).buf = (r.getD i zr).buf ∧ (st.l.getD i zc).on = (r.getD i zr).on ∧ ((st.l.getD i zc).to = [] ∨ (st.l.getD i zc).to = toL r i) ∧ 0 ≤ (st.l.getD i zc).left ∧ (st.l.getD i zc).left ≤ (cnt r (r.getD i zr).on : Int))
    (ho : -(r.length : Int) ≤ st.opn ∧ st.opn ≤ (r.length : Int)) (hn : ∀ b v, st.next b = some v → 0 ≤ v ∧ v ≤ 3 * (r.length : Int))
    (hni : ∀ b, (st.next b).isSome = true → ∃ i, i < r.length ∧ (r.getD i zr).buf = b) (hbi : ∀ b, (st.bufs b).isSome = true → ∃ i, i < r.length ∧ (r.getD i zr).buf = b)
    (hset : ∀ b s, st.bufs b = some s → ∀ x, s x = true → 0 ≤ x ∧ x < (r.length : Int)) : Fit st := by
  have hlen := hs.len
  refine ⟨by omega, fun c hcm => ?_, by omega, fun b v hv => by have := hn b v hv; omega, fun b hb => ?_, fun b hb => ?_, fun b s hb x hx => by rw [hl]; exact hset b s hb x hx⟩
  · obtain ⟨i, hi, rfl⟩ := List.getElem_of_mem hcm
    have hi' : i < r.length := by omega
    have h1 := hc i hi'
    have e : st.l.getD i zc = st.l[i] := by simp [hi]
    rw [e] at h1
    obtain ⟨a1, a2, a3, a4, a5⟩ := h1
    have hon := hs.on i hi'
    have hto := hs.to i
    have hcl : cnt r (r.getD i zr).on ≤ (r.getD i zr).on.length := List.length_filter_le _ _
    refine ⟨by rw [a1]; exact hs.buf i hi', by rw [a2]; omega, ?_, by omega, by omega, fun x hx => ?_⟩
    · rcases a3 with h | h
      · rw [h]; simp
      · rw [h]; omega
    · rcases a3 with h | h
      · rw [h] at hx; cases hx
      · rw [h] at hx; rw [hl]; exact toL_mem hx
  · obtain ⟨i, hi, h⟩ := hni b hb
    exact ⟨st.l[i]'(by omega), List.getElem_mem _, by have := (hc i hi).1; simp [show i < st.l.length by omega] at this; rw [this]; simpa using h⟩
  · obtain ⟨i, hi, h⟩ := hbi b hb
    exact ⟨st.l[i]'(by omega), List.getElem_mem _, by have := (hc i hi).1; simp [show i < st.l.length by omega] at this; rw [this]; simpa using h⟩
theorem mayN_le (r : List Rc) (b : Int) : mayN r b ≤ r.length := by
  unfold mayN
  refine Nat.le_trans (List.length_filter_le _ _) ?_
  simp
theorem Of_next_in {r : List Rc} {b : Int} (h : ((Of r).next b).isSome = true) : ∃ i, i < r.length ∧ (r.getD i zr).buf = b := by
  have h1 : mayN r b ≠ 0 := fun e => by
    have : (Of r).next b = none := by show (if _ then _ else _) = _; rw [if_pos e]
    rw [this] at h; cases h
  unfold mayN at h1
  obtain ⟨i, hi⟩ := List.exists_mem_of_length_pos (Nat.pos_of_ne_zero h1)
  obtain ⟨h2, h3⟩ := List.mem_filter.1 hi
  have h4 := (Bool.and_eq_true_iff.1 h3).1
  unfold openAt at h4
  exact ⟨i, List.mem_range.1 h2, by simpa using (Bool.and_eq_true_iff.1 h4).2⟩
theorem Of_bufs_in {r : List Rc} {b : Int} (h : ((Of r).bufs b).isSome = true) : ∃ i, i < r.length ∧ (r.getD i zr).buf = b := by
  by_cases ha : (List.range r.length).any (openAt r b) = true
  · obtain ⟨i, hi, h4⟩ := List.any_eq_true.1 ha
    unfold openAt at h4
    exact ⟨i, List.mem_range.1 hi, by simpa using (Bool.and_eq_true_iff.1 h4).2⟩
  · have : (Of r).bufs b = none := by show (if _ then _ else _) = _; rw [if_neg ha]
    rw [this] at h; cases h
theorem Of_set {r : List Rc} {b : Int} {s : Int → Bool} (h : (Of r).bufs b = some s) (x : Int) (hx : s x = true) : 0 ≤ x ∧ x < (r.length : Int) := by
  have := Of_bufs (r := r) (b := b) (x := x)
  rw [h] at this
  have h2 : s x = _ := this
  rw [hx] at h2
  have := (Bool.and_eq_true_iff.1 h2.symm).1
  simpa using this
theorem Of_next_le {r : List Rc} {b v : Int} (h : (Of r).next b = some v) : 0 ≤ v ∧ v ≤ (r.length : Int) := by
  have h1 : (if mayN r b = 0 then none else some ((mayN r b : Nat) : Int)) = some v := h
  by_cases e : mayN r b = 0
  · rw [if_pos e] at h1; cases h1
  · rw [if_neg e] at h1
    injection h1 with h1
    have := mayN_le r b
    omega
theorem Of_opn (r : List Rc) : 0 ≤ (Of r).opn ∧ (Of r).opn ≤ (r.length : Int) := by
  show 0 ≤ ((_ : Nat) : Int) ∧ ((_ : Nat) : Int) ≤ _
  have : ((List.range r.length).filter (fun i => !(r.getD i zr).done)).length ≤ (List.range r.length).length := List.length_filter_le _ _
  rw [List.length_range] at this
  omega
theorem fit_of {r : List Rc} (hs : Sm r) : Fit (Of r) := by
  have h0 := Of_opn r
  refine fit_shape hs _ (Of_len r) (fun i hi => ?_) ⟨by omega, h0.2⟩ (fun b v hv => by have := Of_next_le hv; omega) (fun b => Of_next_in) (fun b => Of_bufs_in) (fun b s hb => Of_set hb)
  rw [Of_at hi]
  unfold ofC
  refine ⟨rfl, rfl, ?_, by simp, by simp⟩
  cases (r.getD i zr).done <;> simp
theorem hits_le (st : St) (es : List Int) (b : Int) : hits st es b ≤ st.l.length := by
  unfold hits
  refine Nat.le_trans (List.length_filter_le _ _) ?_
  simp
theorem hits_in {st : St} {es : List Int} {b : Int} (h : hits st es b ≠ 0) : ∃ i, i < st.l.length ∧ (st.l.getD i zc).buf = b := by
  unfold hits at h
  obtain ⟨i, hi⟩ := List.exists_mem_of_length_pos (Nat.pos_of_ne_zero h)
  obtain ⟨h2, h3⟩ := List.mem_filter.1 hi
  exact ⟨i, List.mem_range.1 h2, by simpa using (Bool.and_eq_true_iff.1 h3).1⟩
theorem FF_next {st : St} {es : List Int} {b v : Int} {N : Int} (hN : ∀ b v, st.next b = some v → 0 ≤ v ∧ v ≤ N) (h0 : 0 ≤ N) (h : (FF st es).next b = some v) : 0 ≤ v ∧ v ≤ N + st.l.length := by
  have h1 : (if hits st es b = 0 then st.next b else some ((st.next b).getD 0 + (hits st es b : Int))) = some v := h
  have h2 := hits_le st es b
  by_cases e : hits st es b = 0
  · rw [if_pos e] at h1; have := hN b v h1; omega
  · rw [if_neg e] at h1
    injection h1 with h1
    cases hq : st.next b with
    | none => rw [hq] at h1; simp at h1; omega
    | some u => rw [hq] at h1; have := hN b u hq; simp at h1; omega
theorem FF_next_in {st : St} {es : List Int} {b : Int} (h : ((FF st es).next b).isSome = true) : (st.next b).isSome = true ∨ ∃ i, i < st.l.length ∧ (st.l.getD i zc).buf = b := by
  by_cases e : hits st es b = 0
  · have : (FF st es).next b = st.next b := by show (if _ then _ else _) = _; rw [if_pos e]
    rw [this] at h; exact .inl h
  · exact .inr (hits_in e)
theorem FF_len (st : St) (es : List Int) : (FF st es).l.length = st.l.length := by simp [FF]
theorem FF_at {st : St} {es : List Int} {i : Nat} (h : i < st.l.length) : (FF st es).l.getD i zc = ⟨(st.l.getD i zc).buf, (st.l.getD i zc).on, (st.l.getD i zc).left - (es.count (i : Int) : Int), (st.l.getD i zc).to, (st.l.getD i zc).done⟩ := by simp [FF, h]
theorem midR_next {r : List Rc} {b x v : Int} {o : List Int} (h : (midR r b o).next x = some v) : (Of r).next x = some v := by
  have h1 : upd (Of r).next b none x = some v := h
  unfold upd at h1
  by_cases e : x = b
  · rw [if_pos e] at h1; cases h1
  · rwa [if_neg e] at h1
theorem midR_bufs {r : List Rc} {b x : Int} {o : List Int} {s : Int → Bool} (h : (midR r b o).bufs x = some s) : ∃ s', (Of r).bufs x = some s' ∧ ∀ y, s y = true → s' y = true := by
  have h1 : (if x = b then (match (DDg b (Of r) o).bufs b with | some s => if (List.range (DDg b (Of r) o).l.length).any (fun i => s (i : Int)) then some s else none | none => none) else (DDg b (Of r) o).bufs x) = some s := h
  have hD : ∀ y, (DDg b (Of r) o).bufs y = if y = b then ((Of r).bufs b).map (fun s x => s x && !decide (x ∈ o)) else (Of r).bufs y := fun y => rfl
  rw [hD, hD] at h1
  by_cases e : x = b
  · subst e
    rw [if_pos rfl, if_pos rfl] at h1
    cases hq : (Of r).bufs x with
    | none => rw [hq] at h1; cases h1
    | some s' =>
      rw [hq] at h1
      simp only [Option.map_some] at h1
      split at h1
      · injection h1 with h1
        exact ⟨s', rfl, fun y hy => by rw [← h1] at hy; exact (Bool.and_eq_true_iff.1 hy).1⟩
      · cases h1
  · rw [if_neg e, if_neg e] at h1
    exact ⟨s, h1, fun y hy => hy⟩
theorem fitAll_of {r : List Rc} (hr : WfR r) (hs : Sm r) (b : Int) : FitAll (Of r) b (nextS (Of r) b) := by
  rw [next_of]
  have hout : ∀ x ∈ nextR r b, 0 ≤ x ∧ x < (r.length : Int) ∧ (rd r x).done = false := fun x hx => ⟨(nextR_range hx).1, (nextR_range hx).2, next_notdone hx⟩
  have hnd := nextR_nodup r b
  have hol : (nextR r b).length ≤ r.length := by unfold nextR castL; rw [List.length_map]; exact Nat.le_trans (List.length_filter_le _ _) (by simp)
  have hop := Of_opn r
  have hmid : midS ((nextR r b).foldl (doneOne b) (Of r)) b = midR r b (nextR r b) := by rw [done_closed b _ (Of r) (fun x hx => by rw [Of_len]; exact nextR_range hx)]; rfl
  rw [FitAll, hmid]
  have hpart : ∀ k, ((nextR r b).take k).Nodup ∧ ∀ x ∈ (nextR r b).take k, x ∈ nextR r b := fun k => ⟨hnd.sublist (List.take_sublist _ _), fun x hx => List.mem_of_mem_take hx⟩
  have hmidop : -(r.length : Int) ≤ (midR r b (nextR r b)).opn ∧ (midR r b (nextR r b)).opn ≤ (r.length : Int) := by
    show -(r.length : Int) ≤ (Of r).opn - ((nextR r b).length : Int) ∧ (Of r).opn - ((nextR r b).length : Int) ≤ (r.length : Int)
    omega
  have hmidbuf : ∀ i, i < r.length → ((midR r b (nextR r b)).l.getD i zc).buf = (r.getD i zr).buf := fun i hi => by rw [midR_at hi]
  refine ⟨fun k hk => ?_, fun k hk => ?_, fun k hk j hj => ?_⟩
  · rw [done_closed b _ (Of r) (fun x hx => by rw [Of_len]; exact nextR_range (List.mem_of_mem_take hx))]
    refine fit_shape hs _ (by simp [DDg, Of]) (fun i hi => ?_) ?_ (fun c v hv => by have := Of_next_le (b := c) hv; omega) (fun c => Of_next_in) (fun c hc => ?_) (fun c s hc x hx => ?_)
    · have : (DDg b (Of r) ((nextR r b).take k)).l.getD i zc = ⟨((Of r).l.getD i zc).buf, ((Of r).l.getD i zc).on, ((Of r).l.getD i zc).left, ((Of r).l.getD i zc).to, ((Of r).l.getD i zc).done || decide ((i : Int) ∈ (nextR r b).take k)⟩ := by
        have : i < (Of r).l.length := by rw [Of_len]; exact hi
        simp [DDg, this]
      rw [this, Of_at hi]
      unfold ofC
      refine ⟨rfl, rfl, ?_, by simp, by simp⟩
      cases (r.getD i zr).done <;> simp
    · have : ((nextR r b).take k).length ≤ (nextR r b).length := by rw [List.length_take]; omega
      show -(r.length : Int) ≤ (Of r).opn - _ ∧ (Of r).opn - _ ≤ (r.length : Int)
      omega
    · have hc' : (upd (Of r).bufs b (((Of r).bufs b).map (fun s x => s x && !decide (x ∈ (nextR r b).take k))) c).isSome = true := hc
      unfold upd at hc'
      by_cases e : c = b
      · rw [if_pos e, Option.isSome_map] at hc'
        rw [e]; exact Of_bufs_in hc'
      · rw [if_neg e] at hc'; exact Of_bufs_in hc'
    · have hc' : upd (Of r).bufs b (((Of r).bufs b).map (fun s x => s x && !decide (x ∈ (nextR r b).take k))) c = some s := hc
      unfold upd at hc'
      by_cases e : c = b
      · rw [if_pos e] at hc'
        cases hq : (Of r).bufs b with
        | none => rw [hq] at hc'; cases hc'
        | some s' =>
          rw [hq] at hc'
          injection hc' with hc'
          rw [← hc'] at hx
          exact Of_set hq x (Bool.and_eq_true_iff.1 hx).1
      · rw [if_neg e] at hc'; exact Of_set hc' x hx
  · obtain ⟨h1, hle⟩ := part_closed hr b hout (hpart k).1 (hpart k).2
    rw [h1]
    have hFl : (FF (midR r b (nextR r b)) (esR r ((nextR r b).take k))).l.length = r.length := by rw [FF_len, midR_len]
    refine fit_shape hs _ (by rw [clr_len, hFl]) (fun i hi => ?_) hmidop (fun c v hv => ?_) (fun c hc => ?_) (fun c hc => ?_) (fun c s hc x hx => ?_)
    · rw [clr_at (by rw [hFl]; exact hi), FF_at (by rw [midR_len]; exact hi)]
      have := hle i hi
      rw [midR_at hi] at this ⊢
      refine ⟨rfl, rfl, ?_, ?_, ?_⟩
      · simp only
        split
        · exact .inl rfl
        · cases (r.getD i zr).done <;> simp
      · simp only at this ⊢; omega
      · simp only at this ⊢; omega
    · have := FF_next (N := (r.length : Int)) (fun b v hv => Of_next_le (midR_next hv)) (by omega) hv
      rw [midR_len] at this
      omega
    · rcases FF_next_in hc with h | ⟨i, hi, h⟩
      · obtain ⟨v, hv⟩ := Option.isSome_iff_exists.1 h
        exact Of_next_in (by rw [midR_next hv]; rfl)
      · rw [midR_len] at hi
        exact ⟨i, hi, by rw [← hmidbuf i hi]; exact h⟩
    · obtain ⟨s, hs2⟩ := Option.isSome_iff_exists.1 hc
      obtain ⟨s', h2, _⟩ := midR_bufs (show (midR r b (nextR r b)).bufs c = some s from hs2)
      exact Of_bufs_in (by rw [h2]; rfl)
    · obtain ⟨s', h2, h3⟩ := midR_bufs (show (midR r b (nextR r b)).bufs c = some s from hc)
      exact Of_set h2 x (h3 x hx)
  · obtain ⟨h1, hle⟩ := part_closed hr b hout (hpart k).1 (hpart k).2
    obtain ⟨h1', hle'⟩ := part_closed hr b hout (hpart (k + 1)).1 (hpart (k + 1)).2
    rw [h1] at hj ⊢
    have hFl : (FF (midR r b (nextR r b)) (esR r ((nextR r b).take k))).l.length = r.length := by rw [FF_len, midR_len]
    have hmk := List.getElem_mem hk
    have hr1 := hout _ hmk
    have hTK := List.take_succ_eq_append_getElem hk
    have hnk : (nextR r b)[k] ∉ (nextR r b).take k := fun h => by
      have := (hpart (k + 1)).1
      rw [hTK] at this
      exact (List.nodup_append.1 this).2.2 _ h _ (by simp) rfl
    have hto : (at_ (clr ((nextR r b).take k) (FF (midR r b (nextR r b)) (esR r ((nextR r b).take k)))) (nextR r b)[k]).to = toL r (nextR r b)[k].toNat := by
      unfold at_
      rw [clr_at (by rw [hFl]; omega), FF_at (by rw [midR_len]; omega), midR_at (by omega), Int.toNat_of_nonneg hr1.1, if_neg hnk]
      have := hr1.2.2
      unfold rd at this
      show (if (r.getD (nextR r b)[k].toNat zr).done = true then [] else _) = _
      rw [this]; rfl
    rw [hto] at hj ⊢
    have hes : esR r ((nextR r b).take (k + 1)) = esR r ((nextR r b).take k) ++ toL r (nextR r b)[k].toNat := by
      unfold esR
      rw [hTK, List.flatMap_append, List.flatMap_cons, List.flatMap_nil, List.append_nil]
    generalize hT : (toL r (nextR r b)[k].toNat).take j = T
    have hTc : ∀ i : Nat, T.count (i : Int) ≤ (toL r (nextR r b)[k].toNat).count (i : Int) := fun i => by rw [← hT]; exact (List.take_sublist _ _).count_le _
    have hTm : ∀ x ∈ T, 0 ≤ x ∧ x < (r.length : Int) := fun x hx => by rw [← hT] at hx; exact toL_mem (List.mem_of_mem_take hx)
    generalize hK : clr ((nextR r b).take k) (FF (midR r b (nextR r b)) (esR r ((nextR r b).take k))) = K
    have hKl : K.l.length = r.length := by rw [← hK, clr_len, hFl]
    have hKat : ∀ i, i < r.length → K.l.getD i zc = ⟨(r.getD i zr).buf, (r.getD i zr).on, (cnt r (r.getD i zr).on : Int) - ((esR r ((nextR r b).take k)).count (i : Int) : Int), if (i : Int) ∈ (nextR r b).take k then [] else if (r.getD i zr).done then [] else toL r i, (r.getD i zr).done || decide ((i : Int) ∈ nextR r b)⟩ := fun i hi => by
      rw [← hK, clr_at (by rw [hFl]; exact hi), FF_at (by rw [midR_len]; exact hi), midR_at hi]
    have hTl : ∀ i, i < r.length → (T.count (i : Int) : Int) ≤ (K.l.getD i zc).left := fun i hi => by
      rw [hKat i hi]
      have h2 := hle' i hi
      rw [hes, List.count_append, midR_at hi] at h2
      have h3 := hTc i
      simp only at h2 ⊢
      omega
    rw [free_closed T K (fun x hx => by rw [hKl]; exact hTm x hx) (fun i hi => by rw [hKl] at hi; exact hTl i hi)]
    have hKn : ∀ b v, K.next b = some v → 0 ≤ v ∧ v ≤ 2 * (r.length : Int) := fun c v hv => by
      rw [← hK] at hv
      have := FF_next (N := (r.length : Int)) (fun b v hv => Of_next_le (midR_next hv)) (by omega) (show (FF (midR r b (nextR r b)) (esR r ((nextR r b).take k))).next c = some v from hv)
      rw [midR_len] at this
      omega
    refine fit_shape hs _ (by rw [FF_len, hKl]) (fun i hi => ?_) ?_ (fun c v hv => ?_) (fun c hc => ?_) (fun c hc => ?_) (fun c s hc x hx => ?_)
    · have h2 := hTl i hi
      have h3 := hle i hi
      rw [FF_at (by rw [hKl]; exact hi), hKat i hi]
      rw [hKat i hi] at h2
      rw [midR_at hi] at h3
      simp only at h2 h3 ⊢
      refine ⟨trivial, trivial, ?_, by omega, by omega⟩
      split
      · exact .inl rfl
      · cases (r.getD i zr).done <;> simp
    · show -(r.length : Int) ≤ K.opn ∧ K.opn ≤ (r.length : Int)
      rw [← hK]; exact hmidop
    · have := FF_next hKn (by omega) hv
      rw [hKl] at this
      omega
    · rcases FF_next_in hc with h | ⟨i, hi, h⟩
      · rw [← hK] at h
        rcases FF_next_in (show ((FF (midR r b (nextR r b)) (esR r ((nextR r b).take k))).next c).isSome = true from h) with h | ⟨i, hi, h⟩
        · obtain ⟨v, hv⟩ := Option.isSome_iff_exists.1 h
          exact Of_next_in (by rw [midR_next hv]; rfl)
        · rw [midR_len] at hi
          exact ⟨i, hi, by rw [← hmidbuf i hi]; exact h⟩
      · rw [hKl] at hi
        exact ⟨i, hi, by rw [hKat i hi] at h; exact h⟩
    · obtain ⟨s, hs2⟩ := Option.isSome_iff_exists.1 hc
      have : (midR r b (nextR r b)).bufs c = some s := by rw [← hK] at hs2; exact hs2
      obtain ⟨s', h2, _⟩ := midR_bufs this
      exact Of_bufs_in (by rw [h2]; rfl)
    · have : (midR r b (nextR r b)).bufs c = some s := by rw [← hK] at hc; exact hc
      obtain ⟨s', h2, h3⟩ := midR_bufs this
      exact Of_set h2 x (h3 x hx)
theorem wf_add {r : List Rc} (hr : WfR r) (buf : Int) {on : List Int} (hon : ∀ x ∈ on, 0 ≤ x ∧ x < (r.length : Int)) : WfR (r ++ [⟨buf, on, false⟩]) := by
  refine ⟨fun i hi x hx => ?_, fun i hi hd x hx => ?_⟩
  · rw [List.length_append, List.length_singleton] at hi
    by_cases h : i < r.length
    · rw [getD_snoc h] at hx; exact hr.on i h x hx
    · obtain rfl : i = r.length := by omega
      rw [getD_last] at hx; exact hon x hx
  · rw [List.length_append, List.length_singleton] at hi
    by_cases h : i < r.length
    · rw [getD_snoc h] at hx hd
      rw [rd_snoc (hr.lt h x hx)]
      exact hr.closed i h hd x hx
    · obtain rfl : i = r.length := by omega
      rw [getD_last] at hd; cases hd
theorem wf_written {r : List Rc} (hr : WfR r) (b : Int) : WfR (writtenR r b) := by
  unfold writtenR
  refine ⟨fun i hi x hx => ?_, fun i hi hd x hx => ?_⟩
  · rw [setD_len] at hi
    rw [setD_at hi] at hx
    exact hr.on i hi x hx
  · rw [setD_len] at hi
    rw [setD_at hi] at hx hd
    have hxr := hr.lt hi x hx
    unfold rd
    rw [setD_at (by omega)]
    simp only [Bool.or_eq_true] at hd ⊢
    rcases hd with hd | hd
    · exact .inl (hr.closed i hi hd x hx)
    · have h2 := (mem_nextR.1 (by simpa using hd)).2.2
      unfold mayAt cnt at h2
      have h3 : ((r.getD i zr).on.filter (fun k => !(rd r k).done)) = [] := List.length_eq_zero_iff.1 (by simpa using h2)
      have := List.filter_eq_nil_iff.1 h3 x hx
      exact .inl (by simpa [rd] using this)
theorem sm_written {r : List Rc} (hs : Sm r) (b : Int) : Sm (writtenR r b) := by
  unfold writtenR
  refine ⟨by rw [setD_len]; exact hs.len, fun i hi => ?_, fun k => by rw [toL_setD]; exact hs.to k, fun i hi => ?_⟩
  · rw [setD_len] at hi; rw [setD_at hi]; exact hs.on i hi
  · rw [setD_len] at hi; rw [setD_at hi]; exact hs.buf i hi
/-- how much there is in rows -/
def tot (r : List Rc) : Nat := (r.map (fun c => c.on.length)).sum
theorem tot_snoc (r : List Rc) (c : Rc) : tot (r ++ [c]) = tot r + c.on.length := by simp [tot]
theorem toL_len_le (r : List Rc) (k : Nat) : (toL r k).length ≤ tot r := by
  unfold toL tot
  have : ∀ N, N ≤ r.length → ((List.range N).flatMap (fun id => List.replicate ((r.getD id zr).on.count (k : Int)) (id : Int))).length ≤ ((r.take N).map (fun c => c.on.length)).sum := by
    intro N
    induction N with
    | zero => intro _; simp
    | succ N ih =>
      intro h
      rw [List.range_succ, List.flatMap_append, List.length_append, List.flatMap_cons, List.flatMap_nil, List.append_nil, List.length_replicate, List.take_succ_eq_append_getElem (by omega), List.map_append, List.sum_append]
      have h1 := ih (by omega)
      have h2 : (r.getD N zr).on.count (k : Int) ≤ (r[N]'(by omega)).on.length := by
        have : r.getD N zr = r[N]'(by omega) := by simp [show N < r.length by omega]
        rw [this]; exact List.count_le_length
      simp only [List.map_cons, List.map_nil, List.sum_cons, List.sum_nil]
      omega
  have h := this r.length (Nat.le_refl _)
  rwa [List.take_length] at h
theorem on_le_tot {r : List Rc} {i : Nat} (hi : i < r.length) : (r.getD i zr).on.length ≤ tot r := by
  unfold tot
  have e : r.getD i zr = r[i] := by simp [hi]
  rw [e]
  induction r generalizing i with
  | nil => simp at hi
  | cons c r ih =>
    cases i with
    | zero => simp
    | succ i => simp only [List.map_cons, List.sum_cons, List.getElem_cons_succ]; have := ih (i := i) (by simpa using hi) (by simp at hi; simp [hi]); omega
theorem sm_of_tot {r : List Rc} (h1 : r.length < 274877906944) (h2 : tot r < 274877906944) (h3 : ∀ i, i < r.length → I64 (r.getD i zr).buf) : Sm r :=
  ⟨h1, fun i hi => by have := on_le_tot hi; omega, fun k => by have := toL_len_le r k; omega, h3⟩
theorem tot_setD (r : List Rc) (o : List Int) : tot (setD r o) = tot r := by
  unfold tot setD
  rw [List.map_map]
  congr 1
  refine List.ext_getElem (by simp) fun i h1 h2 => ?_
  have : i < r.length := by simpa using h2
  simp [this]
end Go.Proofs.Ytlpdhmkcbdhelaa
