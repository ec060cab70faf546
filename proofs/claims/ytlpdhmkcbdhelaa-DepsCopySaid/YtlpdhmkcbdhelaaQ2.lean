/-
  What is written, of a graph as a function of its rows: plain words.
-/
import Derived.Test.YtlpdhmkcbdhelaaQ
namespace Go.Proofs.Ytlpdhmkcbdhelaa
set_option linter.unusedVariables false
set_option linter.unusedSimpArgs false
open Go.RowKit

def castL (l : List Nat) : List Int := l.map (fun i : Nat => (i : Int))
def nextR (r : List Rc) (b : Int) : List Int := castL ((List.range r.length).filter (fun i => openAt r b i && mayAt r i))
def blockedR (r : List Rc) (b : Int) : List Int := castL ((List.range r.length).filter (fun i => openAt r b i && !mayAt r i))
def setD (r : List Rc) (o : List Int) : List Rc := (List.range r.length).map (fun i => ⟨(r.getD i zr).buf, (r.getD i zr).on, (r.getD i zr).done || decide ((i : Int) ∈ o)⟩)
def writtenR (r : List Rc) (b : Int) : List Rc := setD r (nextR r b)
theorem setD_len (r : List Rc) (o : List Int) : (setD r o).length = r.length := by simp [setD]
theorem setD_at {r : List Rc} {o : List Int} {i : Nat} (h : i < r.length) : (setD r o).getD i zr = ⟨(r.getD i zr).buf, (r.getD i zr).on, (r.getD i zr).done || decide ((i : Int) ∈ o)⟩ := by simp [setD, h]
theorem Of_bufs {r : List Rc} {b : Int} {x : Int} : setOr ((Of r).bufs b) x = (decide (0 ≤ x ∧ x < (r.length : Int)) && openAt r b x.toNat) := by
  show setOr (if (List.range r.length).any (openAt r b) = true then _ else _) x = _
  by_cases ha : (List.range r.length).any (openAt r b) = true
  · rw [if_pos ha]; rfl
  · rw [if_neg ha]
    have ha' : (List.range r.length).any (openAt r b) = false := by simpa using ha
    by_cases hin : 0 ≤ x ∧ x < (r.length : Int)
    · have := List.any_eq_false.1 ha' x.toNat (List.mem_range.2 (by omega))
      have h2 : openAt r b x.toNat = false := by simpa using this
      rw [h2, Bool.and_false]; rfl
    · rw [decide_eq_false_iff_not.2 hin, Bool.false_and]; rfl
theorem someS_of (r : List Rc) (b : Int) (may : Bool) : someS (Of r) b may = castL ((List.range r.length).filter (fun i => openAt r b i && (mayAt r i == may))) := by
  unfold someS castL
  rw [Of_len, List.filter_map]
  congr 1
  refine List.filter_congr fun i hi => ?_
  have hi := List.mem_range.1 hi
  have h1 : (match (Of r).bufs b with | some s => s (i : Int) | none => false) = openAt r b i := by
    have := Of_bufs (r := r) (b := b) (x := (i : Int))
    unfold setOr at this
    rw [Int.toNat_natCast, decide_eq_true (show 0 ≤ (i : Int) ∧ (i : Int) < (r.length : Int) from ⟨by omega, by omega⟩), Bool.true_and] at this
    exact this
  have h2 : (at_ (Of r) (i : Int)).left = (cnt r (r.getD i zr).on : Int) := by
    unfold at_
    rw [Int.toNat_natCast, Of_at hi]; rfl
  show ((match (Of r).bufs b with | some s => s (i : Int) | none => false) && (decide ((at_ (Of r) (i : Int)).left = 0) == may)) = _
  rw [h1, h2]
  unfold mayAt
  congr 2
  rw [decide_eq_decide]
  omega
theorem next_of (r : List Rc) (b : Int) : nextS (Of r) b = nextR r b := by
  unfold nextS nextR
  rw [someS_of]
  congr 2
  funext i
  cases mayAt r i <;> simp
theorem blocked_of (r : List Rc) (b : Int) : blockedS (Of r) b = blockedR r b := by
  unfold blockedS blockedR
  rw [someS_of]
  congr 2
  funext i
  cases mayAt r i <;> simp
theorem mem_castL {l : List Nat} {i : Nat} : (i : Int) ∈ castL l ↔ i ∈ l := by
  unfold castL
  rw [List.mem_map]
  constructor
  · rintro ⟨j, hj, e⟩; have : j = i := by omega
    exact this ▸ hj
  · exact fun h => ⟨i, h, rfl⟩
theorem nodup_castL {l : List Nat} (h : l.Nodup) : (castL l).Nodup := by
  unfold castL
  exact List.pairwise_map.2 (h.imp (fun {a b} h e => h (by omega)))
theorem mem_nextR {r : List Rc} {b : Int} {i : Nat} : (i : Int) ∈ nextR r b ↔ i < r.length ∧ openAt r b i = true ∧ mayAt r i = true := by
  unfold nextR
  rw [mem_castL, List.mem_filter, List.mem_range, Bool.and_eq_true]
theorem nextR_nodup (r : List Rc) (b : Int) : (nextR r b).Nodup := nodup_castL (List.nodup_range.filter _)
theorem nextR_range {r : List Rc} {b : Int} {x : Int} (h : x ∈ nextR r b) : 0 ≤ x ∧ x < (r.length : Int) := by
  unfold nextR castL at h
  obtain ⟨i, hi, rfl⟩ := List.mem_map.1 h
  have := List.mem_range.1 (List.mem_filter.1 hi).1
  omega

/-! the first loop -/
def DDg (b : Int) (st : St) (o : List Int) : St where
  l := (List.range st.l.length).map (fun i => ⟨(st.l.getD i zc).buf, (st.l.getD i zc).on, (st.l.getD i zc).left, (st.l.getD i zc).to, (st.l.getD i zc).done || decide ((i : Int) ∈ o)⟩)
  bufs := upd st.bufs b ((st.bufs b).map (fun s x => s x && !decide (x ∈ o)))
  opn := st.opn - o.length
  next := st.next
theorem st_ext {a b : St} (h1 : a.l = b.l) (h2 : ∀ x, a.bufs x = b.bufs x) (h3 : a.opn = b.opn) (h4 : ∀ x, a.next x = b.next x) : a = b := by
  obtain ⟨al, ab, ao, an⟩ := a
  obtain ⟨bl, bb, bo, bn⟩ := b
  simp only at h1 h2 h3 h4
  rw [h1, h3, funext h2, funext h4]
theorem done_closed (b : Int) (o : List Int) : ∀ st : St, (∀ x ∈ o, 0 ≤ x ∧ x < (st.l.length : Int)) → o.foldl (doneOne b) st = DDg b st o := by
  induction o with
  | nil =>
    intro st _
    refine st_ext (list_ext_getD (by simp [DDg]) fun i hi => ?_) (fun x => ?_) (by simp [DDg]) (fun x => rfl)
    · have hi' : i < st.l.length := hi
      simp [DDg, hi']
    · show st.bufs x = upd _ _ _ x
      unfold upd
      by_cases e : x = b
      · rw [if_pos e, e]; cases st.bufs b <;> simp
      · rw [if_neg e]
  | cons k o ih =>
    intro st ho
    have hk := ho k List.mem_cons_self
    have hl : (doneOne b st k).l.length = st.l.length := by simp [doneOne]
    rw [List.foldl_cons, ih _ (fun x hx => by rw [hl]; exact ho x (List.mem_cons_of_mem _ hx))]
    refine st_ext (list_ext_getD (by simp [DDg, hl]) fun i hi => ?_) (fun x => ?_) ?_ (fun x => rfl)
    · have hi' : i < st.l.length := by simpa [DDg, hl] using hi
      have h1 : (DDg b (doneOne b st k) o).l.getD i zc = ⟨((doneOne b st k).l.getD i zc).buf, ((doneOne b st k).l.getD i zc).on, ((doneOne b st k).l.getD i zc).left, ((doneOne b st k).l.getD i zc).to, ((doneOne b st k).l.getD i zc).done || decide ((i : Int) ∈ o)⟩ := by simp [DDg, hl, hi']
      have h2 : (DDg b st (k :: o)).l.getD i zc = ⟨(st.l.getD i zc).buf, (st.l.getD i zc).on, (st.l.getD i zc).left, (st.l.getD i zc).to, (st.l.getD i zc).done || decide ((i : Int) ∈ k :: o)⟩ := by simp [DDg, hi']
      have h3 : (doneOne b st k).l.getD i zc = if k.toNat = i then ⟨(st.l.getD i zc).buf, (st.l.getD i zc).on, (st.l.getD i zc).left, (st.l.getD i zc).to, true⟩ else st.l.getD i zc := by
        simp [doneOne, hi', List.getElem_modify]
      rw [h1, h2, h3]
      by_cases e : k.toNat = i
      · rw [if_pos e]
        have : (i : Int) = k := by omega
        simp [this]
      · rw [if_neg e]
        have : ¬ ((i : Int) = k) := by omega
        simp [this]
    · show upd _ _ _ x = upd _ _ _ x
      unfold upd
      by_cases e : x = b
      · rw [if_pos e, if_pos e]
        show ((if b = b then _ else _ : Option (Int → Bool))).map _ = _
        rw [if_pos rfl]
        cases st.bufs b with
        | none => rfl
        | some s =>
          simp only [Option.map_some]
          congr 1
          funext y
          by_cases ey : y = k
          · simp [ey]
          · simp [ey]
      · rw [if_neg e, if_neg e]
        show (if x = b then _ else _ : Option (Int → Bool)) = _
        rw [if_neg e]
    · show st.opn - 1 - (o.length : Int) = st.opn - ((k :: o).length : Int)
      simp; omega

/-! the second loop -/
theorem filter_one {N k : Nat} {p q : Nat → Bool} (hk : k < N) (hp : p k = true) (hq : q k = false) (he : ∀ i, i < N → i ≠ k → p i = q i) : ((List.range N).filter p).length = ((List.range N).filter q).length + 1 := by
  induction N with
  | zero => omega
  | succ N ih =>
    rw [List.range_succ, List.filter_append, List.filter_append, List.length_append, List.length_append]
    by_cases e : k = N
    · subst e
      have : (List.range k).filter p = (List.range k).filter q := List.filter_congr fun i hi => by have := List.mem_range.1 hi; exact he i (by omega) (by omega)
      rw [this]
      simp [List.filter_cons, hp, hq]
    · rw [ih (by omega) (fun i hi hne => he i (by omega) hne)]
      have : p N = q N := he N (by omega) (fun h => e h.symm)
      simp [List.filter_cons, this]
      omega
def hits (st : St) (es : List Int) (b : Int) : Nat := ((List.range st.l.length).filter (fun i => decide ((st.l.getD i zc).buf = b) && (decide (0 < (st.l.getD i zc).left) && decide ((st.l.getD i zc).left = (es.count (i : Int) : Int))))).length
def FF (st : St) (es : List Int) : St where
  l := (List.range st.l.length).map (fun i => ⟨(st.l.getD i zc).buf, (st.l.getD i zc).on, (st.l.getD i zc).left - (es.count (i : Int) : Int), (st.l.getD i zc).to, (st.l.getD i zc).done⟩)
  bufs := st.bufs
  opn := st.opn
  next := fun b => if hits st es b = 0 then st.next b else some ((st.next b).getD 0 + (hits st es b : Int))
theorem freeOne_at {st : St} {k : Int} {i : Nat} (hi : i < st.l.length) : (freeOne st k).l.getD i zc = if k.toNat = i then ⟨(st.l.getD i zc).buf, (st.l.getD i zc).on, (st.l.getD i zc).left - 1, (st.l.getD i zc).to, (st.l.getD i zc).done⟩ else st.l.getD i zc := by
  simp [freeOne, hi, List.getElem_modify]
theorem hits_cons {st : St} {k : Nat} {es : List Int} (hk : k < st.l.length) (hle : ∀ i, i < st.l.length → (((k : Int) :: es).count (i : Int) : Int) ≤ (st.l.getD i zc).left) (b : Int) :
    hits st ((k : Int) :: es) b = hits (freeOne st (k : Int)) es b + if (st.l.getD k zc).left = 1 ∧ (st.l.getD k zc).buf = b then 1 else 0 := by
  have hl : (freeOne st (k : Int)).l.length = st.l.length := by simp [freeOne]
  have hck : (((k : Int) :: es).count (k : Int) : Int) = es.count (k : Int) + 1 := by rw [List.count_cons_self]; rfl
  have hother : ∀ i, i ≠ k → ((k : Int) :: es).count (i : Int) = es.count (i : Int) := fun i hi => by rw [List.count_cons, if_neg (by simp; omega), Nat.add_zero]
  have hlk := hle k hk
  rw [hck] at hlk
  have hfk := freeOne_at (k := (k : Int)) hk
  rw [if_pos (by simp)] at hfk
  have hne : ∀ i, i < st.l.length → i ≠ k → (decide ((st.l.getD i zc).buf = b) && (decide (0 < (st.l.getD i zc).left) && decide ((st.l.getD i zc).left = (((k : Int) :: es).count (i : Int) : Int)))) =
      (decide (((freeOne st (k : Int)).l.getD i zc).buf = b) && (decide (0 < ((freeOne st (k : Int)).l.getD i zc).left) && decide (((freeOne st (k : Int)).l.getD i zc).left = (es.count (i : Int) : Int)))) := fun i hi hik => by
    rw [freeOne_at hi, if_neg (by simp; omega), hother i hik]
  unfold hits
  rw [hl]
  by_cases h1 : (st.l.getD k zc).left = 1 ∧ (st.l.getD k zc).buf = b
  · rw [if_pos h1]
    have hz : es.count (k : Int) = 0 := by rw [h1.1] at hlk; omega
    refine filter_one hk ?_ ?_ hne
    · rw [hck, hz, h1.1, h1.2]; simp
    · rw [hfk, h1.1]; simp
  · rw [if_neg h1, Nat.add_zero]
    congr 1
    refine List.filter_congr fun i hi => ?_
    have hi := List.mem_range.1 hi
    by_cases e : i = k
    · subst e
      rw [hfk, hck]
      by_cases hb : (st.l.getD i zc).buf = b
      · have hl1 : (st.l.getD i zc).left ≠ 1 := fun h => h1 ⟨h, hb⟩
        have e1 : decide (0 < (st.l.getD i zc).left) = decide (0 < (st.l.getD i zc).left - 1) := by rw [decide_eq_decide]; omega
        have e2 : decide ((st.l.getD i zc).left = ((es.count (i : Int) : Nat) : Int) + 1) = decide ((st.l.getD i zc).left - 1 = ((es.count (i : Int) : Nat) : Int)) := by rw [decide_eq_decide]; omega
        rw [e1, e2]
      · have hb' : decide ((st.l.getD i zc).buf = b) = false := decide_eq_false hb
        simp only [hb', Bool.false_and]
    · exact hne i hi e
theorem free_closed (es : List Int) : ∀ st : St, (∀ x ∈ es, 0 ≤ x ∧ x < (st.l.length : Int)) → (∀ i, i < st.l.length → (es.count (i : Int) : Int) ≤ (st.l.getD i zc).left) → es.foldl freeOne st = FF st es := by
  induction es with
  | nil =>
    intro st _ _
    refine st_ext (list_ext_getD (by simp [FF]) fun i hi => ?_) (fun x => rfl) rfl (fun x => ?_)
    · have hi' : i < st.l.length := hi
      simp [FF, hi']
    · show st.next x = if hits st [] x = 0 then _ else _
      rw [if_pos]
      unfold hits
      rw [List.length_eq_zero_iff, List.filter_eq_nil_iff]
      intro i _ h
      simp at h
      omega
  | cons k es ih =>
    intro st hr hle
    have hk := hr k List.mem_cons_self
    obtain ⟨k, rfl⟩ := Int.eq_ofNat_of_zero_le hk.1
    have hk' : k < st.l.length := by omega
    have hl : (freeOne st (k : Int)).l.length = st.l.length := by simp [freeOne]
    have hle' : ∀ i, i < (freeOne st (k : Int)).l.length → (es.count (i : Int) : Int) ≤ ((freeOne st (k : Int)).l.getD i zc).left := fun i hi => by
      rw [hl] at hi
      have := hle i hi
      rw [freeOne_at hi, List.count_cons] at *
      by_cases e : k = i
      · subst e
        rw [if_pos (by simp)] at *
        show _ ≤ (st.l.getD k zc).left - 1
        omega
      · rw [if_neg (by simp; omega)]
        omega
    rw [List.foldl_cons, ih _ (fun x hx => by rw [hl]; exact hr x (List.mem_cons_of_mem _ hx)) hle']
    refine st_ext (list_ext_getD (by simp [FF, hl]) fun i hi => ?_) (fun x => rfl) rfl (fun b => ?_)
    · have hi' : i < st.l.length := by simpa [FF, hl] using hi
      have h1 : (FF (freeOne st (k : Int)) es).l.getD i zc = ⟨((freeOne st (k : Int)).l.getD i zc).buf, ((freeOne st (k : Int)).l.getD i zc).on, ((freeOne st (k : Int)).l.getD i zc).left - (es.count (i : Int) : Int), ((freeOne st (k : Int)).l.getD i zc).to, ((freeOne st (k : Int)).l.getD i zc).done⟩ := by simp [FF, hl, hi']
      have h2 : (FF st ((k : Int) :: es)).l.getD i zc = ⟨(st.l.getD i zc).buf, (st.l.getD i zc).on, (st.l.getD i zc).left - (((k : Int) :: es).count (i : Int) : Int), (st.l.getD i zc).to, (st.l.getD i zc).done⟩ := by simp [FF, hi']
      rw [h1, h2, freeOne_at hi', List.count_cons]
      by_cases e : k = i
      · subst e
        rw [if_pos (by simp), if_pos (by simp)]
        congr 1
        simp; omega
      · rw [if_neg (by simp; omega), if_neg (by simp; omega), Nat.add_zero]
    · show (if hits (freeOne st (k : Int)) es b = 0 then (freeOne st (k : Int)).next b else some (((freeOne st (k : Int)).next b).getD 0 + (hits (freeOne st (k : Int)) es b : Int))) = (if hits st ((k : Int) :: es) b = 0 then st.next b else some ((st.next b).getD 0 + (hits st ((k : Int) :: es) b : Int)))
      have hat : at_ st (k : Int) = st.l.getD k zc := by unfold at_; rw [Int.toNat_natCast]
      have hnx : (freeOne st (k : Int)).next b = if (st.l.getD k zc).left = 1 ∧ (st.l.getD k zc).buf = b then some ((st.next b).getD 0 + 1) else st.next b := by
        show (if (at_ st (k : Int)).left - 1 = 0 then upd st.next (at_ st (k : Int)).buf (some ((st.next (at_ st (k : Int)).buf).getD 0 + 1)) else st.next) b = _
        rw [hat]
        by_cases h1 : (st.l.getD k zc).left = 1
        · rw [if_pos (by omega)]
          unfold upd
          by_cases h2 : (st.l.getD k zc).buf = b
          · rw [if_pos h2.symm, if_pos ⟨h1, h2⟩, h2]
          · rw [if_neg (fun h => h2 h.symm), if_neg (fun h => h2 h.2)]
        · rw [if_neg (by omega), if_neg (fun h => h1 h.1)]
      rw [hits_cons hk' hle, hnx]
      by_cases h1 : (st.l.getD k zc).left = 1 ∧ (st.l.getD k zc).buf = b
      · rw [if_pos h1, if_pos h1, if_neg (show ¬ hits (freeOne st (k : Int)) es b + 1 = 0 by omega)]
        by_cases h0 : hits (freeOne st (k : Int)) es b = 0
        · rw [if_pos h0, h0]; simp
        · rw [if_neg h0]
          simp only [Option.getD_some]
          congr 1
          omega
      · rw [if_neg h1, if_neg h1, Nat.add_zero]
end Go.Proofs.Ytlpdhmkcbdhelaa
