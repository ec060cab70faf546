/-
  What lies in memory while Stuck goes over a table. No condition.
-/
import Derived.Test.YtcmiboipgngjaaaT
import Derived.Test.YtcmiboipgngjaaaCy
namespace Go.Proofs.Ytcmiboipgngjaaa
set_option linter.unusedVariables false
set_option linter.unusedSimpArgs false
open Go.RowKit Go.Maps

def objM (bt : Nat) (om : Obj) : (Int → Option Value) → Atom := fun φ =>
  { b := some bt
    Q := fun W => W.heap[bt]? = some om ∧ ∃ s, OwnV Try.prog 3 W bt φ s
    loc := fun h ⟨hq, s, hs⟩ => ⟨(h bt rfl).trans hq, s, hs.same (h bt rfl)⟩
    lt := fun ⟨_, s, hq⟩ k hk => by cases hk; exact hq.lt }
theorem objM_like (bt : Nat) (om : Obj) : MapLike bt (objM bt om) := ⟨fun _ => rfl, fun _ _ h => h.2⟩
def msr (H R : List Lk) : Nat := H.length + 2 * R.length
structure StI (H R Hc Rc : List Lk) : Prop where
  ok : Ok Hc Rc
  closed : ∀ T, Closed H R T ↔ Closed Hc Rc T
  cnt : Hc.length + Rc.length ≤ H.length + R.length
theorem got_cnt {H R : List Lk} (h : Ok H R) (th k : Int) : (relH H R th k).length + (relR H R th k).length ≤ H.length + R.length := by
  have e := len_filter_not (fun x : Lk => (gotP H R th k).any (fun y => y.th == x.th)) R
  have h3 : (gotP H R th k).length ≤ (R.filter (fun x => (gotP H R th k).any (fun y => y.th == x.th))).length := by
    have h1 := nd_onT h.nd k
    rw [← got_rest H R th k, List.map_append, List.nodup_append] at h1
    have := nodup_le (m := (R.filter (fun x => (gotP H R th k).any (fun y => y.th == x.th))).map Lk.th) h1.1 (fun u hu => by
      obtain ⟨x, hx, rfl⟩ := List.mem_map.1 hu
      exact List.mem_map.2 ⟨x, List.mem_filter.2 ⟨(got_mem hx).1, List.any_eq_true.2 ⟨x, hx, by simp⟩⟩, rfl⟩)
    simpa using this
  have h4 : (offT th k H).length ≤ H.length := List.length_filter_le _ _
  unfold relH relR
  rw [List.length_append]
  omega
theorem StI.rel {H R Hc Rc : List Lk} (h : StI H R Hc Rc) {th : Int} (hw : waitsP Rc th = false) (k : Int) : StI H R (relH Hc Rc th k) (relR Hc Rc th k) :=
  ⟨h.ok.rel th k, fun T => (h.closed T).trans (closed_step h.ok hw T), Nat.le_trans (got_cnt h.ok th k) h.cnt⟩
theorem StI.refl {H R : List Lk} (h : Ok H R) : StI H R H R := ⟨h, fun _ => Iff.rfl, Nat.le_refl _⟩
theorem Tied.same {l l' : List Tm} {H R : List Lk} (h : Tied l H R) (h1 : ∀ x, (atT l' x).map Tm.hw = (atT l x).map Tm.hw) (h2 : (l'.map Tm.n).Nodup) : Tied l' H R := by
  have hat : ∀ {l : List Tm} (hn : (l.map Tm.n).Nodup) (t : Tm), t ∈ l → atT l t.n = some t := by
    intro l hn t ht
    induction l with
    | nil => cases ht
    | cons a l ih =>
      rw [List.map_cons, List.nodup_cons] at hn
      unfold atT
      rw [List.find?_cons]
      rcases List.mem_cons.1 ht with q | q
      · rw [← q]; simp
      · have : (a.n == t.n) = false := by
          rw [beq_eq_false_iff_ne]
          intro e; exact hn.1 (List.mem_map.2 ⟨t, q, e.symm⟩)
        rw [this]; exact ih hn.2 q
  refine ⟨h2, fun t ht => ?_, fun x hx => ?_⟩
  · have e1 := hat h2 t ht
    have e2 := h1 t.n
    rw [e1] at e2
    obtain ⟨u, hu, e3⟩ := Option.map_eq_some_iff.1 e2.symm
    obtain ⟨q1, q2⟩ := atT_mem hu
    have := h.2.1 u q1
    rw [q2] at this
    have e4 : t.h = u.h ∧ t.w = u.w := by unfold Tm.hw at e3; injection e3 with a b; exact ⟨a.symm, b.symm⟩
    rw [e4.1, e4.2]; exact this
  · obtain ⟨t, ht, e⟩ := h.2.2 x hx
    have e1 := hat h.1 t ht
    have e2 := h1 t.n
    rw [e1] at e2
    obtain ⟨u, hu, e3⟩ := Option.map_eq_some_iff.1 e2
    obtain ⟨q1, q2⟩ := atT_mem hu
    exact ⟨u, q1, q2.trans e⟩
/-- between two things -/
structure S2 (n : Nat) (w : World) (g bt bw it : Nat) (Y : List Atom) (H R : List Lk) (m1 : Nat) (φ : Int → Option Value) (left : Int → Bool) (cnt : Nat) (b : Bool) (W : World) : Prop where
  ex : ∃ lc Hc Rc om oi, RngV Try.prog 3 W bt it φ left cnt ∧ W.heap[bt]? = some om ∧ W.heap[it]? = some oi ∧ Own n w W (objA it oi :: (tPartsM (objM bt om) g bt bw lc (fW Rc) ++ Y)) ∧ locT lc = φ ∧ StI H R Hc Rc ∧ Tied lc Hc Rc ∧
    msr Hc Rc ≤ m1 ∧ (b = true → msr Hc Rc < m1) ∧ (b = false → ∀ k, left k = false → ∀ x ∈ onT k Hc, waitsP Rc x.th = true)
/-- between two that held a thing -/
structure S3 (n : Nat) (w : World) (g bt bw it : Nat) (Y : List Atom) (H R : List Lk) (m1 : Nat) (φ : Int → Option Value) (left : Int → Bool) (om oi : Obj) (k : Int) (v : Value) (snap : List Lk) (j : Nat) (b : Bool) (W : World) : Prop where
  ex : ∃ lc Hc Rc, Own n w W (offA 3 v snap.length (cellsK snap) :: objA it oi :: (tPartsM (objM bt om) g bt bw lc (fW Rc) ++ Y)) ∧ locT lc = φ ∧ StI H R Hc Rc ∧ Tied lc Hc Rc ∧
    msr Hc Rc ≤ m1 ∧ (b = true → msr Hc Rc < m1) ∧ (b = false → snap = onT k Hc ∧ (∀ k, left k = false → ∀ x ∈ onT k Hc, waitsP Rc x.th = true) ∧ ∀ i (h : i < snap.length), i < j → waitsP Rc snap[i].th = true)
section
variable {n g bt bw it m1 : Nat} {w W : World} {Y F : List Atom} {H R Hc Rc : List Lk} {lc : List Tm} {φ : Int → Option Value} {left : Int → Bool} {om oi : Obj} {k : Int} {v : Value} {snap : List Lk} {j cnt : Nat} {b : Bool}
theorem mp_perm (M : (Int → Option Value) → Atom) (g bt bw : Nat) (l : List Tm) (f : Int → Option Lk) (Y : List Atom) : (tPartsM M g bt bw l f ++ Y).Perm (M (locT l) :: (blkA g #[.map (some bt), .map (some bw)] 53 :: mpA bw (waitF f) :: (l.flatMap Tm.parts ++ Y))) := by
  unfold tPartsM
  simpa using permB [[blkA g #[.map (some bt), .map (some bw)] 53], [M (locT l)], [mpA bw (waitF f)], l.flatMap Tm.parts, Y] [0, 1, 2, 3, 4] [1, 0, 2, 3, 4] (by decide)
theorem S2.start {W1 : World} (ho : Own n w W (tParts g bt bw lc (fW Rc) ++ Y)) (hr : RngV Try.prog 3 W1 bt W.heap.size (locT lc) (fun x => ((locT lc) x).isSome) cnt) (hgr : W.grownBy W1 none) (hs : StI H R Hc Rc) (ht : Tied lc Hc Rc) :
    S2 n w g bt bw W.heap.size Y H R (msr Hc Rc) (locT lc) (fun x => ((locT lc) x).isSome) cnt false W1 := by
  obtain ⟨-, om, oi, h1, h2⟩ := hr.objs
  refine ⟨lc, Hc, Rc, om, oi, hr, h1, h2, ?_, rfl, hs, ht, Nat.le_refl _, fun e => (by cases e), fun _ k hk x hx => ?_⟩
  · have h3 := ho.more (a := objA W.heap.size oi) (below_none hgr) h2 (fun k hk => by cases hk; exact Nat.le_refl _)
    obtain ⟨s, hs⟩ := hr.own
    have h4 := (h3.perm (List.Perm.cons _ (mp_perm _ _ _ _ _ _ _))).swap
    have h5 := h4.turn (a' := objM bt om (locT lc)) rfl ⟨h1, s, hs⟩
    exact h5.swap.perm (List.Perm.cons _ (mp_perm _ _ _ _ _ _ _).symm)
  · have hk : (locT lc k).isSome = false := hk
    rw [locT_isSome] at hk
    rcases ht.find k with ⟨-, e1, -⟩ | ⟨t, e, -⟩
    · rw [e1] at hx; cases hx
    · have : atT lc k = some t := e
      rw [this] at hk; cases hk
theorem S2.done (h : S2 n w g bt bw it Y H R m1 φ left cnt b W) (hl : ∀ x, left x = false) : ∃ lc Hc Rc, Own n w W (tParts g bt bw lc (fW Rc) ++ Y) ∧ StI H R Hc Rc ∧ Tied lc Hc Rc ∧ msr Hc Rc ≤ m1 ∧ (b = true → msr Hc Rc < m1) ∧ (b = false → ∀ x ∈ Hc, waitsP Rc x.th = true) := by
  obtain ⟨lc, Hc, Rc, om, oi, hr, h1, h2, h3, h4, h5, h6, h7, h8, h9⟩ := h.ex
  refine ⟨lc, Hc, Rc, ?_, h5, h6, h7, h8, fun e x hx => h9 e x.tg (hl _) x (mem_onT.2 ⟨hx, rfl⟩)⟩
  have e1 := h3.tail.perm (mp_perm _ _ _ _ _ _ _)
  have e2 := e1.turn (a' := mpA bt (locT lc)) rfl e1.head.2
  exact e2.perm (mp_perm _ _ _ _ _ _ _).symm
theorem S3.skip (h1 : Own n w W (offA 3 v snap.length (cellsK snap) :: objA it oi :: (tPartsM (objM bt om) g bt bw lc (fW Rc) ++ Y))) (h2 : locT lc = φ) (h3 : StI H R Hc Rc) (h4 : Tied lc Hc Rc) (h5 : msr Hc Rc ≤ m1) (h6 : b = true → msr Hc Rc < m1)
    (h7 : b = false → snap = onT k Hc ∧ (∀ k, left k = false → ∀ x ∈ onT k Hc, waitsP Rc x.th = true) ∧ ∀ i (h : i < snap.length), i < j → waitsP Rc snap[i].th = true) (hj : j < snap.length) (hx : waitsP Rc snap[j].th = true) :
    S3 n w g bt bw it Y H R m1 φ left om oi k v snap (j + 1) b W := by
  refine ⟨lc, Hc, Rc, h1, h2, h3, h4, h5, h6, fun e => ?_⟩
  obtain ⟨q1, q2, q3⟩ := h7 e
  refine ⟨q1, q2, fun i hi hij => ?_⟩
  by_cases e : i = j
  · subst e; exact hx
  · exact q3 i hi (by omega)
theorem S3.rel {lc' : List Tm} {th : Int} {W' : World} {vo : Value} (h2 : locT lc = φ) (h3 : StI H R Hc Rc) (h5 : msr Hc Rc ≤ m1) (h6 : b = true → msr Hc Rc < m1)
    (h7 : b = false → snap = onT k Hc ∧ (∀ k, left k = false → ∀ x ∈ onT k Hc, waitsP Rc x.th = true) ∧ ∀ i (h : i < snap.length), i < j → waitsP Rc snap[i].th = true) (hj : j < snap.length) (hth : snap[j].th = th) (hx : waitsP Rc th = false)
    (e1 : Tied lc' (relH Hc Rc th k) (relR Hc Rc th k)) (e2 : locT lc' = locT lc)
    (e3 : Own n w W' (offA 3 vo (gotP Hc Rc th k).length (cellsK (gotP Hc Rc th k)) :: (tPartsM (objM bt om) g bt bw lc' (fW (relR Hc Rc th k)) ++ (offA 3 v snap.length (cellsK snap) :: objA it oi :: Y)))) :
    S3 n w g bt bw it Y H R m1 φ left om oi k v snap (j + 1) true W' := by
  have hle := rel_le h3.ok th k
  have hlt : msr (relH Hc Rc th k) (relR Hc Rc th k) < m1 := by
    cases b with
    | true => exact Nat.lt_of_le_of_lt hle (h6 rfl)
    | false =>
      refine Nat.lt_of_lt_of_le (rel_less h3.ok ?_) h5
      obtain ⟨q1, -, -⟩ := h7 rfl
      have hm : snap[j] ∈ onT k Hc := by rw [← q1]; exact List.getElem_mem hj
      obtain ⟨r1, r2⟩ := mem_onT.1 hm
      exact holdsP_mem.2 ⟨_, r1, hth, r2⟩
  refine ⟨lc', _, _, ?_, e2.trans h2, h3.rel hx k, e1, Nat.le_of_lt hlt, fun _ => hlt, fun e => by cases e⟩
  refine e3.tail.perm ?_
  simpa using permB [tPartsM (objM bt om) g bt bw lc' (fW (relR Hc Rc th k)), [offA 3 v snap.length (cellsK snap)], [objA it oi], Y] [0, 1, 2, 3] [1, 2, 0, 3] (by decide)
theorem S3.perm (h1 : Own n w W (offA 3 v snap.length (cellsK snap) :: objA it oi :: (tPartsM (objM bt om) g bt bw lc (fW Rc) ++ Y))) : Own n w W (tPartsM (objM bt om) g bt bw lc (fW Rc) ++ (offA 3 v snap.length (cellsK snap) :: objA it oi :: Y)) := by
  refine h1.perm ?_
  simpa using permB [tPartsM (objM bt om) g bt bw lc (fW Rc), [offA 3 v snap.length (cellsK snap)], [objA it oi], Y] [1, 2, 0, 3] [0, 1, 2, 3] (by decide)
theorem own_drop1 {X : List Atom} {a b c : Atom} (h : Own n w W (X ++ (a :: b :: c :: Y))) : Own n w W (b :: c :: (X ++ Y)) := by
  refine h.front.tail.perm ?_
  simpa using permB [X, [b], [c], Y] [0, 1, 2, 3] [1, 2, 0, 3] (by decide)
theorem own_drop2 {X : List Atom} {v a : Atom} (h : Own n w W (v :: (X ++ (a :: Y)))) : Own n w W (v :: (X ++ Y)) := h.sub ((List.Sublist.append (List.Sublist.refl _) (List.sublist_cons_self _ _)).cons_cons _)
theorem S3.done (h : S3 n w g bt bw it Y H R m1 φ left om oi k v snap snap.length b W) {W0 : World} (hr : RngV Try.prog 3 W0 bt it φ (fun z => left z && !decide (z = k)) cnt) (hm : W0.heap[bt]? = some om) (hi : W0.heap[it]? = some oi) :
    S2 n w g bt bw it Y H R m1 φ (fun z => left z && !decide (z = k)) cnt b W := by
  obtain ⟨lc, Hc, Rc, h1, h2, h3, h4, h5, h6, h7⟩ := h.ex
  have e1 := h1.tail
  have hm' : W.heap[bt]? = some om := (e1.tail.hold (objM bt om (locT lc)) (by simp [tPartsM])).1
  have hi' : W.heap[it]? = some oi := e1.head
  refine ⟨lc, Hc, Rc, om, oi, hr.of hm hi hm' hi', hm', hi', e1, h2, h3, h4, h5, h6, fun e k' hk' x hx => ?_⟩
  obtain ⟨q1, q2, q3⟩ := h7 e
  by_cases ek : k' = k
  · subst ek
    rw [← q1] at hx
    obtain ⟨i, hi, rfl⟩ := List.getElem_of_mem hx
    exact q3 i hi hi
  · refine q2 k' ?_ x hx
    simpa [ek] using hk'
end
end Go.Proofs.Ytcmiboipgngjaaa
