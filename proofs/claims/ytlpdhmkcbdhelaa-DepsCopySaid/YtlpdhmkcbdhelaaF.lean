/-
  What Add and Written make of a graph, in plain words.
-/
import Derived.Test.YtlpdhmkcbdhelaaE
namespace Go.Proofs.Ytlpdhmkcbdhelaa
set_option linter.unusedVariables false
set_option linter.unusedSimpArgs false
open Go.RowKit Go.Maps

/-- k is not done: the change id hangs on it -/
def hangL (id : Int) (l : List Chg) (k : Int) : List Chg := if (l.getD k.toNat zc).done then l else l.modify k.toNat (fun c => { c with to := c.to ++ [id] })
theorem hangL_len (id : Int) (l : List Chg) (k : Int) : (hangL id l k).length = l.length := by unfold hangL; split <;> simp
theorem hangF_len (id : Int) (on : List Int) (l : List Chg) : (on.foldl (hangL id) l).length = l.length := by
  induction on generalizing l with
  | nil => rfl
  | cons k on ih => rw [List.foldl_cons, ih, hangL_len]
theorem hangL_done (id : Int) (l : List Chg) (k : Int) (j : Nat) : ((hangL id l k).getD j zc).done = (l.getD j zc).done := by
  unfold hangL
  split
  · rfl
  · by_cases hj : j < l.length
    · simp [hj, List.getElem_modify]
      split <;> rfl
    · simp [hj]
theorem hangF_done (id : Int) (on : List Int) (l : List Chg) (j : Nat) : ((on.foldl (hangL id) l).getD j zc).done = (l.getD j zc).done := by
  induction on generalizing l with
  | nil => rfl
  | cons k on ih => rw [List.foldl_cons, ih, hangL_done]
theorem hangL_to (id : Int) (l : List Chg) (k : Int) (j : Nat) : ((hangL id l k).getD j zc).to.length ≤ (l.getD j zc).to.length + 1 := by
  unfold hangL
  split
  · omega
  · by_cases hj : j < l.length
    · simp [hj, List.getElem_modify]
      split <;> simp
    · simp [hj]
theorem hangF_to (id : Int) (on : List Int) (l : List Chg) (j : Nat) : ((on.foldl (hangL id) l).getD j zc).to.length ≤ (l.getD j zc).to.length + on.length := by
  induction on generalizing l with
  | nil => simp
  | cons k on ih =>
    rw [List.foldl_cons]
    have h1 := ih (hangL id l k)
    have h2 := hangL_to id l k j
    simp only [List.length_cons]; omega
/-- how many of some are not done -/
def cntL (l : List Chg) (on : List Int) : Nat := (on.filter (fun k => !(l.getD k.toNat zc).done)).length
theorem cntL_snoc (l : List Chg) (on : List Int) (k : Int) : cntL l (on ++ [k]) = cntL l on + if (l.getD k.toNat zc).done = true then 0 else 1 := by
  unfold cntL
  rw [List.filter_append, List.length_append]
  congr 1
  cases h : (l.getD k.toNat zc).done <;> simp [List.filter_cons, ← List.getD_eq_getElem?_getD, h]
theorem cntL_le (l : List Chg) (on : List Int) : cntL l on ≤ on.length := List.length_filter_le _ _
def setOr (s : Option (Int → Bool)) (x : Int) : Bool := match s with | some s => s x | none => false
def addS (st : St) (buf : Int) (on : List Int) : St :=
  { l := on.foldl (hangL (st.l.length : Int)) st.l ++ [⟨buf, on, (cntL st.l on : Int), [], false⟩]
    bufs := upd st.bufs buf (some (fun x => if x = (st.l.length : Int) then true else setOr (st.bufs buf) x))
    opn := st.opn + 1
    next := if cntL st.l on = 0 then upd st.next buf (some ((st.next buf).getD 0 + 1)) else st.next }
/-- what F holds reads as the slice of the numbers on -/
def Reads (n : Nat) (w : World) (F : List Atom) (A : Option Addr) (on : List Int) : Prop := ∀ W, Own n w W F → Ints W.heap.size W A on
theorem Reads.row {n : Nat} {w : World} {F : List Atom} {A : Option Addr} {c k : Nat} {on : List Int} (h : rowA 3 1 (.slice A k c) k (ints on) ∈ F) : Reads n w F A on := fun W ho => Ints.of_own (ho.hold _ h) (Nat.le_refl _)
theorem Reads.old {n : Nat} {w : World} {F : List Atom} {A : Option Addr} {on : List Int} (h : Ints n w A on) : Reads n w F A on := fun W ho => (h.below ho.below (Nat.le_refl _)).more ho.sz
theorem Reads.app {n : Nat} {w : World} {F G : List Atom} {A : Option Addr} {on : List Int} (h : Reads n w F A on) : Reads n w (G ++ F) A on := fun W ho => h W (ho.sub (List.sublist_append_right _ _))
theorem Reads.consr {n : Nat} {w : World} {F : List Atom} {a : Atom} {A : Option Addr} {on : List Int} (h : Reads n w F A on) : Reads n w (a :: F) A on := fun W ho => h W ho.tail
/-- the located changes: one turned -/
theorem map_set_c {l : List Cg} {k : Nat} (hk : k < l.length) (c : Cg) : (l.set k c).map Cg.c = (l.map Cg.c).set k c.c := by rw [List.map_set]
theorem modify_eq_set {l : List Chg} {k : Nat} (hk : k < l.length) (f : Chg → Chg) : l.modify k f = l.set k (f l[k]) := by
  refine List.ext_getElem (by simp) fun i h1 h2 => ?_
  rw [List.getElem_modify, List.getElem_set]
  by_cases e : k = i
  · subst e; simp
  · simp [e]
/-- a graph's parts but one change's row and the cells -/
def gRest (bb nb : Nat) (bs : List Bs) (nx : Int → Option Int) (ons tos : List Atom) : List Atom := mpA bb (locF bs) :: mpA nb (intF nx) :: (ons ++ (tos ++ bs.map Bs.a))
theorem perm_eraseIdx {α : Type} (l : List α) (i : Nat) (h : i < l.length) : l.Perm (l[i] :: l.eraseIdx i) := by
  have e : l = l.take i ++ l[i] :: l.drop (i + 1) := by rw [List.getElem_cons_drop, List.take_append_drop]
  rw [List.eraseIdx_eq_take_drop_succ]
  conv => lhs; rw [e]
  exact List.perm_middle
theorem gParts_to (g : Nat) (vl : Value) (l : List Cg) (bb nb : Nat) (opn : Int) (bs : List Bs) (nx : Int → Option Int) (i : Nat) (h : i < l.length) :
    (gParts g vl l bb nb opn bs nx).Perm (toA l[i] :: blkA g #[vl, .map (some bb), .int .i64 opn, .map (some nb)] 58 :: rowA 60 5 vl l.length (cellsL l) :: gRest bb nb bs nx (l.map onA) ((l.eraseIdx i).map toA)) := by
  have hp : (l.map toA).Perm (toA l[i] :: (l.eraseIdx i).map toA) := (perm_eraseIdx l i h).map toA
  unfold gParts gRest
  refine (((((hp.append_right _).append_left _).cons _).cons _).cons _ |>.cons _).trans ?_
  exact (List.perm_middle (l₁ := blkA g #[vl, .map (some bb), .int .i64 opn, .map (some nb)] 58 :: rowA 60 5 vl l.length (cellsL l) :: mpA bb (locF bs) :: mpA nb (intF nx) :: l.map onA))
theorem gParts_to_set (g : Nat) (vl : Value) (l : List Cg) (bb nb : Nat) (opn : Int) (bs : List Bs) (nx : Int → Option Int) (i : Nat) (h : i < l.length) (c : Cg) (hc : onA c = onA l[i]) :
    (gParts g vl (l.set i c) bb nb opn bs nx).Perm (toA c :: blkA g #[vl, .map (some bb), .int .i64 opn, .map (some nb)] 58 :: rowA 60 5 vl l.length (cellsL (l.set i c)) :: gRest bb nb bs nx (l.map onA) ((l.eraseIdx i).map toA)) := by
  have := gParts_to g vl (l.set i c) bb nb opn bs nx i (by simpa using h)
  rw [List.getElem_set_self, List.length_set, List.eraseIdx_set_eq, List.map_set, hc, ← List.getElem_map onA (l := l) (h := by simpa using h), List.set_getElem_self] at this
  exact this
theorem bsAt_split {bs : List Bs} {x : Int} {b : Bs} (h : bsAt bs x = some b) : ∃ l1 l2, bs = l1 ++ b :: l2 ∧ (∀ c ∈ l1, c.key ≠ x) ∧ b.key = x := by
  unfold bsAt at h
  obtain ⟨h1, l1, l2, h2, h3⟩ := List.find?_eq_some_iff_append.1 h
  exact ⟨l1, l2, h2, fun c hc => by have := h3 c hc; simpa using this, by simpa using h1⟩
theorem find_none {l1 : List Bs} {x : Int} (h : ∀ c ∈ l1, c.key ≠ x) : l1.find? (fun b => b.key == x) = none := List.find?_eq_none.2 fun c hc => by simpa using h c hc
theorem bsAt_mid {l1 l2 : List Bs} {b b' : Bs} (h1 : ∀ c ∈ l1, c.key ≠ b.key) (hk : b'.key = b.key) (x : Int) : bsAt (l1 ++ b' :: l2) x = if x = b.key then some b' else bsAt (l1 ++ b :: l2) x := by
  unfold bsAt
  rw [List.find?_append, List.find?_append, List.find?_cons, List.find?_cons, hk]
  by_cases e : x = b.key
  · subst e
    rw [if_pos rfl, find_none h1]
    simp
  · rw [if_neg e]
    have : (b.key == x) = false := by rw [beq_eq_false_iff_ne]; exact fun h => e h.symm
    rw [this]
theorem locF_mid {l1 l2 : List Bs} {b b' : Bs} (h1 : ∀ c ∈ l1, c.key ≠ b.key) (hk : b'.key = b.key) (hl : b'.loc = b.loc) : locF (l1 ++ b' :: l2) = locF (l1 ++ b :: l2) := by
  funext x
  have h0 := bsAt_mid (l2 := l2) (b' := b) h1 rfl x
  unfold locF
  rw [bsAt_mid h1 hk x, h0]
  split
  · simp [hl]
  · rfl
theorem bsAt_snoc {bs : List Bs} {b : Bs} (h : bsAt bs b.key = none) (x : Int) : bsAt (bs ++ [b]) x = if x = b.key then some b else bsAt bs x := by
  unfold bsAt at h ⊢
  rw [List.find?_append]
  by_cases e : x = b.key
  · subst e
    rw [if_pos rfl, h]; simp
  · rw [if_neg e]
    have : (b.key == x) = false := by rw [beq_eq_false_iff_ne]; exact fun h => e h.symm
    cases bs.find? (fun b => b.key == x) <;> simp [List.find?_cons, this]
theorem locF_snoc {bs : List Bs} {b : Bs} (h : bsAt bs b.key = none) : locF (bs ++ [b]) = fun x => if x = b.key then some (.map (some b.loc)) else locF bs x := by
  funext x
  unfold locF
  rw [bsAt_snoc h]
  by_cases e : x = b.key
  · simp [e]
  · simp [e]
theorem bsAt_none {bs : List Bs} {x : Int} (h : bsAt bs x = none) : x ∉ bs.map Bs.key := fun hx => by
  obtain ⟨c, hc, e⟩ := List.mem_map.1 hx
  have := List.find?_eq_none.1 h c hc
  simp [e] at this
theorem keys_snoc {bs : List Bs} {b : Bs} (h : bsAt bs b.key = none) (hn : (bs.map Bs.key).Nodup) : ((bs ++ [b]).map Bs.key).Nodup := by
  rw [List.map_append]
  exact List.nodup_append.2 ⟨hn, by simp, fun a ha c hc e => by simp at hc; subst hc; subst e; exact bsAt_none h ha⟩
theorem keys_mid {l1 l2 : List Bs} {b b' : Bs} (hk : b'.key = b.key) (hn : ((l1 ++ b :: l2).map Bs.key).Nodup) : ((l1 ++ b' :: l2).map Bs.key).Nodup := by
  simpa [hk] using hn
theorem keys_far {l1 l2 : List Bs} {b : Bs} (hn : ((l1 ++ b :: l2).map Bs.key).Nodup) : ∀ c ∈ l1 ++ l2, c.key ≠ b.key := by
  rw [List.map_append, List.map_cons] at hn
  have hp := (List.perm_middle (a := b.key) (l₁ := l1.map Bs.key) (l₂ := l2.map Bs.key)).nodup_iff.1 hn
  intro c hc e
  refine (List.nodup_cons.1 hp).1 ?_
  rw [← List.map_append]
  exact List.mem_map.2 ⟨c, hc, e⟩
theorem bsAt_drop {l1 l2 : List Bs} {b : Bs} (hn : ((l1 ++ b :: l2).map Bs.key).Nodup) (x : Int) : bsAt (l1 ++ l2) x = if x = b.key then none else bsAt (l1 ++ b :: l2) x := by
  have hf := keys_far hn
  by_cases e : x = b.key
  · subst e
    rw [if_pos rfl]
    exact find_none hf
  · rw [if_neg e]
    unfold bsAt
    rw [List.find?_append, List.find?_append, List.find?_cons]
    have : (b.key == x) = false := by rw [beq_eq_false_iff_ne]; exact fun h => e h.symm
    rw [this]
theorem gParts_bs (g : Nat) (vl : Value) (l : List Cg) (bb nb : Nat) (opn : Int) (l1 l2 : List Bs) (b : Bs) (nx : Int → Option Int) :
    (gParts g vl l bb nb opn (l1 ++ b :: l2) nx).Perm (b.a :: blkA g #[vl, .map (some bb), .int .i64 opn, .map (some nb)] 58 :: rowA 60 5 vl l.length (cellsL l) :: mpA bb (locF (l1 ++ b :: l2)) :: mpA nb (intF nx) :: (l.map onA ++ (l.map toA ++ (l1 ++ l2).map Bs.a))) := by
  unfold gParts
  rw [List.map_append, List.map_cons, List.map_append]
  have h : ((l.map onA ++ (l.map toA ++ (l1.map Bs.a ++ b.a :: l2.map Bs.a)))).Perm (b.a :: (l.map onA ++ (l.map toA ++ (l1.map Bs.a ++ l2.map Bs.a)))) := by
    have := List.perm_middle (a := b.a) (l₁ := l.map onA ++ (l.map toA ++ l1.map Bs.a)) (l₂ := l2.map Bs.a)
    simpa only [List.append_assoc] using this
  refine ((((h.cons _).cons _).cons _).cons _).trans ?_
  exact List.perm_middle (l₁ := [blkA g #[vl, .map (some bb), .int .i64 opn, .map (some nb)] 58, rowA 60 5 vl l.length (cellsL l), mpA bb (locF (l1 ++ b :: l2)), mpA nb (intF nx)])
theorem gParts_snoc (g : Nat) (vl : Value) (l : List Cg) (c : Cg) (bb nb : Nat) (opn : Int) (bs : List Bs) (nx : Int → Option Int) :
    (gParts g vl (l ++ [c]) bb nb opn bs nx).Perm (blkA g #[vl, .map (some bb), .int .i64 opn, .map (some nb)] 58 :: rowA 60 5 vl (l.length + 1) (cellsL l ++ c.cells) :: onA c :: toA c :: (mpA bb (locF bs) :: mpA nb (intF nx) :: (l.map onA ++ (l.map toA ++ bs.map Bs.a)))) := by
  have e : cellsL (l ++ [c]) = cellsL l ++ c.cells := by rw [cellsL_append]; simp [cellsL]
  unfold gParts
  rw [e, List.length_append, List.length_singleton]
  refine (List.Perm.cons _ (List.Perm.cons _ ?_))
  simp only [List.map_append, List.map_cons, List.map_nil, List.append_assoc, List.cons_append, List.nil_append]
  have h1 := List.perm_middle (a := onA c) (l₁ := mpA bb (locF bs) :: mpA nb (intF nx) :: l.map onA) (l₂ := l.map toA ++ toA c :: bs.map Bs.a)
  refine h1.trans (List.Perm.cons _ ?_)
  have h2 := List.perm_middle (a := toA c) (l₁ := mpA bb (locF bs) :: mpA nb (intF nx) :: (l.map onA ++ l.map toA)) (l₂ := bs.map Bs.a)
  simpa only [List.append_assoc, List.cons_append] using h2
theorem gParts_bsnoc (g : Nat) (vl : Value) (l : List Cg) (bb nb : Nat) (opn : Int) (bs : List Bs) (b : Bs) (nx : Int → Option Int) :
    (gParts g vl l bb nb opn (bs ++ [b]) nx).Perm (mpA bb (locF (bs ++ [b])) :: b.a :: blkA g #[vl, .map (some bb), .int .i64 opn, .map (some nb)] 58 :: rowA 60 5 vl l.length (cellsL l) :: mpA nb (intF nx) :: (l.map onA ++ (l.map toA ++ bs.map Bs.a))) := by
  have := gParts_bs g vl l bb nb opn bs [] b nx
  rw [List.append_nil] at this
  exact this.trans (List.perm_middle (l₁ := [b.a, blkA g #[vl, .map (some bb), .int .i64 opn, .map (some nb)] 58, rowA 60 5 vl l.length (cellsL l)]))
theorem setF_put (s : Int → Bool) (k : Int) : (fun x => if x = k then some (Value.bool true) else setF s x) = setF (fun x => if x = k then true else s x) := by
  funext x
  unfold setF
  by_cases e : x = k
  · simp [e]
  · simp [e]
theorem intF_put (f : Int → Option Int) (k v : Int) : (fun x => if x = k then some (Value.int .i64 v) else intF f x) = intF (upd f k (some v)) := by
  funext x
  unfold intF upd
  by_cases e : x = k
  · simp [e]
  · simp [e]
theorem wfN {k : Nat} (h : k < 1099511627776) : (Lit.int .i64 (k : Int)).wf = true := WalkArith.wf_i64 ⟨by omega, by omega⟩
end Go.Proofs.Ytlpdhmkcbdhelaa
