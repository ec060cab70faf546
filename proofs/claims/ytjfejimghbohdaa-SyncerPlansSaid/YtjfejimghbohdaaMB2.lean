/-
  The walks of is, Done, Bufs and Ready. Conditions: the graph's numbers are in their bounds.
  What Add and Written make of a graph, in plain words.
  What Written makes of a graph, in plain words.
  A graph as a function of its rows of changes: what is added, written, and asked, in plain words.
  What is written, of a graph as a function of its rows: plain words.
-/
import Derived.Test.YtjfejimghbohdaaMB1
namespace Go.Proofs.Ytjfejimghbohdaa
set_option linter.unusedVariables false
set_option linter.unusedSimpArgs false
open Go.RowKit Go.Maps

section
variable {n g : Nat} {w W : World} {F ps : List Atom} {st : St}
def isB (st : St) (id : Int) : Bool := decide (0 ≤ id) && decide (id < (st.l.length : Int))
theorem is_c (hg : IsG g st ps) (ho : ∀ a ∈ ps, a.Q W) (hf : Fit st) (id : Int) : Calls Try.prog 32 #[.pointer (some ⟨g, 0, none⟩), .int .i64 id] W fun e W' => e = .returned (.bool (isB st id)) ∧ W = W' := by
  obtain ⟨vl, bb, nb, hb, A, c, rfl⟩ : ∃ vl bb nb, Blk W g #[vl, .map (some bb), .int .i64 st.opn, .map (some nb)] 69 ∧ ∃ A c, vl = .slice A st.l.length c := by
    obtain ⟨vl, l, bb, nb, bs, rfl, h1, h2, h3⟩ := hg
    have hl : l.length = st.l.length := by rw [← h1, List.length_map]
    have hr : W.ownsRow 0 64 5 vl l.length (cellsL l) := ho (rowA 64 5 vl l.length (cellsL l)) (by simp [gParts])
    obtain ⟨A, c, rfl⟩ := own_slice hr
    exact ⟨.slice A l.length c, bb, nb, ho (blkA g #[.slice A l.length c, .map (some bb), .int .i64 st.opn, .map (some nb)] 69) (by simp [gParts]), A, c, by rw [hl]⟩
  have hl := hf.len
  have z : W.cell? ⟨g, 0, none⟩ = some (.slice A st.l.length c) := hb.cell 0
  clear hb hg ho hf
  by_cases h0 : 0 ≤ id
  · by_cases h1 : id < (st.l.length : Int)
    · have HE := hide (show isB st id = true by unfold isB; simp [h0, h1])
      go_enter Try.func32, Try.ntmps32
      go_wp2
      go_ret
      exact ⟨by rw [HE.out]; rfl, rfl⟩
    · have HE := hide (show isB st id = false by unfold isB; simp [h0, h1])
      have h1' : (st.l.length : Int) ≤ id := by omega
      have hd : decide (id < (st.l.length : Int)) = false := by simp [h1]
      go_enter Try.func32, Try.ntmps32
      go_wp2
      go_ret
      exact ⟨by rw [HE.out]; rfl, rfl⟩
  · have HE := hide (show isB st id = false by unfold isB; simp [h0])
    have hd : decide (0 ≤ id) = false := by simp [h0]
    go_enter Try.func32, Try.ntmps32
    go_wp2
    go_ret
    exact ⟨by rw [HE.out]; rfl, rfl⟩
def doneS (st : St) (id : Int) : Bool := isB st id && (at_ st id).done
theorem done_c (hg : IsG g st ps) (ho : ∀ a ∈ ps, a.Q W) (hf : Fit st) (id : Int) : Calls Try.prog 13 #[.pointer (some ⟨g, 0, none⟩), .int .i64 id] W fun e W' => e = .returned (.bool (doneS st id)) ∧ W = W' := by
  have HI := hide (is_c hg ho hf id)
  have hl := hf.len
  cases hi : isB st id with
  | false =>
    have HD := hide (show doneS st id = false by unfold doneS; rw [hi]; rfl)
    rw [hi] at HI
    clear hi hg ho hf
    go_enter Try.func13, Try.ntmps13
    go_wp2_with (go_at_call 32; refine HI.out.mono ?_; rintro e w' ⟨rfl, rfl⟩)
    go_ret
    exact ⟨by rw [HD.out]; rfl, rfl⟩
  | true =>
    have hb : 0 ≤ id ∧ id < st.l.length := by unfold isB at hi; simpa using hi
    obtain ⟨i, rfl⟩ := Int.eq_ofNat_of_zero_le hb.1
    have hil : i < st.l.length := by omega
    have HD := hide (show doneS st (i : Int) = st.l[i].done by unfold doneS at_; rw [hi]; simp [hil])
    rw [hi] at HI
    obtain ⟨gl, vl, cl, bb, nb, von, vto, rfl, x0, -, -, -, -, x4, -⟩ := hg.cellAt ho hil
    have o3 : (0 : Int) ≤ (i : Int) := by omega
    have o4 : (i : Int) < (st.l.length : Int) := by omega
    clear hi hg ho hf hb
    generalize st.l[i].done = d at x4 HD
    go_enter Try.func13, Try.ntmps13
    go_wp2_with (go_at_call 32; refine HI.out.mono ?_; rintro e w' ⟨rfl, rfl⟩)
    go_ret
    exact ⟨by rw [HD.out]; rfl, rfl⟩
theorem ready_c (hg : IsG g st ps) (ho : Own n w W (ps ++ F)) (hf : Fit st) : Calls Try.prog 23 #[.pointer (some ⟨g, 0, none⟩)] W fun e W' => ∃ v xs, e = .returned v ∧ Rising xs ∧ (∀ x, x ∈ xs ↔ (st.next x).isSome = true) ∧ Own n w W' (rowA 3 1 v xs.length (ints xs) :: (ps ++ F)) := by
  obtain ⟨vl, l, bb, nb, bs, rfl, h1, h2, h3⟩ := hg
  have hb : Blk W g #[vl, .map (some bb), .int .i64 st.opn, .map (some nb)] 69 := ho.hold (blkA g #[vl, .map (some bb), .int .i64 st.opn, .map (some nb)] 69) (by simp [gParts])
  obtain ⟨s, hm⟩ : ∃ s, OwnV Try.prog 3 W nb (intF st.next) s := ho.hold (mpA nb (intF st.next)) (by simp [gParts])
  have hs := hf.nextSize hm
  have hl := hf.len
  have z : W.cell? ⟨g, 3, none⟩ = some (.map (some nb)) := hb.cell 3
  have HS := hide (sortedI_c W.heap.size nb s (intF st.next) (W.alloc (.cells #[.map (some nb)] 67)) (cellNew _ _ _) (hm.alloc _) (by omega))
  have HO := hide ho
  clear hb hm h2 ho h1 h3 hf
  go_enter Try.func23, Try.ntmps23
  go_wp2_with (first | (go_at_call 39; refine (keys35_c _ _).mono ?_; rintro e w' ⟨rfl, rfl⟩) | (go_at_call 34; refine HS.out.mono ?_; rintro e w5 ⟨v, xs, rfl, hr, hx, hrow, hb5⟩; have HR := hide (And.intro hr (And.intro hx (And.intro hrow hb5))); clear hr hx hrow hb5))
  go_ret
  obtain ⟨hr, hx, hrow, hb5⟩ := HR.out
  exact ⟨v, xs, rfl, hr, fun x => (hx x).trans (by unfold intF; cases st.next x <;> exact Iff.rfl), (HO.out.alloc _).moreRow hb5 hrow⟩
end
end Go.Proofs.Ytjfejimghbohdaa
namespace Go.Proofs.Ytjfejimghbohdaa
set_option linter.unusedVariables false
set_option linter.unusedSimpArgs false
open Go.RowKit Go.Maps

/-- k is not done: the change id hangs on it -/
def hangL (id : Int) (l : List Chg) (k : Int) : List Chg := if (l.getD k.toNat zc).done then l else l.modify k.toNat (fun c => { c with to := c.to ++ [id] })
theorem hangL_len (id : Int) (l : List Chg) (k : Int) : (hangL id l k).length = l.length := by unfold hangL; split <;> simp
theorem hangF_len (id : Int) (on : List Int) (l : List Chg) : (on.foldl (hangL id) l).length = l.length := by
  induction on generalizing l with
  | nil => rfl
  | cons k on ih => rw [List.foldl_cons, ih, hangL_len]
theorem hangL_done (id : Int) (l : List Chg) (k : Int) (j : Nat) : ((hangL id l k).getD j zc).done = (l.getD j zc).done := by
  unfold hangL
  split
  · rfl
  · by_cases hj : j < l.length
    · simp [hj, List.getElem_modify]
      split <;> rfl
    · simp [hj]
theorem hangF_done (id : Int) (on : List Int) (l : List Chg) (j : Nat) : ((on.foldl (hangL id) l).getD j zc).done = (l.getD j zc).done := by
  induction on generalizing l with
  | nil => rfl
  | cons k on ih => rw [List.foldl_cons, ih, hangL_done]
theorem hangL_to (id : Int) (l : List Chg) (k : Int) (j : Nat) : ((hangL id l k).getD j zc).to.length ≤ (l.getD j zc).to.length + 1 := by
  unfold hangL
  split
  · omega
  · by_cases hj : j < l.length
    · simp [hj, List.getElem_modify]
      split <;> simp
    · simp [hj]
theorem hangF_to (id : Int) (on : List Int) (l : List Chg) (j : Nat) : ((on.foldl (hangL id) l).getD j zc).to.length ≤ (l.getD j zc).to.length + on.length := by
  induction on generalizing l with
  | nil => simp
  | cons k on ih =>
    rw [List.foldl_cons]
    have h1 := ih (hangL id l k)
    have h2 := hangL_to id l k j
    simp only [List.length_cons]; omega
/-- how many of some are not done -/
def cntL (l : List Chg) (on : List Int) : Nat := (on.filter (fun k => !(l.getD k.toNat zc).done)).length
theorem cntL_snoc (l : List Chg) (on : List Int) (k : Int) : cntL l (on ++ [k]) = cntL l on + if (l.getD k.toNat zc).done = true then 0 else 1 := by
  unfold cntL
  rw [List.filter_append, List.length_append]
  congr 1
  cases h : (l.getD k.toNat zc).done <;> simp [List.filter_cons, ← List.getD_eq_getElem?_getD, h]
theorem cntL_le (l : List Chg) (on : List Int) : cntL l on ≤ on.length := List.length_filter_le _ _
def setOr (s : Option (Int → Bool)) (x : Int) : Bool := match s with | some s => s x | none => false
def addS (st : St) (buf : Int) (on : List Int) : St :=
  { l := on.foldl (hangL (st.l.length : Int)) st.l ++ [⟨buf, on, (cntL st.l on : Int), [], false⟩]
    bufs := upd st.bufs buf (some (fun x => if x = (st.l.length : Int) then true else setOr (st.bufs buf) x))
    opn := st.opn + 1
    next := if cntL st.l on = 0 then upd st.next buf (some ((st.next buf).getD 0 + 1)) else st.next }
/-- what F holds reads as the slice of the numbers on -/
def Reads (n : Nat) (w : World) (F : List Atom) (A : Option Addr) (on : List Int) : Prop := ∀ W, Own n w W F → Ints W.heap.size W A on
theorem Reads.row {n : Nat} {w : World} {F : List Atom} {A : Option Addr} {c k : Nat} {on : List Int} (h : rowA 3 1 (.slice A k c) k (ints on) ∈ F) : Reads n w F A on := fun W ho => Ints.of_own (ho.hold _ h) (Nat.le_refl _)
theorem Reads.old {n : Nat} {w : World} {F : List Atom} {A : Option Addr} {on : List Int} (h : Ints n w A on) : Reads n w F A on := fun W ho => (h.below ho.below (Nat.le_refl _)).more ho.sz
theorem Reads.app {n : Nat} {w : World} {F G : List Atom} {A : Option Addr} {on : List Int} (h : Reads n w F A on) : Reads n w (G ++ F) A on := fun W ho => h W (ho.sub (List.sublist_append_right _ _))
theorem Reads.consr {n : Nat} {w : World} {F : List Atom} {a : Atom} {A : Option Addr} {on : List Int} (h : Reads n w F A on) : Reads n w (a :: F) A on := fun W ho => h W ho.tail
/-- the located changes: one turned -/
theorem map_set_c {l : List Cg} {k : Nat} (hk : k < l.length) (c : Cg) : (l.set k c).map Cg.c = (l.map Cg.c).set k c.c := by rw [List.map_set]
theorem modify_eq_set {l : List Chg} {k : Nat} (hk : k < l.length) (f : Chg → Chg) : l.modify k f = l.set k (f l[k]) := by
  refine List.ext_getElem (by simp) fun i h1 h2 => ?_
  rw [List.getElem_modify, List.getElem_set]
  by_cases e : k = i
  · subst e; simp
  · simp [e]
/-- a graph's parts but one change's row and the cells -/
def gRest (bb nb : Nat) (bs : List Bs) (nx : Int → Option Int) (ons tos : List Atom) : List Atom := mpA bb (locF bs) :: mpA nb (intF nx) :: (ons ++ (tos ++ bs.map Bs.a))
theorem perm_eraseIdx {α : Type} (l : List α) (i : Nat) (h : i < l.length) : l.Perm (l[i] :: l.eraseIdx i) := by
  have e : l = l.take i ++ l[i] :: l.drop (i + 1) := by rw [List.getElem_cons_drop, List.take_append_drop]
  rw [List.eraseIdx_eq_take_drop_succ]
  conv => lhs; rw [e]
  exact List.perm_middle
theorem gParts_to (g : Nat) (vl : Value) (l : List Cg) (bb nb : Nat) (opn : Int) (bs : List Bs) (nx : Int → Option Int) (i : Nat) (h : i < l.length) :
    (gParts g vl l bb nb opn bs nx).Perm (toA l[i] :: blkA g #[vl, .map (some bb), .int .i64 opn, .map (some nb)] 69 :: rowA 64 5 vl l.length (cellsL l) :: gRest bb nb bs nx (l.map onA) ((l.eraseIdx i).map toA)) := by
  have hp : (l.map toA).Perm (toA l[i] :: (l.eraseIdx i).map toA) := (perm_eraseIdx l i h).map toA
  unfold gParts gRest
  refine (((((hp.append_right _).append_left _).cons _).cons _).cons _ |>.cons _).trans ?_
  exact (List.perm_middle (l₁ := blkA g #[vl, .map (some bb), .int .i64 opn, .map (some nb)] 69 :: rowA 64 5 vl l.length (cellsL l) :: mpA bb (locF bs) :: mpA nb (intF nx) :: l.map onA))
theorem gParts_to_set (g : Nat) (vl : Value) (l : List Cg) (bb nb : Nat) (opn : Int) (bs : List Bs) (nx : Int → Option Int) (i : Nat) (h : i < l.length) (c : Cg) (hc : onA c = onA l[i]) :
    (gParts g vl (l.set i c) bb nb opn bs nx).Perm (toA c :: blkA g #[vl, .map (some bb), .int .i64 opn, .map (some nb)] 69 :: rowA 64 5 vl l.length (cellsL (l.set i c)) :: gRest bb nb bs nx (l.map onA) ((l.eraseIdx i).map toA)) := by
  have := gParts_to g vl (l.set i c) bb nb opn bs nx i (by simpa using h)
  rw [List.getElem_set_self, List.length_set, List.eraseIdx_set_eq, List.map_set, hc, ← List.getElem_map onA (l := l) (h := by simpa using h), List.set_getElem_self] at this
  exact this
theorem bsAt_split {bs : List Bs} {x : Int} {b : Bs} (h : bsAt bs x = some b) : ∃ l1 l2, bs = l1 ++ b :: l2 ∧ (∀ c ∈ l1, c.key ≠ x) ∧ b.key = x := by
  unfold bsAt at h
  obtain ⟨h1, l1, l2, h2, h3⟩ := List.find?_eq_some_iff_append.1 h
  exact ⟨l1, l2, h2, fun c hc => by have := h3 c hc; simpa using this, by simpa using h1⟩
theorem find_none {l1 : List Bs} {x : Int} (h : ∀ c ∈ l1, c.key ≠ x) : l1.find? (fun b => b.key == x) = none := List.find?_eq_none.2 fun c hc => by simpa using h c hc
theorem bsAt_mid {l1 l2 : List Bs} {b b' : Bs} (h1 : ∀ c ∈ l1, c.key ≠ b.key) (hk : b'.key = b.key) (x : Int) : bsAt (l1 ++ b' :: l2) x = if x = b.key then some b' else bsAt (l1 ++ b :: l2) x := by
  unfold bsAt
  rw [List.find?_append, List.find?_append, List.find?_cons, List.find?_cons, hk]
  by_cases e : x = b.key
  · subst e
    rw [if_pos rfl, find_none h1]
    simp
  · rw [if_neg e]
    have : (b.key == x) = false := by rw [beq_eq_false_iff_ne]; exact fun h => e h.symm
    rw [this]
theorem locF_mid {l1 l2 : List Bs} {b b' : Bs} (h1 : ∀ c ∈ l1, c.key ≠ b.key) (hk : b'.key = b.key) (hl : b'.loc = b.loc) : locF (l1 ++ b' :: l2) = locF (l1 ++ b :: l2) := by
  funext x
  have h0 := bsAt_mid (l2 := l2) (b' := b) h1 rfl x
  unfold locF
  rw [bsAt_mid h1 hk x, h0]
  split
  · simp [hl]
  · rfl
theorem bsAt_snoc {bs : List Bs} {b : Bs} (h : bsAt bs b.key = none) (x : Int) : bsAt (bs ++ [b]) x = if x = b.key then some b else bsAt bs x := by
  unfold bsAt at h ⊢
  rw [List.find?_append]
  by_cases e : x = b.key
  · subst e
    rw [if_pos rfl, h]; simp
  · rw [if_neg e]
    have : (b.key == x) = false := by rw [beq_eq_false_iff_ne]; exact fun h => e h.symm
    cases bs.find? (fun b => b.key == x) <;> simp [List.find?_cons, this]
theorem locF_snoc {bs : List Bs} {b : Bs} (h : bsAt bs b.key = none) : locF (bs ++ [b]) = fun x => if x = b.key then some (.map (some b.loc)) else locF bs x := by
  funext x
  unfold locF
  rw [bsAt_snoc h]
  by_cases e : x = b.key
  · simp [e]
  · simp [e]
theorem bsAt_none {bs : List Bs} {x : Int} (h : bsAt bs x = none) : x ∉ bs.map Bs.key := fun hx => by
  obtain ⟨c, hc, e⟩ := List.mem_map.1 hx
  have := List.find?_eq_none.1 h c hc
  simp [e] at this
theorem keys_snoc {bs : List Bs} {b : Bs} (h : bsAt bs b.key = none) (hn : (bs.map Bs.key).Nodup) : ((bs ++ [b]).map Bs.key).Nodup := by
  rw [List.map_append]
  exact List.nodup_append.2 ⟨hn, by simp, fun a ha c hc e => by simp at hc; subst hc; subst e; exact bsAt_none h ha⟩
theorem keys_mid {l1 l2 : List Bs} {b b' : Bs} (hk : b'.key = b.key) (hn : ((l1 ++ b :: l2).map Bs.key).Nodup) : ((l1 ++ b' :: l2).map Bs.key).Nodup := by
  simpa [hk] using hn
theorem keys_far {l1 l2 : List Bs} {b : Bs} (hn : ((l1 ++ b :: l2).map Bs.key).Nodup) : ∀ c ∈ l1 ++ l2, c.key ≠ b.key := by
  rw [List.map_append, List.map_cons] at hn
  have hp := (List.perm_middle (a := b.key) (l₁ := l1.map Bs.key) (l₂ := l2.map Bs.key)).nodup_iff.1 hn
  intro c hc e
  refine (List.nodup_cons.1 hp).1 ?_
  rw [← List.map_append]
  exact List.mem_map.2 ⟨c, hc, e⟩
theorem bsAt_drop {l1 l2 : List Bs} {b : Bs} (hn : ((l1 ++ b :: l2).map Bs.key).Nodup) (x : Int) : bsAt (l1 ++ l2) x = if x = b.key then none else bsAt (l1 ++ b :: l2) x := by
  have hf := keys_far hn
  by_cases e : x = b.key
  · subst e
    rw [if_pos rfl]
    exact find_none hf
  · rw [if_neg e]
    unfold bsAt
    rw [List.find?_append, List.find?_append, List.find?_cons]
    have : (b.key == x) = false := by rw [beq_eq_false_iff_ne]; exact fun h => e h.symm
    rw [this]
theorem gParts_bs (g : Nat) (vl : Value) (l : List Cg) (bb nb : Nat) (opn : Int) (l1 l2 : List Bs) (b : Bs) (nx : Int → Option Int) :
    (gParts g vl l bb nb opn (l1 ++ b :: l2) nx).Perm (b.a :: blkA g #[vl, .map (some bb), .int .i64 opn, .map (some nb)] 69 :: rowA 64 5 vl l.length (cellsL l) :: mpA bb (locF (l1 ++ b :: l2)) :: mpA nb (intF nx) :: (l.map onA ++ (l.map toA ++ (l1 ++ l2).map Bs.a))) := by
  unfold gParts
  rw [List.map_append, List.map_cons, List.map_append]
  have h : ((l.map onA ++ (l.map toA ++ (l1.map Bs.a ++ b.a :: l2.map Bs.a)))).Perm (b.a :: (l.map onA ++ (l.map toA ++ (l1.map Bs.a ++ l2.map Bs.a)))) := by
    have := List.perm_middle (a := b.a) (l₁ := l.map onA ++ (l.map toA ++ l1.map Bs.a)) (l₂ := l2.map Bs.a)
    simpa only [List.append_assoc] using this
  refine ((((h.cons _).cons _).cons _).cons _).trans ?_
  exact List.perm_middle (l₁ := [blkA g #[vl, .map (some bb), .int .i64 opn, .map (some nb)] 69, rowA 64 5 vl l.length (cellsL l), mpA bb (locF (l1 ++ b :: l2)), mpA nb (intF nx)])
theorem gParts_snoc (g : Nat) (vl : Value) (l : List Cg) (c : Cg) (bb nb : Nat) (opn : Int) (bs : List Bs) (nx : Int → Option Int) :
    (gParts g vl (l ++ [c]) bb nb opn bs nx).Perm (blkA g #[vl, .map (some bb), .int .i64 opn, .map (some nb)] 69 :: rowA 64 5 vl (l.length + 1) (cellsL l ++ c.cells) :: onA c :: toA c :: (mpA bb (locF bs) :: mpA nb (intF nx) :: (l.map onA ++ (l.map toA ++ bs.map Bs.a)))) := by
  have e : cellsL (l ++ [c]) = cellsL l ++ c.cells := by rw [cellsL_append]; simp [cellsL]
  unfold gParts
  rw [e, List.length_append, List.length_singleton]
  refine (List.Perm.cons _ (List.Perm.cons _ ?_))
  simp only [List.map_append, List.map_cons, List.map_nil, List.append_assoc, List.cons_append, List.nil_append]
  have h1 := List.perm_middle (a := onA c) (l₁ := mpA bb (locF bs) :: mpA nb (intF nx) :: l.map onA) (l₂ := l.map toA ++ toA c :: bs.map Bs.a)
  refine h1.trans (List.Perm.cons _ ?_)
  have h2 := List.perm_middle (a := toA c) (l₁ := mpA bb (locF bs) :: mpA nb (intF nx) :: (l.map onA ++ l.map toA)) (l₂ := bs.map Bs.a)
  simpa only [List.append_assoc, List.cons_append] using h2
theorem gParts_bsnoc (g : Nat) (vl : Value) (l : List Cg) (bb nb : Nat) (opn : Int) (bs : List Bs) (b : Bs) (nx : Int → Option Int) :
    (gParts g vl l bb nb opn (bs ++ [b]) nx).Perm (mpA bb (locF (bs ++ [b])) :: b.a :: blkA g #[vl, .map (some bb), .int .i64 opn, .map (some nb)] 69 :: rowA 64 5 vl l.length (cellsL l) :: mpA nb (intF nx) :: (l.map onA ++ (l.map toA ++ bs.map Bs.a))) := by
  have := gParts_bs g vl l bb nb opn bs [] b nx
  rw [List.append_nil] at this
  exact this.trans (List.perm_middle (l₁ := [b.a, blkA g #[vl, .map (some bb), .int .i64 opn, .map (some nb)] 69, rowA 64 5 vl l.length (cellsL l)]))
theorem setF_put (s : Int → Bool) (k : Int) : (fun x => if x = k then some (Value.bool true) else setF s x) = setF (fun x => if x = k then true else s x) := by
  funext x
  unfold setF
  by_cases e : x = k
  · simp [e]
  · simp [e]
theorem intF_put (f : Int → Option Int) (k v : Int) : (fun x => if x = k then some (Value.int .i64 v) else intF f x) = intF (upd f k (some v)) := by
  funext x
  unfold intF upd
  by_cases e : x = k
  · simp [e]
  · simp [e]
theorem wfN {k : Nat} (h : k < 1099511627776) : (Lit.int .i64 (k : Int)).wf = true := WalkArith.wf_i64 ⟨by omega, by omega⟩
end Go.Proofs.Ytjfejimghbohdaa
namespace Go.Proofs.Ytjfejimghbohdaa
set_option linter.unusedVariables false
set_option linter.unusedSimpArgs false
open Go.RowKit Go.Maps

/-- one is done -/
def doneOne (buf : Int) (st : St) (id : Int) : St :=
  { l := st.l.modify id.toNat (fun c => ⟨c.buf, c.on, c.left, c.to, true⟩)
    bufs := upd st.bufs buf ((st.bufs buf).map (fun s x => if x = id then false else s x))
    opn := st.opn - 1
    next := st.next }
/-- one that hung on one that is done hangs on one less -/
def freeOne (st : St) (k : Int) : St :=
  { l := st.l.modify k.toNat (fun c => ⟨c.buf, c.on, c.left - 1, c.to, c.done⟩)
    bufs := st.bufs
    opn := st.opn
    next := if (at_ st k).left - 1 = 0 then upd st.next (at_ st k).buf (some ((st.next (at_ st k).buf).getD 0 + 1)) else st.next }
def clearTo (st : St) (id : Int) : St := { st with l := st.l.modify id.toNat (fun c => ⟨c.buf, c.on, c.left, [], c.done⟩) }
def freeAll (st : St) (id : Int) : St := clearTo ((at_ st id).to.foldl freeOne st) id
/-- between the two loops: no set that is empty -/
def midS (st : St) (buf : Int) : St :=
  { st with
    next := upd st.next buf none
    bufs := fun x => if x = buf then (match st.bufs buf with | some s => if (List.range st.l.length).any (fun i => s (i : Int)) then some s else none | none => none) else st.bufs x }
def writtenG (st : St) (buf : Int) (out : List Int) : St := out.foldl freeAll (midS (out.foldl (doneOne buf) st) buf)
def writtenS (st : St) (buf : Int) : St := writtenG st buf (nextS st buf)
/-- every graph on the way is in its bounds -/
def FitAll (st : St) (buf : Int) (out : List Int) : Prop :=
  (∀ k, k ≤ out.length → Fit ((out.take k).foldl (doneOne buf) st)) ∧
  (∀ k, k ≤ out.length → Fit ((out.take k).foldl freeAll (midS (out.foldl (doneOne buf) st) buf))) ∧
  (∀ k (hk : k < out.length) j, j ≤ (at_ ((out.take k).foldl freeAll (midS (out.foldl (doneOne buf) st) buf)) out[k]).to.length →
    Fit (((at_ ((out.take k).foldl freeAll (midS (out.foldl (doneOne buf) st) buf)) out[k]).to.take j).foldl freeOne ((out.take k).foldl freeAll (midS (out.foldl (doneOne buf) st) buf))))
theorem gParts_set_eq (g : Nat) (vl : Value) (l : List Cg) (bb nb : Nat) (opn : Int) (bs : List Bs) (nx : Int → Option Int) (i : Nat) (h : i < l.length) (c : Cg) (h1 : onA c = onA l[i]) (h2 : toA c = toA l[i]) :
    gParts g vl (l.set i c) bb nb opn bs nx = blkA g #[vl, .map (some bb), .int .i64 opn, .map (some nb)] 69 :: rowA 64 5 vl l.length (cellsL (l.set i c)) :: mpA bb (locF bs) :: mpA nb (intF nx) :: (l.map onA ++ (l.map toA ++ bs.map Bs.a)) := by
  have e1 : (l.set i c).map onA = l.map onA := by rw [List.map_set, h1, ← List.getElem_map onA (l := l) (h := by simpa using h), List.set_getElem_self]
  have e2 : (l.set i c).map toA = l.map toA := by rw [List.map_set, h2, ← List.getElem_map toA (l := l) (h := by simpa using h), List.set_getElem_self]
  unfold gParts
  rw [e1, e2, List.length_set]
theorem setF_del (s : Int → Bool) (k : Int) : (fun x => if x = k then none else setF s x) = setF (fun x => if x = k then false else s x) := by
  funext x
  unfold setF
  by_cases e : x = k
  · simp [e]
  · simp [e]
theorem intF_del (f : Int → Option Int) (k : Int) : (fun x => if x = k then none else intF f x) = intF (upd f k none) := by
  funext x
  unfold intF upd
  by_cases e : x = k
  · simp [e]
  · simp [e]
theorem locF_del {l1 l2 : List Bs} {b : Bs} (hn : ((l1 ++ b :: l2).map Bs.key).Nodup) : (fun x => if x = b.key then none else locF (l1 ++ b :: l2) x) = locF (l1 ++ l2) := by
  funext x
  unfold locF
  rw [bsAt_drop hn]
  by_cases e : x = b.key
  · simp [e]
  · simp [e]
theorem locF_none {bs : List Bs} {k : Int} (h : bsAt bs k = none) : (fun x => if x = k then none else locF bs x) = locF bs := by
  funext x
  by_cases e : x = k
  · rw [if_pos e, e]; unfold locF; rw [h]; rfl
  · rw [if_neg e]
theorem mem_someS {st : St} {buf : Int} {may : Bool} {x : Int} (h : x ∈ someS st buf may) : ∃ (i : Nat) (s : Int → Bool), x = (i : Int) ∧ i < st.l.length ∧ st.bufs buf = some s ∧ s x = true := by
  unfold someS at h
  obtain ⟨h1, h2⟩ := List.mem_filter.1 h
  obtain ⟨i, hi, rfl⟩ := List.mem_map.1 h1
  have := (Bool.and_eq_true_iff.1 h2).1
  cases hb : st.bufs buf with
  | none => rw [hb] at this; cases this
  | some s => rw [hb] at this; exact ⟨i, s, rfl, List.mem_range.1 hi, rfl, this⟩
theorem done_len (buf : Int) (ids : List Int) (st : St) : (ids.foldl (doneOne buf) st).l.length = st.l.length := by
  induction ids generalizing st with
  | nil => rfl
  | cons x ids ih => rw [List.foldl_cons, ih]; simp [doneOne]
theorem done_bufs (buf : Int) (ids : List Int) (st : St) {s : Int → Bool} (h : st.bufs buf = some s) : ∃ s', (ids.foldl (doneOne buf) st).bufs buf = some s' := by
  induction ids generalizing st s with
  | nil => exact ⟨s, h⟩
  | cons x ids ih =>
    rw [List.foldl_cons]
    refine ih (doneOne buf st x) (s := fun y => if y = x then false else s y) ?_
    simp [doneOne, upd, h]
theorem freeOne_len (ids : List Int) (st : St) : (ids.foldl freeOne st).l.length = st.l.length := by
  induction ids generalizing st with
  | nil => rfl
  | cons x ids ih => rw [List.foldl_cons, ih]; simp [freeOne]
theorem freeOnes_bufs (ids : List Int) (st : St) : (ids.foldl freeOne st).bufs = st.bufs := by
  induction ids generalizing st with
  | nil => rfl
  | cons x ids ih => rw [List.foldl_cons, ih]; rfl
theorem freeAll_len1 (st : St) (x : Int) : (freeAll st x).l.length = st.l.length := by unfold freeAll clearTo; simp [freeOne_len]
theorem freeAll_len (ids : List Int) (st : St) : (ids.foldl freeAll st).l.length = st.l.length := by
  induction ids generalizing st with
  | nil => rfl
  | cons x ids ih => rw [List.foldl_cons, ih, freeAll_len1]
theorem freeOne_to (st : St) (k : Int) (j : Nat) : ((freeOne st k).l.getD j zc).to = (st.l.getD j zc).to := by
  unfold freeOne
  by_cases hj : j < st.l.length
  · simp [hj, List.getElem_modify]
    split <;> rfl
  · simp [hj]
theorem freeOnes_to (ids : List Int) (st : St) (j : Nat) : ((ids.foldl freeOne st).l.getD j zc).to = (st.l.getD j zc).to := by
  induction ids generalizing st with
  | nil => rfl
  | cons x ids ih => rw [List.foldl_cons, ih, freeOne_to]
theorem wpList_len {P : Program} {w : World} {ops : Array Oper} {rest : List Oper} {o : Oper} {a : Act} {Q : Exit → Act → World → Prop} (hg : o.guard = none) (m : Operand) (t : TypeId) (hop : o.op = Op.call { callee := Callee.builtin Builtin.len, args := #[m], argTypes := #[t] })
    (mv v : Value) (hm : a.eval m = mv) (hrun : ∀ ty, (Builtin.len_ #[t] ty #[mv]).run P w = .ok v w) (hK : wpList P ops Q rest (a.put o.dst v) w) : wpList P ops Q (o :: rest) a w := by
  refine wpList_plain hg fun K' hK' => ?_
  unfold Oper.wp
  simp [execOp, hop, resolve, invoke, builtin, hm, hrun o.type, Result.andThen]
  exact hK' _ _ hK
theorem set_any {st : St} (hf : Fit st) {buf : Int} {s : Int → Bool} (hs : st.bufs buf = some s) {W : World} {b z : Nat} (hz : OwnV Try.prog 3 W b (setF s) z) : (z = 0 ↔ (List.range st.l.length).any (fun i => s (i : Int)) = false) := by
  rw [hz.empty_iff]
  constructor
  · intro h
    rw [List.any_eq_false]
    intro i _ hi
    have := h (i : Int)
    unfold setF at this
    rw [hi] at this
    simp at this
  · intro h x
    unfold setF
    cases hx : s x with
    | false => rfl
    | true =>
      obtain ⟨h0, h1⟩ := hf.set buf s hs x hx
      have := List.any_eq_false.1 h x.toNat (List.mem_range.2 (by omega))
      rw [Int.toNat_of_nonneg h0, hx] at this
      simp at this
end Go.Proofs.Ytjfejimghbohdaa
namespace Go.Proofs.Ytjfejimghbohdaa
set_option linter.unusedVariables false
set_option linter.unusedSimpArgs false
open Go.RowKit

/-- a change of the reference -/
structure Rc where
  buf : Int
  on : List Int
  done : Bool
def zr : Rc := ⟨0, [], false⟩
def rd (r : List Rc) (k : Int) : Rc := r.getD k.toNat zr
def cnt (r : List Rc) (on : List Int) : Nat := (on.filter (fun k => !(rd r k).done)).length
def toL (r : List Rc) (k : Nat) : List Int := (List.range r.length).flatMap (fun id => List.replicate ((r.getD id zr).on.count (k : Int)) (id : Int))
def ofC (r : List Rc) (k : Nat) : Chg := ⟨(r.getD k zr).buf, (r.getD k zr).on, (cnt r (r.getD k zr).on : Int), if (r.getD k zr).done then [] else toL r k, (r.getD k zr).done⟩
def openAt (r : List Rc) (b : Int) (i : Nat) : Bool := !(r.getD i zr).done && decide ((r.getD i zr).buf = b)
def mayAt (r : List Rc) (i : Nat) : Bool := decide (cnt r (r.getD i zr).on = 0)
def mayN (r : List Rc) (b : Int) : Nat := ((List.range r.length).filter (fun i => openAt r b i && mayAt r i)).length
def Of (r : List Rc) : St where
  l := (List.range r.length).map (ofC r)
  bufs := fun b => if (List.range r.length).any (openAt r b) then some (fun x => decide (0 ≤ x ∧ x < (r.length : Int)) && openAt r b x.toNat) else none
  opn := (((List.range r.length).filter (fun i => !(r.getD i zr).done)).length : Int)
  next := fun b => if mayN r b = 0 then none else some (mayN r b : Int)
structure WfR (r : List Rc) : Prop where
  on : ∀ i, i < r.length → ∀ x ∈ (r.getD i zr).on, 0 ≤ x ∧ x < (i : Int)
  closed : ∀ i, i < r.length → (r.getD i zr).done = true → ∀ x ∈ (r.getD i zr).on, (rd r x).done = true
theorem Of_len (r : List Rc) : (Of r).l.length = r.length := by simp [Of]
theorem Of_at {r : List Rc} {i : Nat} (h : i < r.length) : (Of r).l.getD i zc = ofC r i := by simp [Of, h]
theorem Of_nil : Of [] = zst := by
  unfold Of zst
  congr 1
theorem getD_app1 {α : Type} {a b : List α} {i : Nat} {z : α} (h : i < a.length) : (a ++ b).getD i z = a.getD i z := by
  rw [List.getD_eq_getElem?_getD, List.getD_eq_getElem?_getD, List.getElem?_append_left h]
theorem getD_app2 {α : Type} {a b : List α} {i : Nat} {z : α} (h : a.length ≤ i) : (a ++ b).getD i z = b.getD (i - a.length) z := by
  rw [List.getD_eq_getElem?_getD, List.getD_eq_getElem?_getD, List.getElem?_append_right h]
theorem getD_snoc {r : List Rc} {c : Rc} {i : Nat} (h : i < r.length) : (r ++ [c]).getD i zr = r.getD i zr := getD_app1 h
theorem getD_last {r : List Rc} {c : Rc} : (r ++ [c]).getD r.length zr = c := by simp
theorem rd_snoc {r : List Rc} {c : Rc} {x : Int} (h : 0 ≤ x ∧ x < (r.length : Int)) : rd (r ++ [c]) x = rd r x := getD_snoc (by omega)
theorem cnt_snoc {r : List Rc} {c : Rc} {on : List Int} (h : ∀ x ∈ on, 0 ≤ x ∧ x < (r.length : Int)) : cnt (r ++ [c]) on = cnt r on := by
  unfold cnt
  congr 1
  exact List.filter_congr fun x hx => by rw [rd_snoc (h x hx)]
theorem count_none {on : List Int} {k : Int} (h : ∀ x ∈ on, x < k) : on.count k = 0 := List.count_eq_zero.2 fun hk => by have := h k hk; omega
theorem WfR.lt {r : List Rc} (h : WfR r) {i : Nat} (hi : i < r.length) : ∀ x ∈ (r.getD i zr).on, 0 ≤ x ∧ x < (r.length : Int) := fun x hx => by have := h.on i hi x hx; omega
theorem toL_snoc {r : List Rc} {c : Rc} (h : WfR r) (k : Nat) : toL (r ++ [c]) k = toL r k ++ List.replicate (c.on.count (k : Int)) (r.length : Int) := by
  unfold toL
  rw [List.length_append, List.length_singleton, List.range_succ, List.flatMap_append]
  congr 1
  · have : ∀ (l : List Nat), (∀ i ∈ l, i < r.length) → l.flatMap (fun id => List.replicate (((r ++ [c]).getD id zr).on.count (k : Int)) (id : Int)) = l.flatMap (fun id => List.replicate ((r.getD id zr).on.count (k : Int)) (id : Int)) := by
      intro l
      induction l with
      | nil => intro _; rfl
      | cons a l ih =>
        intro hl
        rw [List.flatMap_cons, List.flatMap_cons, ih (fun i hi => hl i (List.mem_cons_of_mem _ hi)), getD_snoc (hl a List.mem_cons_self)]
    exact this _ (fun i hi => List.mem_range.1 hi)
  · simp
theorem toL_new {r : List Rc} {c : Rc} (h : WfR r) (hc : ∀ x ∈ c.on, 0 ≤ x ∧ x < (r.length : Int)) : toL (r ++ [c]) r.length = [] := by
  rw [toL_snoc h, count_none (fun x hx => (hc x hx).2)]
  unfold toL
  simp only [List.replicate_zero, List.append_nil]
  rw [List.flatMap_eq_nil_iff]
  intro i hi
  rw [count_none (fun x hx => ?_)]
  · rfl
  · have := h.on i (List.mem_range.1 hi) x hx
    have := List.mem_range.1 hi
    omega
theorem hangF_at (id : Int) (on : List Int) : ∀ (L : List Chg) (j : Nat), (∀ x ∈ on, 0 ≤ x ∧ x < (L.length : Int)) → j < L.length →
    (on.foldl (hangL id) L).getD j zc = if (L.getD j zc).done then L.getD j zc else ⟨(L.getD j zc).buf, (L.getD j zc).on, (L.getD j zc).left, (L.getD j zc).to ++ List.replicate (on.count (j : Int)) id, (L.getD j zc).done⟩ := by
  induction on with
  | nil =>
    intro L j _ hj
    simp only [List.foldl_nil, List.count_nil, List.replicate_zero, List.append_nil]
    split <;> rfl
  | cons k on ih =>
    intro L j hon hj
    rw [List.foldl_cons, ih (hangL id L k) j (fun x hx => by rw [hangL_len]; exact hon x (List.mem_cons_of_mem _ hx)) (by rw [hangL_len]; exact hj), hangL_done]
    have hk := hon k List.mem_cons_self
    by_cases hd : (L.getD j zc).done = true
    · rw [if_pos hd, if_pos hd]
      unfold hangL
      split
      · rfl
      · rename_i hkd
        have : k.toNat ≠ j := fun e => hkd (by rw [e]; exact hd)
        simp [List.getElem?_modify, this]
    · rw [if_neg hd, if_neg hd]
      by_cases e : k.toNat = j
      · have ek : k = (j : Int) := by omega
        have : (hangL id L k).getD j zc = ⟨(L.getD j zc).buf, (L.getD j zc).on, (L.getD j zc).left, (L.getD j zc).to ++ [id], (L.getD j zc).done⟩ := by
          unfold hangL
          rw [if_neg (by rw [e]; exact hd), e]
          simp [hj]
        rw [this, ek]
        simp [List.count_cons, List.replicate_succ]
      · have : (hangL id L k).getD j zc = L.getD j zc := by
          unfold hangL
          split
          · rfl
          · simp [List.getElem?_modify, e]
        rw [this, List.count_cons, if_neg (by simp; omega), Nat.add_zero]
theorem cntL_of {r : List Rc} {on : List Int} (h : ∀ x ∈ on, 0 ≤ x ∧ x < (r.length : Int)) : cntL (Of r).l on = cnt r on := by
  unfold cntL cnt
  congr 1
  refine List.filter_congr fun x hx => ?_
  rw [Of_at (by have := h x hx; omega)]
  rfl
theorem list_ext_getD {a b : List Chg} (hl : a.length = b.length) (h : ∀ i, i < a.length → a.getD i zc = b.getD i zc) : a = b := by
  refine List.ext_getElem hl fun i h1 h2 => ?_
  have := h i h1
  simpa [h1, h2] using this
theorem openAt_snoc {r : List Rc} {c : Rc} {b : Int} {i : Nat} (h : i < r.length) : openAt (r ++ [c]) b i = openAt r b i := by unfold openAt; rw [getD_snoc h]
theorem mayAt_snoc {r : List Rc} {c : Rc} (hr : WfR r) {i : Nat} (h : i < r.length) : mayAt (r ++ [c]) i = mayAt r i := by unfold mayAt; rw [getD_snoc h, cnt_snoc (hr.lt h)]
theorem mayN_snoc {r : List Rc} {c : Rc} (hr : WfR r) (hc : ∀ x ∈ c.on, 0 ≤ x ∧ x < (r.length : Int)) (hd : c.done = false) (b : Int) : mayN (r ++ [c]) b = mayN r b + if c.buf = b ∧ cnt r c.on = 0 then 1 else 0 := by
  unfold mayN
  rw [List.length_append, List.length_singleton, List.range_succ, List.filter_append, List.length_append]
  congr 1
  · congr 1
    exact List.filter_congr fun i hi => by rw [openAt_snoc (List.mem_range.1 hi), mayAt_snoc hr (List.mem_range.1 hi)]
  · rw [List.filter_cons]
    have e1 : openAt (r ++ [c]) b r.length = decide (c.buf = b) := by unfold openAt; rw [getD_last, hd]; rfl
    have e2 : mayAt (r ++ [c]) r.length = decide (cnt r c.on = 0) := by unfold mayAt; rw [getD_last, cnt_snoc hc]
    rw [e1, e2]
    by_cases h1 : c.buf = b <;> by_cases h2 : cnt r c.on = 0 <;> simp [h1, h2]
/-- what is added -/
theorem add_of {r : List Rc} (hr : WfR r) (buf : Int) (on : List Int) (hon : ∀ x ∈ on, 0 ≤ x ∧ x < (r.length : Int)) : addS (Of r) buf on = Of (r ++ [⟨buf, on, false⟩]) := by
  have hm := mayN_snoc (c := ⟨buf, on, false⟩) hr hon rfl
  unfold addS
  rw [cntL_of hon, Of_len]
  have e1 : (on.foldl (hangL (r.length : Int)) (Of r).l ++ [⟨buf, on, (cnt r on : Int), [], false⟩] : List Chg) = (Of (r ++ [⟨buf, on, false⟩])).l := by
    refine list_ext_getD (by simp [hangF_len, Of_len]) fun i hi => ?_
    rw [List.length_append, hangF_len, Of_len, List.length_singleton] at hi
    rw [Of_at (by simp; omega)]
    by_cases h : i < r.length
    · rw [getD_app1 (by rw [hangF_len, Of_len]; exact h), hangF_at _ _ _ _ (by rw [Of_len]; exact hon) (by rw [Of_len]; exact h), Of_at h]
      unfold ofC
      rw [getD_snoc h, cnt_snoc (hr.lt h), toL_snoc hr]
      generalize r.getD i zr = c
      obtain ⟨cb, co, cd⟩ := c
      cases cd <;> simp
    · obtain rfl : i = r.length := by omega
      rw [getD_app2 (by rw [hangF_len, Of_len]; omega), hangF_len, Of_len]
      unfold ofC
      rw [getD_last, toL_new hr hon, cnt_snoc hon]
      simp
  rw [e1]
  have e2 : upd (Of r).bufs buf (some (fun x => if x = (r.length : Int) then true else setOr ((Of r).bufs buf) x)) = (Of (r ++ [⟨buf, on, false⟩])).bufs := by
    funext b
    unfold upd
    have hany : (List.range (r ++ [(⟨buf, on, false⟩ : Rc)]).length).any (openAt (r ++ [⟨buf, on, false⟩]) b) = ((List.range r.length).any (openAt r b) || decide (buf = b)) := by
      rw [List.length_append, List.length_singleton, List.range_succ, List.any_append]
      congr 1
      · rw [Bool.eq_iff_iff, List.any_eq_true, List.any_eq_true]
        constructor
        · rintro ⟨i, hi, h⟩; exact ⟨i, hi, by rwa [openAt_snoc (List.mem_range.1 hi)] at h⟩
        · rintro ⟨i, hi, h⟩; exact ⟨i, hi, by rwa [openAt_snoc (List.mem_range.1 hi)]⟩
      · simp [openAt]
    by_cases hb : b = buf
    · subst hb
      rw [if_pos rfl]
      show _ = (if (List.range (r ++ [(⟨b, on, false⟩ : Rc)]).length).any (openAt (r ++ [⟨b, on, false⟩]) b) = true then _ else _)
      rw [hany, if_pos (by simp)]
      congr 1
      funext x
      by_cases hx : x = (r.length : Int)
      · subst hx
        rw [if_pos rfl, Int.toNat_natCast]
        simp [openAt]
        omega
      · rw [if_neg hx]
        show setOr (if (List.range r.length).any (openAt r b) = true then _ else _) x = _
        by_cases hin : 0 ≤ x ∧ x < (r.length : Int)
        · have h2 : 0 ≤ x ∧ x < ((r ++ [(⟨b, on, false⟩ : Rc)]).length : Int) := ⟨hin.1, by simp; omega⟩
          rw [openAt_snoc (by omega)]
          by_cases ha : (List.range r.length).any (openAt r b) = true
          · rw [if_pos ha]; simp only [setOr, hin, h2]
          · rw [if_neg ha]
            have : openAt r b x.toNat = false := by
              have ha' : (List.range r.length).any (openAt r b) = false := by simpa using ha
              have := List.any_eq_false.1 ha' x.toNat (List.mem_range.2 (by omega))
              simpa using this
            simp [setOr, this]
        · have h2 : ¬ (0 ≤ x ∧ x < ((r ++ [(⟨b, on, false⟩ : Rc)]).length : Int)) := by rw [List.length_append, List.length_singleton]; omega
          have e3 : decide (0 ≤ x ∧ x < (r.length : Int)) = false := by simpa using hin
          have e4 : decide (0 ≤ x ∧ x < ((r ++ [(⟨b, on, false⟩ : Rc)]).length : Int)) = false := by rw [decide_eq_false_iff_not]; exact h2
          rw [e4]
          split
          · simp only [setOr, e3, Bool.false_and]
          · rfl
    · rw [if_neg hb]
      show (if (List.range r.length).any (openAt r b) = true then _ else _) = (if (List.range (r ++ [(⟨buf, on, false⟩ : Rc)]).length).any (openAt (r ++ [⟨buf, on, false⟩]) b) = true then _ else _)
      rw [hany, show decide (buf = b) = false from by simp; exact fun h => hb h.symm, Bool.or_false]
      by_cases ha : (List.range r.length).any (openAt r b) = true
      · rw [if_pos ha, if_pos ha]
        congr 1
        funext x
        by_cases hin : 0 ≤ x ∧ x < (r.length : Int)
        · have h2 : 0 ≤ x ∧ x < ((r ++ [(⟨buf, on, false⟩ : Rc)]).length : Int) := ⟨hin.1, by simp; omega⟩
          rw [openAt_snoc (by omega)]
          simp only [hin, h2]
        · by_cases hx : x = (r.length : Int)
          · subst hx
            have : openAt (r ++ [(⟨buf, on, false⟩ : Rc)]) b (r.length : Int).toNat = false := by
              rw [Int.toNat_natCast]; unfold openAt; rw [getD_last]; simp; exact fun h => hb h.symm
            rw [this]; simp
          · have e3 : decide (0 ≤ x ∧ x < (r.length : Int)) = false := by simpa using hin
            have e4 : decide (0 ≤ x ∧ x < ((r ++ [(⟨buf, on, false⟩ : Rc)]).length : Int)) = false := by rw [decide_eq_false_iff_not, List.length_append, List.length_singleton]; omega
            rw [e3, e4, Bool.false_and, Bool.false_and]
      · rw [if_neg ha, if_neg ha]
  rw [e2]
  have e3 : (Of r).opn + 1 = (Of (r ++ [⟨buf, on, false⟩])).opn := by
    show ((_ : Nat) : Int) + 1 = ((_ : Nat) : Int)
    rw [List.length_append, List.length_singleton, List.range_succ, List.filter_append, List.length_append]
    have h1 : (List.range r.length).filter (fun i => !((r ++ [(⟨buf, on, false⟩ : Rc)]).getD i zr).done) = (List.range r.length).filter (fun i => !(r.getD i zr).done) := List.filter_congr fun i hi => by rw [getD_snoc (List.mem_range.1 hi)]
    rw [h1]
    simp
  rw [e3]
  have e4 : (if cnt r on = 0 then upd (Of r).next buf (some (((Of r).next buf).getD 0 + 1)) else (Of r).next) = (Of (r ++ [⟨buf, on, false⟩])).next := by
    funext b
    have hmb := hm b
    simp only at hmb
    show _ = (if mayN (r ++ [⟨buf, on, false⟩]) b = 0 then none else some ((mayN (r ++ [⟨buf, on, false⟩]) b : Nat) : Int))
    by_cases hc : cnt r on = 0
    · rw [if_pos hc]
      unfold upd
      by_cases hb : b = buf
      · subst hb
        rw [if_pos ⟨rfl, hc⟩] at hmb
        rw [if_pos rfl, hmb, if_neg (by omega)]
        show some ((if mayN r b = 0 then none else some ((mayN r b : Nat) : Int)).getD 0 + 1) = _
        by_cases h0 : mayN r b = 0
        · rw [if_pos h0, h0]; rfl
        · rw [if_neg h0]; simp
      · rw [if_neg (fun h => hb h.1.symm), Nat.add_zero] at hmb
        rw [if_neg hb, hmb]; rfl
    · rw [if_neg (fun h => hc h.2), Nat.add_zero] at hmb
      rw [if_neg hc, hmb]; rfl
  rw [e4]
end Go.Proofs.Ytjfejimghbohdaa
namespace Go.Proofs.Ytjfejimghbohdaa
set_option linter.unusedVariables false
set_option linter.unusedSimpArgs false
open Go.RowKit

def castL (l : List Nat) : List Int := l.map (fun i : Nat => (i : Int))
def nextR (r : List Rc) (b : Int) : List Int := castL ((List.range r.length).filter (fun i => openAt r b i && mayAt r i))
def blockedR (r : List Rc) (b : Int) : List Int := castL ((List.range r.length).filter (fun i => openAt r b i && !mayAt r i))
def setD (r : List Rc) (o : List Int) : List Rc := (List.range r.length).map (fun i => ⟨(r.getD i zr).buf, (r.getD i zr).on, (r.getD i zr).done || decide ((i : Int) ∈ o)⟩)
def writtenR (r : List Rc) (b : Int) : List Rc := setD r (nextR r b)
theorem setD_len (r : List Rc) (o : List Int) : (setD r o).length = r.length := by simp [setD]
theorem setD_at {r : List Rc} {o : List Int} {i : Nat} (h : i < r.length) : (setD r o).getD i zr = ⟨(r.getD i zr).buf, (r.getD i zr).on, (r.getD i zr).done || decide ((i : Int) ∈ o)⟩ := by simp [setD, h]
theorem Of_bufs {r : List Rc} {b : Int} {x : Int} : setOr ((Of r).bufs b) x = (decide (0 ≤ x ∧ x < (r.length : Int)) && openAt r b x.toNat) := by
  show setOr (if (List.range r.length).any (openAt r b) = true then _ else _) x = _
  by_cases ha : (List.range r.length).any (openAt r b) = true
  · rw [if_pos ha]; rfl
  · rw [if_neg ha]
    have ha' : (List.range r.length).any (openAt r b) = false := by simpa using ha
    by_cases hin : 0 ≤ x ∧ x < (r.length : Int)
    · have := List.any_eq_false.1 ha' x.toNat (List.mem_range.2 (by omega))
      have h2 : openAt r b x.toNat = false := by simpa using this
      rw [h2, Bool.and_false]; rfl
    · rw [decide_eq_false_iff_not.2 hin, Bool.false_and]; rfl
theorem someS_of (r : List Rc) (b : Int) (may : Bool) : someS (Of r) b may = castL ((List.range r.length).filter (fun i => openAt r b i && (mayAt r i == may))) := by
  unfold someS castL
  rw [Of_len, List.filter_map]
  congr 1
  refine List.filter_congr fun i hi => ?_
  have hi := List.mem_range.1 hi
  have h1 : (match (Of r).bufs b with | some s => s (i : Int) | none => false) = openAt r b i := by
    have := Of_bufs (r := r) (b := b) (x := (i : Int))
    unfold setOr at this
    rw [Int.toNat_natCast, decide_eq_true (show 0 ≤ (i : Int) ∧ (i : Int) < (r.length : Int) from ⟨by omega, by omega⟩), Bool.true_and] at this
    exact this
  have h2 : (at_ (Of r) (i : Int)).left = (cnt r (r.getD i zr).on : Int) := by
    unfold at_
    rw [Int.toNat_natCast, Of_at hi]; rfl
  show ((match (Of r).bufs b with | some s => s (i : Int) | none => false) && (decide ((at_ (Of r) (i : Int)).left = 0) == may)) = _
  rw [h1, h2]
  unfold mayAt
  congr 2
  rw [decide_eq_decide]
  omega
theorem next_of (r : List Rc) (b : Int) : nextS (Of r) b = nextR r b := by
  unfold nextS nextR
  rw [someS_of]
  congr 2
  funext i
  cases mayAt r i <;> simp
theorem blocked_of (r : List Rc) (b : Int) : blockedS (Of r) b = blockedR r b := by
  unfold blockedS blockedR
  rw [someS_of]
  congr 2
  funext i
  cases mayAt r i <;> simp
theorem mem_castL {l : List Nat} {i : Nat} : (i : Int) ∈ castL l ↔ i ∈ l := by
  unfold castL
  rw [List.mem_map]
  constructor
  · rintro ⟨j, hj, e⟩; have : j = i := by omega
    exact this ▸ hj
  · exact fun h => ⟨i, h, rfl⟩
theorem nodup_castL {l : List Nat} (h : l.Nodup) : (castL l).Nodup := by
  unfold castL
  exact List.pairwise_map.2 (h.imp (fun {a b} h e => h (by omega)))
theorem mem_nextR {r : List Rc} {b : Int} {i : Nat} : (i : Int) ∈ nextR r b ↔ i < r.length ∧ openAt r b i = true ∧ mayAt r i = true := by
  unfold nextR
  rw [mem_castL, List.mem_filter, List.mem_range, Bool.and_eq_true]
theorem nextR_nodup (r : List Rc) (b : Int) : (nextR r b).Nodup := nodup_castL (List.nodup_range.filter _)
theorem nextR_range {r : List Rc} {b : Int} {x : Int} (h : x ∈ nextR r b) : 0 ≤ x ∧ x < (r.length : Int) := by
  unfold nextR castL at h
  obtain ⟨i, hi, rfl⟩ := List.mem_map.1 h
  have := List.mem_range.1 (List.mem_filter.1 hi).1
  omega

/-! the first loop -/
def DDg (b : Int) (st : St) (o : List Int) : St where
  l := (List.range st.l.length).map (fun i => ⟨(st.l.getD i zc).buf, (st.l.getD i zc).on, (st.l.getD i zc).left, (st.l.getD i zc).to, (st.l.getD i zc).done || decide ((i : Int) ∈ o)⟩)
  bufs := upd st.bufs b ((st.bufs b).map (fun s x => s x && !decide (x ∈ o)))
  opn := st.opn - o.length
  next := st.next
theorem st_ext {a b : St} (h1 : a.l = b.l) (h2 : ∀ x, a.bufs x = b.bufs x) (h3 : a.opn = b.opn) (h4 : ∀ x, a.next x = b.next x) : a = b := by
  obtain ⟨al, ab, ao, an⟩ := a
  obtain ⟨bl, bb, bo, bn⟩ := b
  simp only at h1 h2 h3 h4
  rw [h1, h3, funext h2, funext h4]
theorem done_closed (b : Int) (o : List Int) : ∀ st : St, (∀ x ∈ o, 0 ≤ x ∧ x < (st.l.length : Int)) → o.foldl (doneOne b) st = DDg b st o := by
  induction o with
  | nil =>
    intro st _
    refine st_ext (list_ext_getD (by simp [DDg]) fun i hi => ?_) (fun x => ?_) (by simp [DDg]) (fun x => rfl)
    · have hi' : i < st.l.length := hi
      simp [DDg, hi']
    · show st.bufs x = upd _ _ _ x
      unfold upd
      by_cases e : x = b
      · rw [if_pos e, e]; cases st.bufs b <;> simp
      · rw [if_neg e]
  | cons k o ih =>
    intro st ho
    have hk := ho k List.mem_cons_self
    have hl : (doneOne b st k).l.length = st.l.length := by simp [doneOne]
    rw [List.foldl_cons, ih _ (fun x hx => by rw [hl]; exact ho x (List.mem_cons_of_mem _ hx))]
    refine st_ext (list_ext_getD (by simp [DDg, hl]) fun i hi => ?_) (fun x => ?_) ?_ (fun x => rfl)
    · have hi' : i < st.l.length := by simpa [DDg, hl] using hi
      have h1 : (DDg b (doneOne b st k) o).l.getD i zc = ⟨((doneOne b st k).l.getD i zc).buf, ((doneOne b st k).l.getD i zc).on, ((doneOne b st k).l.getD i zc).left, ((doneOne b st k).l.getD i zc).to, ((doneOne b st k).l.getD i zc).done || decide ((i : Int) ∈ o)⟩ := by simp [DDg, hl, hi']
      have h2 : (DDg b st (k :: o)).l.getD i zc = ⟨(st.l.getD i zc).buf, (st.l.getD i zc).on, (st.l.getD i zc).left, (st.l.getD i zc).to, (st.l.getD i zc).done || decide ((i : Int) ∈ k :: o)⟩ := by simp [DDg, hi']
      have h3 : (doneOne b st k).l.getD i zc = if k.toNat = i then ⟨(st.l.getD i zc).buf, (st.l.getD i zc).on, (st.l.getD i zc).left, (st.l.getD i zc).to, true⟩ else st.l.getD i zc := by
        simp [doneOne, hi', List.getElem_modify]
      rw [h1, h2, h3]
      by_cases e : k.toNat = i
      · rw [if_pos e]
        have : (i : Int) = k := by omega
        simp [this]
      · rw [if_neg e]
        have : ¬ ((i : Int) = k) := by omega
        simp [this]
    · show upd _ _ _ x = upd _ _ _ x
      unfold upd
      by_cases e : x = b
      · rw [if_pos e, if_pos e]
        show ((if b = b then _ else _ : Option (Int → Bool))).map _ = _
        rw [if_pos rfl]
        cases st.bufs b with
        | none => rfl
        | some s =>
          simp only [Option.map_some]
          congr 1
          funext y
          by_cases ey : y = k
          · simp [ey]
          · simp [ey]
      · rw [if_neg e, if_neg e]
        show (if x = b then _ else _ : Option (Int → Bool)) = _
        rw [if_neg e]
    · show st.opn - 1 - (o.length : Int) = st.opn - ((k :: o).length : Int)
      simp; omega

/-! the second loop -/
theorem filter_one {N k : Nat} {p q : Nat → Bool} (hk : k < N) (hp : p k = true) (hq : q k = false) (he : ∀ i, i < N → i ≠ k → p i = q i) : ((List.range N).filter p).length = ((List.range N).filter q).length + 1 := by
  induction N with
  | zero => omega
  | succ N ih =>
    rw [List.range_succ, List.filter_append, List.filter_append, List.length_append, List.length_append]
    by_cases e : k = N
    · subst e
      have : (List.range k).filter p = (List.range k).filter q := List.filter_congr fun i hi => by have := List.mem_range.1 hi; exact he i (by omega) (by omega)
      rw [this]
      simp [List.filter_cons, hp, hq]
    · rw [ih (by omega) (fun i hi hne => he i (by omega) hne)]
      have : p N = q N := he N (by omega) (fun h => e h.symm)
      simp [List.filter_cons, this]
      omega
def hits (st : St) (es : List Int) (b : Int) : Nat := ((List.range st.l.length).filter (fun i => decide ((st.l.getD i zc).buf = b) && (decide (0 < (st.l.getD i zc).left) && decide ((st.l.getD i zc).left = (es.count (i : Int) : Int))))).length
def FF (st : St) (es : List Int) : St where
  l := (List.range st.l.length).map (fun i => ⟨(st.l.getD i zc).buf, (st.l.getD i zc).on, (st.l.getD i zc).left - (es.count (i : Int) : Int), (st.l.getD i zc).to, (st.l.getD i zc).done⟩)
  bufs := st.bufs
  opn := st.opn
  next := fun b => if hits st es b = 0 then st.next b else some ((st.next b).getD 0 + (hits st es b : Int))
theorem freeOne_at {st : St} {k : Int} {i : Nat} (hi : i < st.l.length) : (freeOne st k).l.getD i zc = if k.toNat = i then ⟨(st.l.getD i zc).buf, (st.l.getD i zc).on, (st.l.getD i zc).left - 1, (st.l.getD i zc).to, (st.l.getD i zc).done⟩ else st.l.getD i zc := by
  simp [freeOne, hi, List.getElem_modify]
theorem hits_cons {st : St} {k : Nat} {es : List Int} (hk : k < st.l.length) (hle : ∀ i, i < st.l.length → (((k : Int) :: es).count (i : Int) : Int) ≤ (st.l.getD i zc).left) (b : Int) :
    hits st ((k : Int) :: es) b = hits (freeOne st (k : Int)) es b + if (st.l.getD k zc).left = 1 ∧ (st.l.getD k zc).buf = b then 1 else 0 := by
  have hl : (freeOne st (k : Int)).l.length = st.l.length := by simp [freeOne]
  have hck : (((k : Int) :: es).count (k : Int) : Int) = es.count (k : Int) + 1 := by rw [List.count_cons_self]; rfl
  have hother : ∀ i, i ≠ k → ((k : Int) :: es).count (i : Int) = es.count (i : Int) := fun i hi => by rw [List.count_cons, if_neg (by simp; omega), Nat.add_zero]
  have hlk := hle k hk
  rw [hck] at hlk
  have hfk := freeOne_at (k := (k : Int)) hk
  rw [if_pos (by simp)] at hfk
  have hne : ∀ i, i < st.l.length → i ≠ k → (decide ((st.l.getD i zc).buf = b) && (decide (0 < (st.l.getD i zc).left) && decide ((st.l.getD i zc).left = (((k : Int) :: es).count (i : Int) : Int)))) =
      (decide (((freeOne st (k : Int)).l.getD i zc).buf = b) && (decide (0 < ((freeOne st (k : Int)).l.getD i zc).left) && decide (((freeOne st (k : Int)).l.getD i zc).left = (es.count (i : Int) : Int)))) := fun i hi hik => by
    rw [freeOne_at hi, if_neg (by simp; omega), hother i hik]
  unfold hits
  rw [hl]
  by_cases h1 : (st.l.getD k zc).left = 1 ∧ (st.l.getD k zc).buf = b
  · rw [if_pos h1]
    have hz : es.count (k : Int) = 0 := by rw [h1.1] at hlk; omega
    refine filter_one hk ?_ ?_ hne
    · rw [hck, hz, h1.1, h1.2]; simp
    · rw [hfk, h1.1]; simp
  · rw [if_neg h1, Nat.add_zero]
    congr 1
    refine List.filter_congr fun i hi => ?_
    have hi := List.mem_range.1 hi
    by_cases e : i = k
    · subst e
      rw [hfk, hck]
      by_cases hb : (st.l.getD i zc).buf = b
      · have hl1 : (st.l.getD i zc).left ≠ 1 := fun h => h1 ⟨h, hb⟩
        have e1 : decide (0 < (st.l.getD i zc).left) = decide (0 < (st.l.getD i zc).left - 1) := by rw [decide_eq_decide]; omega
        have e2 : decide ((st.l.getD i zc).left = ((es.count (i : Int) : Nat) : Int) + 1) = decide ((st.l.getD i zc).left - 1 = ((es.count (i : Int) : Nat) : Int)) := by rw [decide_eq_decide]; omega
        rw [e1, e2]
      · have hb' : decide ((st.l.getD i zc).buf = b) = false := decide_eq_false hb
        simp only [hb', Bool.false_and]
    · exact hne i hi e
theorem free_closed (es : List Int) : ∀ st : St, (∀ x ∈ es, 0 ≤ x ∧ x < (st.l.length : Int)) → (∀ i, i < st.l.length → (es.count (i : Int) : Int) ≤ (st.l.getD i zc).left) → es.foldl freeOne st = FF st es := by
  induction es with
  | nil =>
    intro st _ _
    refine st_ext (list_ext_getD (by simp [FF]) fun i hi => ?_) (fun x => rfl) rfl (fun x => ?_)
    · have hi' : i < st.l.length := hi
      simp [FF, hi']
    · show st.next x = if hits st [] x = 0 then _ else _
      rw [if_pos]
      unfold hits
      rw [List.length_eq_zero_iff, List.filter_eq_nil_iff]
      intro i _ h
      simp at h
      omega
  | cons k es ih =>
    intro st hr hle
    have hk := hr k List.mem_cons_self
    obtain ⟨k, rfl⟩ := Int.eq_ofNat_of_zero_le hk.1
    have hk' : k < st.l.length := by omega
    have hl : (freeOne st (k : Int)).l.length = st.l.length := by simp [freeOne]
    have hle' : ∀ i, i < (freeOne st (k : Int)).l.length → (es.count (i : Int) : Int) ≤ ((freeOne st (k : Int)).l.getD i zc).left := fun i hi => by
      rw [hl] at hi
      have := hle i hi
      rw [freeOne_at hi, List.count_cons] at *
      by_cases e : k = i
      · subst e
        rw [if_pos (by simp)] at *
        show _ ≤ (st.l.getD k zc).left - 1
        omega
      · rw [if_neg (by simp; omega)]
        omega
    rw [List.foldl_cons, ih _ (fun x hx => by rw [hl]; exact hr x (List.mem_cons_of_mem _ hx)) hle']
    refine st_ext (list_ext_getD (by simp [FF, hl]) fun i hi => ?_) (fun x => rfl) rfl (fun b => ?_)
    · have hi' : i < st.l.length := by simpa [FF, hl] using hi
      have h1 : (FF (freeOne st (k : Int)) es).l.getD i zc = ⟨((freeOne st (k : Int)).l.getD i zc).buf, ((freeOne st (k : Int)).l.getD i zc).on, ((freeOne st (k : Int)).l.getD i zc).left - (es.count (i : Int) : Int), ((freeOne st (k : Int)).l.getD i zc).to, ((freeOne st (k : Int)).l.getD i zc).done⟩ := by simp [FF, hl, hi']
      have h2 : (FF st ((k : Int) :: es)).l.getD i zc = ⟨(st.l.getD i zc).buf, (st.l.getD i zc).on, (st.l.getD i zc).left - (((k : Int) :: es).count (i : Int) : Int), (st.l.getD i zc).to, (st.l.getD i zc).done⟩ := by simp [FF, hi']
      rw [h1, h2, freeOne_at hi', List.count_cons]
      by_cases e : k = i
      · subst e
        rw [if_pos (by simp), if_pos (by simp)]
        congr 1
        simp; omega
      · rw [if_neg (by simp; omega), if_neg (by simp; omega), Nat.add_zero]
    · show (if hits (freeOne st (k : Int)) es b = 0 then (freeOne st (k : Int)).next b else some (((freeOne st (k : Int)).next b).getD 0 + (hits (freeOne st (k : Int)) es b : Int))) = (if hits st ((k : Int) :: es) b = 0 then st.next b else some ((st.next b).getD 0 + (hits st ((k : Int) :: es) b : Int)))
      have hat : at_ st (k : Int) = st.l.getD k zc := by unfold at_; rw [Int.toNat_natCast]
      have hnx : (freeOne st (k : Int)).next b = if (st.l.getD k zc).left = 1 ∧ (st.l.getD k zc).buf = b then some ((st.next b).getD 0 + 1) else st.next b := by
        show (if (at_ st (k : Int)).left - 1 = 0 then upd st.next (at_ st (k : Int)).buf (some ((st.next (at_ st (k : Int)).buf).getD 0 + 1)) else st.next) b = _
        rw [hat]
        by_cases h1 : (st.l.getD k zc).left = 1
        · rw [if_pos (by omega)]
          unfold upd
          by_cases h2 : (st.l.getD k zc).buf = b
          · rw [if_pos h2.symm, if_pos ⟨h1, h2⟩, h2]
          · rw [if_neg (fun h => h2 h.symm), if_neg (fun h => h2 h.2)]
        · rw [if_neg (by omega), if_neg (fun h => h1 h.1)]
      rw [hits_cons hk' hle, hnx]
      by_cases h1 : (st.l.getD k zc).left = 1 ∧ (st.l.getD k zc).buf = b
      · rw [if_pos h1, if_pos h1, if_neg (show ¬ hits (freeOne st (k : Int)) es b + 1 = 0 by omega)]
        by_cases h0 : hits (freeOne st (k : Int)) es b = 0
        · rw [if_pos h0, h0]; simp
        · rw [if_neg h0]
          simp only [Option.getD_some]
          congr 1
          omega
      · rw [if_neg h1, if_neg h1, Nat.add_zero]
end Go.Proofs.Ytjfejimghbohdaa
