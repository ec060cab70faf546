/-
  What lies in memory while a table is copied. No condition.
-/
import Derived.Test.YtcmiboipgngjaaaCl
import Derived.Test.YtcmiboipgngjaaaQ
namespace Go.Proofs.Ytcmiboipgngjaaa
set_option linter.unusedVariables false
set_option linter.unusedSimpArgs false
open Go.RowKit Go.Maps

def atT (l : List Tm) (k : Int) : Option Tm := l.find? (fun t => t.n == k)
def Tm.hw (t : Tm) : List Lk × List Lk := (t.h, t.w)
theorem below_none {a c : World} (h : a.grownBy c none) : Below a.heap.size a c := (Below.refl _ _).grown h (Nat.le_refl _) (fun k hk => by cases hk)
theorem atT_mem {l : List Tm} {k : Int} {t : Tm} (h : atT l k = some t) : t ∈ l ∧ t.n = k := ⟨List.mem_of_find?_eq_some h, by have := List.find?_some h; simpa using this⟩
theorem locT_isSome {l : List Tm} {k : Int} : (locT l k).isSome = (atT l k).isSome := by unfold locT atT; cases l.find? (fun t => t.n == k) <;> rfl
theorem atT_snoc {l : List Tm} {t : Tm} (h : atT l t.n = none) (k : Int) : atT (l ++ [t]) k = if k = t.n then some t else atT l k := by
  unfold atT at h ⊢
  rw [List.find?_append]
  by_cases e : k = t.n
  · subst e; rw [h, if_pos rfl]; simp
  · have : ¬ t.n = k := fun x => e x.symm
    rw [if_neg e]; simp [this]
theorem keysT_snoc {l : List Tm} {t : Tm} (h : atT l t.n = none) (hn : (l.map Tm.n).Nodup) : ((l ++ [t]).map Tm.n).Nodup := by
  rw [List.map_append, List.nodup_append]
  refine ⟨hn, by simp, fun a ha b hb e => ?_⟩
  obtain ⟨x, hx, rfl⟩ := List.mem_map.1 ha
  rw [List.map_singleton, List.mem_singleton] at hb
  have := List.find?_eq_none.1 h x hx
  simp [e, hb] at this
structure CpP (n : Nat) (w : World) (g' bt' bw' bt it : Nat) (l : List Tm) (f : Int → Option Lk) (Y : List Atom) (left : Int → Bool) (cnt : Nat) (W : World) : Prop where
  ex : ∃ l' om oi, RngV Try.prog 3 W bt it (locT l) left cnt ∧ W.heap[bt]? = some om ∧ W.heap[it]? = some oi ∧ (∀ x, (atT l' x).map Tm.hw = if left x then none else (atT l x).map Tm.hw) ∧ (l'.map Tm.n).Nodup ∧ Own n w W (objA it oi :: objA bt om :: (tParts g' bt' bw' l' f ++ Y))
section
variable {n g g' bt bt' bw bw' : Nat} {w W : World} {F Y : List Atom} {l l' : List Tm} {f : Int → Option Lk}
theorem CpP.start {cnt : Nat} {W1 : World} (ho : Own n w W (mpA bt (locT l) :: (tParts g' bt' bw' [] f ++ Y))) (hr : RngV Try.prog 3 W1 bt W.heap.size (locT l) (fun x => ((locT l) x).isSome) cnt) (hg : W.grownBy W1 none) :
    CpP n w g' bt' bw' bt W.heap.size l f Y (fun x => ((locT l) x).isSome) cnt W1 := by
  obtain ⟨-, om, oi, h1, h2⟩ := hr.objs
  refine ⟨[], om, oi, hr, h1, h2, fun x => ?_, List.nodup_nil, ?_⟩
  · show none = _
    rw [locT_isSome]
    cases h : atT l x with
    | none => rfl
    | some b => rfl
  · have h3 := ho.more (a := objA W.heap.size oi) (below_none hg) h2 (fun k hk => by cases hk; exact Nat.le_refl _)
    exact (h3.f1.turn (a' := objA bt om) rfl h1).f1
theorem CpP.next {it cnt1 : Nat} {left1 : Int → Bool} {W1 : World} {oi : Obj} {R : List Atom} (ho : Own n w W (objA it oi :: R)) (hr : RngV Try.prog 3 W1 bt it (locT l) left1 cnt1) (hg : W.grownBy W1 (some it)) :
    ∃ oi1, Own n w W1 (objA it oi1 :: R) := by
  obtain ⟨-, om1, oi1, h1, h2⟩ := hr.objs
  exact ⟨oi1, ho.grow (a' := objA it oi1) hg (fun k hk => .inl hk) h2⟩
/-- the new thing is hung into the new table -/
theorem CpP.put {x : Int} {t : Tm} {v1 v2 : Value} {R : List Atom} (ho : Own n w W (offA 3 v2 t.w.length (cellsK t.w) :: offA 3 v1 t.h.length (cellsK t.h) :: (R ++ (tParts g' bt' bw' l' f ++ Y)))) (hx : atT l' x = none) (m : List Int) (hm : ∀ y, (atT l' y).isSome = true → y ∈ m) (hml : m.length < 1099511627776) (hwf : (Lit.int .i64 x).wf = true) :
    ∃ W4, (Instr.mapUpdate 50 (.map (some bt')) (.int .i64 x) (.pointer (some ⟨W.heap.size, 0, none⟩))).run Try.prog (W.alloc (.cells #[v1, v2] 59)) = .ok () W4 ∧ Own n w W4 (R ++ (tParts g' bt' bw' (l' ++ [⟨x, W.heap.size, v1, v2, t.h, t.w⟩]) f ++ Y)) := by
  have h1 := ho.newBlk #[v1, v2] 59
  have h2 : Own n w (W.alloc (.cells #[v1, v2] 59)) (mpA bt' (locT l') :: (blkA W.heap.size #[v1, v2] 59 :: offA 3 v2 t.w.length (cellsK t.w) :: offA 3 v1 t.h.length (cellsK t.h) :: (R ++ (blkA g' #[.map (some bt'), .map (some bw')] 53 :: mpA bw' (waitF f) :: (l'.flatMap Tm.parts ++ Y))))) := h1.perm (by
    unfold tParts tPartsM
    simpa using permB [[blkA W.heap.size #[v1, v2] 59], [offA 3 v2 t.w.length (cellsK t.w)], [offA 3 v1 t.h.length (cellsK t.h)], R, [blkA g' #[.map (some bt'), .map (some bw')] 53], [mpA bt' (locT l')], [mpA bw' (waitF f)], l'.flatMap Tm.parts, Y] [0, 1, 2, 3, 4, 5, 6, 7, 8] [5, 0, 1, 2, 3, 4, 6, 7, 8] (by decide))
  obtain ⟨W4, hrun, h4, -⟩ := put_mp h2 50 54 Try.underlying50 m (fun y hy => hm y (by rwa [locT_isSome] at hy)) hml x (.pointer (some ⟨W.heap.size, 0, none⟩)) hwf
  refine ⟨W4, hrun, h4.perm ?_⟩
  unfold tParts tPartsM
  rw [locT_snoc (t := ⟨x, W.heap.size, v1, v2, t.h, t.w⟩) hx]
  simpa [Tm.parts] using permB [[mpA bt' (fun y => if y = x then some (.pointer (some ⟨W.heap.size, 0, none⟩)) else locT l' y)], [blkA W.heap.size #[v1, v2] 59], [offA 3 v2 t.w.length (cellsK t.w)], [offA 3 v1 t.h.length (cellsK t.h)], R, [blkA g' #[.map (some bt'), .map (some bw')] 53], [mpA bw' (waitF f)], l'.flatMap Tm.parts, Y] [0, 1, 2, 3, 4, 5, 6, 7, 8] [4, 5, 0, 6, 7, 1, 3, 2, 8] (by decide)
theorem CpP.step {it cnt1 : Nat} {left : Int → Bool} {W1 : World} {om oi : Obj} {x : Int} {t t1 : Tm} (hr : RngV Try.prog 3 W1 bt it (locT l) (fun z => left z && !decide (z = x)) cnt1) (hm1 : W1.heap[bt]? = some om) (hi1 : W1.heap[it]? = some oi)
    (hset : ∀ x, (atT l' x).map Tm.hw = if left x then none else (atT l x).map Tm.hw) (hnd : (l'.map Tm.n).Nodup) (hlx : left x = true) (ht : atT l x = some t) (e1 : t1.n = x) (e2 : t1.hw = t.hw)
    (ho : Own n w W (objA it oi :: objA bt om :: (tParts g' bt' bw' (l' ++ [t1]) f ++ Y))) :
    CpP n w g' bt' bw' bt it l f Y (fun z => left z && !decide (z = x)) cnt1 W := by
  have hno : atT l' t1.n = none := by
    have := hset x
    rw [if_pos hlx] at this
    rw [e1]
    exact Option.map_eq_none_iff.1 this
  have hm : W.heap[bt]? = some om := ho.hold (objA bt om) (by simp)
  have hi : W.heap[it]? = some oi := ho.hold (objA it oi) (by simp)
  refine ⟨l' ++ [t1], om, oi, hr.of hm1 hi1 hm hi, hm, hi, fun y => ?_, keysT_snoc hno hnd, ho⟩
  rw [atT_snoc hno]
  by_cases e : y = x
  · subst e
    rw [if_pos e1.symm, if_neg (by simp), ht]
    show some t1.hw = some t.hw
    rw [e2]
  · rw [if_neg (by rw [e1]; exact e), hset y]
    cases left y <;> simp [e]
theorem CpP.done {it cnt : Nat} {left : Int → Bool} (h : CpP n w g' bt' bw' bt it l f Y left cnt W) (hl : ∀ x, left x = false) :
    ∃ l', (∀ x, (atT l' x).map Tm.hw = (atT l x).map Tm.hw) ∧ (l'.map Tm.n).Nodup ∧ Own n w W (mpA bt (locT l) :: (tParts g' bt' bw' l' f ++ Y)) := by
  obtain ⟨l', om, oi, hr, h1, h2, h3, h4, h5⟩ := h.ex
  exact ⟨l', fun x => by rw [h3 x, hl x]; rfl, h4, h5.tail.turn (a' := mpA bt (locT l)) rfl hr.own⟩
end
end Go.Proofs.Ytcmiboipgngjaaa
