/-
  The walk of deps.Copy. Conditions: the graph's numbers are in their bounds.
-/
import Derived.Test.YtlpdhmkcbdhelaaCy
namespace Go.Proofs.Ytlpdhmkcbdhelaa
set_option linter.unusedVariables false
set_option linter.unusedSimpArgs false
open Go.RowKit Go.Maps

/-- the state while the sets are copied -/
structure CzP (n : Nat) (w : World) (bb sb it : Nat) (bs : List Bs) (Y : List Atom) (left : Int → Bool) (cnt : Nat) (W : World) : Prop where
  ex : ∃ bs' om oi, RngV Try.prog 3 W sb it (locF bs) left cnt ∧ W.heap[sb]? = some om ∧ W.heap[it]? = some oi ∧ (∀ x, (bsAt bs' x).map Bs.set = if left x then none else (bsAt bs x).map Bs.set) ∧ (bs'.map Bs.key).Nodup ∧ Own n w W (objA it oi :: objA sb om :: mpA bb (locF bs') :: (bs'.map Bs.a ++ Y))
section
variable {n g : Nat} {w W : World} {F ps X : List Atom} {st : St}
theorem below_none {a c : World} (h : a.grownBy c none) : Below a.heap.size a c := (Below.refl _ _).grown h (Nat.le_refl _) (fun k hk => by cases hk)
theorem CzP.start {bb sb cnt : Nat} {bs : List Bs} {Y : List Atom} {W1 : World} (ho : Own n w W (mpA sb (locF bs) :: mpA bb (locF []) :: Y)) (hr : RngV Try.prog 3 W1 sb W.heap.size (locF bs) (fun x => ((locF bs) x).isSome) cnt) (hg : W.grownBy W1 none) :
    CzP n w bb sb W.heap.size bs Y (fun x => ((locF bs) x).isSome) cnt W1 := by
  obtain ⟨-, om, oi, h1, h2⟩ := hr.objs
  refine ⟨[], om, oi, hr, h1, h2, fun x => ?_, List.nodup_nil, ?_⟩
  · show none = _
    rw [locF_isSome]
    cases h : bsAt bs x with
    | none => rfl
    | some b => rfl
  · have h3 := ho.more (a := objA W.heap.size oi) (below_none hg) h2 (fun k hk => by cases hk; exact Nat.le_refl _)
    exact (h3.f1.turn (a' := objA sb om) rfl h1).f1
theorem CzP.next {bb sb it cnt1 : Nat} {bs bs' : List Bs} {Y : List Atom} {left1 : Int → Bool} {W1 : World} {om oi : Obj} (ho : Own n w W (objA it oi :: objA sb om :: mpA bb (locF bs') :: (bs'.map Bs.a ++ Y))) (hr : RngV Try.prog 3 W1 sb it (locF bs) left1 cnt1) (hg : W.grownBy W1 (some it)) :
    ∃ oi1, Own n w W1 (objA it oi1 :: objA sb om :: mpA bb (locF bs') :: (bs'.map Bs.a ++ Y)) := by
  obtain ⟨-, om1, oi1, h1, h2⟩ := hr.objs
  exact ⟨oi1, ho.grow (a' := objA it oi1) hg (fun k hk => .inl hk) h2⟩
theorem CzP.put {bb lb : Nat} {bs' : List Bs} {fl : Int → Option Value} {a b : Atom} {R : List Atom} {m : List Int} (ho : Own n w W (mpA lb fl :: a :: b :: mpA bb (locF bs') :: R)) (hm : ∀ x, (locF bs' x).isSome = true → x ∈ m) (hml : m.length < 1099511627776) (x : Int) (hwf : (Lit.int .i64 x).wf = true) :
    ∃ W4, (Instr.mapUpdate 54 (.map (some bb)) (.int .i64 x) (.map (some lb))).run Try.prog W = .ok () W4 ∧ Own n w W4 (mpA bb (fun y => if y = x then some (.map (some lb)) else locF bs' y) :: mpA lb fl :: a :: b :: R) := by
  have h3 := ho.f3
  obtain ⟨s, hs⟩ : ∃ s, OwnV Try.prog 3 W bb (locF bs') s := h3.head
  have hsz := hs.size_le m hm
  obtain ⟨W4, hrun, h4, h5⟩ := hs.update Try.underlying3 Try.underlying54 (by unfold maxLen; omega) x hwf (.map (some lb))
  exact ⟨W4, hrun, h3.grow (a' := mpA bb (fun y => if y = x then some (.map (some lb)) else locF bs' y)) h5 (fun k hk => .inl hk) ⟨_, h4⟩⟩
theorem CzP.step {bb sb it lb cnt1 : Nat} {bs bs' : List Bs} {Y : List Atom} {left : Int → Bool} {W1 : World} {om oi : Obj} {x : Int} {b0 : Bs} (hr : RngV Try.prog 3 W1 sb it (locF bs) (fun z => left z && !decide (z = x)) cnt1) (hm1 : W1.heap[sb]? = some om) (hi1 : W1.heap[it]? = some oi)
    (hset : ∀ x, (bsAt bs' x).map Bs.set = if left x then none else (bsAt bs x).map Bs.set) (hnd : (bs'.map Bs.key).Nodup) (hlx : left x = true) (hb0 : bsAt bs x = some b0)
    (ho : Own n w W (mpA bb (fun y => if y = x then some (.map (some lb)) else locF bs' y) :: mpA lb (setF b0.set) :: objA it oi :: objA sb om :: (bs'.map Bs.a ++ Y))) :
    CzP n w bb sb it bs Y (fun z => left z && !decide (z = x)) cnt1 W := by
  have hno : bsAt bs' x = none := by
    have := hset x
    rw [if_pos hlx] at this
    exact Option.map_eq_none_iff.1 this
  have hno' : bsAt bs' (⟨x, lb, b0.set⟩ : Bs).key = none := hno
  have hm : W.heap[sb]? = some om := ho.hold (objA sb om) (by simp)
  have hi : W.heap[it]? = some oi := ho.hold (objA it oi) (by simp)
  refine ⟨bs' ++ [⟨x, lb, b0.set⟩], om, oi, hr.of hm1 hi1 hm hi, hm, hi, fun y => ?_, keys_snoc hno' hnd, ?_⟩
  · rw [bsAt_snoc hno']
    show Option.map Bs.set (if y = x then _ else _) = _
    by_cases e : y = x
    · subst e
      rw [if_pos rfl, if_neg (by simp), hb0]; rfl
    · rw [if_neg e, hset y]
      cases left y <;> simp [e]
  · rw [locF_snoc hno']
    have h2 := ho.f3.f3
    refine h2.perm ?_
    show (objA it oi :: objA sb om :: mpA bb (fun y => if y = x then some (.map (some lb)) else locF bs' y) :: mpA lb (setF b0.set) :: (bs'.map Bs.a ++ Y)).Perm _
    refine List.Perm.cons _ (List.Perm.cons _ (List.Perm.cons _ ?_))
    rw [List.map_append, List.append_assoc]
    exact List.perm_middle.symm
theorem CzP.done {bb sb it cnt : Nat} {bs : List Bs} {Y : List Atom} {left : Int → Bool} (h : CzP n w bb sb it bs Y left cnt W) (hl : ∀ x, left x = false) :
    ∃ bs', (∀ x, (bsAt bs' x).map Bs.set = (bsAt bs x).map Bs.set) ∧ (bs'.map Bs.key).Nodup ∧ Own n w W (mpA sb (locF bs) :: mpA bb (locF bs') :: (bs'.map Bs.a ++ Y)) := by
  obtain ⟨bs', om, oi, hr, h1, h2, h3, h4, h5⟩ := h.ex
  exact ⟨bs', fun x => by rw [h3 x, hl x]; rfl, h4, h5.tail.turn (a' := mpA sb (locF bs)) rfl hr.own⟩
/-- the source's parts: the map of its sets ahead -/
theorem gParts_sets (g : Nat) (vl : Value) (l : List Cg) (sb nb : Nat) (opn : Int) (bs : List Bs) (nx : Int → Option Int) (G : List Atom) :
    (gParts g vl l sb nb opn bs nx ++ G).Perm (mpA sb (locF bs) :: (blkA g #[vl, .map (some sb), .int .i64 opn, .map (some nb)] 58 :: rowA 60 5 vl l.length (cellsL l) :: mpA nb (intF nx) :: (l.map onA ++ (l.map toA ++ bs.map Bs.a)) ++ G)) := by
  unfold gParts
  exact List.perm_middle (l₁ := [blkA g #[vl, .map (some sb), .int .i64 opn, .map (some nb)] 58, rowA 60 5 vl l.length (cellsL l)])
end
end Go.Proofs.Ytlpdhmkcbdhelaa
