/-
  A range over a map of the call's own, with whole numbers for keys and whatever for elements, in a loop whose round may write other blocks; maps.Clone of such a map. General words; conditions on the types alone.
-/
import Derived.Test.YtcmiboipgngjaaaP
import Derived.Maps.RangeWalk
import Derived.MapKept
import Derived.Laws.Externs
import Derived.Below
namespace Go.Proofs.Ytcmiboipgngjaaa
open Go.RowKit Go.Maps
set_option linter.unusedVariables false
set_option linter.unusedSimpArgs false

/-- an object as it is -/
def objA (b : Nat) (o : Obj) : Atom where
  b := some b
  Q W := W.heap[b]? = some o
  loc := fun h hq => (h b rfl).trans hq
  lt := fun hq k hk => by cases hk; exact (Array.getElem?_eq_some_iff.1 hq).1
theorem ranges_same {H : Type} {P : Program} {k : TypeId} {R : Value → Option (DataW H × List MemPlace)} {w w' : World} {b r n : Nat} {D : DataW H} {left : Lit → Bool} {cnt : Nat} (h : w.ranges P k R b r n D left cnt) (hb : w'.heap[b]? = w.heap[b]?) (hr : w'.heap[r]? = w.heap[r]?) : w'.ranges P k R b r n D left cnt := by
  obtain ⟨es, clock, since, seen, c0, h1, h2, h3, h4, h5, h6⟩ := h
  exact ⟨es, clock, since, seen, c0, hb.trans h1, h2, h3, h4, hr.trans h5, h6⟩
/-- a range under way over the map b, which holds f; what is still to come; how many -/
structure RngV (P : Program) (kt : TypeId) (w : World) (b r : Nat) (f : Int → Option Value) (left : Int → Bool) (cnt : Nat) : Prop where
  ex : ∃ D n s L, w.ranges P kt heldR b r n D L cnt ∧ MapV D f s ∧ ∀ x, left x = L (kV x)
  has : ∀ x, left x = true → (f x).isSome = true
section
variable {P : Program} {kt et t : TypeId} {w w' : World} {b r s cnt : Nat} {f : Int → Option Value} {left : Int → Bool}
theorem RngV.same (h : RngV P kt w b r f left cnt) (hb : w'.heap[b]? = w.heap[b]?) (hr : w'.heap[r]? = w.heap[r]?) : RngV P kt w' b r f left cnt := by
  obtain ⟨⟨D, n, s, L, h1, h2, h3⟩, h4⟩ := h
  exact ⟨⟨D, n, s, L, ranges_same h1 hb hr, h2, h3⟩, h4⟩
theorem RngV.own (h : RngV P kt w b r f left cnt) : ∃ s, OwnV P kt w b f s := by
  obtain ⟨⟨D, n, s, L, h1, h2, h3⟩, h4⟩ := h
  have h5 := ownsMap_tight h1.owns
  rw [h2.2.1] at h5
  exact ⟨s, D, h5, h2⟩
theorem RngV.objs (h : RngV P kt w b r f left cnt) : r ≠ b ∧ ∃ o o', w.heap[b]? = some o ∧ w.heap[r]? = some o' := by
  obtain ⟨⟨D, n, s, L, h1, h2, h3⟩, h4⟩ := h
  refine ⟨h1.ne, ?_⟩
  obtain ⟨es, clock, since, seen, c0, h1, h2, h3, h4, h5, h6⟩ := h1
  exact ⟨_, _, h1, h5⟩
theorem RngV.of (h : RngV P kt w b r f left cnt) {o o' : Obj} (h1 : w.heap[b]? = some o) (h2 : w.heap[r]? = some o') (h1' : w'.heap[b]? = some o) (h2' : w'.heap[r]? = some o') : RngV P kt w' b r f left cnt := h.same (h1'.trans h1.symm) (h2'.trans h2.symm)
theorem wpList_rangeV {ops : Array Oper} {rest : List Oper} {o : Oper} {a : Act} {Q : Exit → Act → World → Prop} (hg : o.guard = none) (m : Operand) (t : TypeId) (hop : o.op = Op.range t m) (kt et : TypeId) (hk : P.underlying kt = some (.int .i64)) (ht : P.underlying t = some (.map kt et)) (b s : Nat) (f : Int → Option Value)
    (hm : a.eval m = .map (some b)) (h : OwnV P kt w b f s)
    (hK : ∀ w' cnt, RngV P kt w' b w.heap.size f (fun x => (f x).isSome) cnt → w.grownBy w' none → w'.heap.size = w.heap.size + 1 → wpList P ops Q rest (a.put o.dst (.pointer (some ⟨w.heap.size, 0, none⟩))) w') :
    wpList P ops Q (o :: rest) a w := by
  obtain ⟨D, h1, h2⟩ := h
  refine wpList_range_own w hg m t hop kt et (int_keyed hk) ht heldR b s D hm h1 fun w' hr hgr hsz => hK w' (Maps.size D) ⟨⟨D, s, s, Maps.has D, hr, h2, fun x => ((h2.2.2 x).1).symm⟩, fun x hx => hx⟩ hgr hsz
theorem wpList_nextV {ops : Array Oper} {rest : List Oper} {o : Oper} {a : Act} {Q : Exit → Act → World → Prop} (hg : o.guard = none) (it : Operand) (hop : o.op = Op.next it false) (kt : TypeId) (hk : P.underlying kt = some (.int .i64)) (b r : Nat) (f : Int → Option Value) (left : Int → Bool) (cnt : Nat)
    (hit : a.eval it = .pointer (some ⟨r, 0, none⟩)) (h : RngV P kt w b r f left cnt)
    (hDone : Hid (∀ x, left x = false) → wpList P ops Q rest (a.put o.dst (.tuple #[.bool false])) w)
    (hMore : ∀ (x : Int) (v : Value) (w' : World) (cnt' : Nat), Hid ((Lit.int .i64 x).wf = true ∧ left x = true ∧ f x = some v ∧ RngV P kt w' b r f (fun z => left z && !decide (z = x)) cnt' ∧ cnt' < cnt ∧ w.grownBy w' (some r) ∧ w'.heap.size = w.heap.size) →
      (Instr.entry (.pointer (some ⟨r, 0, none⟩))).run P w' = .ok (.tuple #[.int .i64 x, v]) w' → wpList P ops Q rest (a.put o.dst (.tuple #[.bool true, .int .i64 x, v])) w') :
    wpList P ops Q (o :: rest) a w := by
  obtain ⟨⟨D, n, s, L, h1, h2, h3⟩, h4⟩ := h
  refine wpList_next_ranges (α := Int) (β := Value) w hg it hop kt (int_keyed hk) heldR (fun x => .int .i64 x) id (fun key kl hkey => ?_) (fun v y hv => ⟨v, rfl⟩) b r n D L cnt hit h1 (fun _ hl => hDone (hide fun x => by rw [h3]; exact hl _)) ?_
  · obtain ⟨x, hx, _⟩ := Maps.keyOf_int_inv hk hkey
    exact ⟨x, hx⟩
  · intro x c kl y w' cnt' hkey hlk hv hat hrg hlt hgr hsz hen
    obtain ⟨x', hx, rfl, hwf⟩ := Maps.keyOf_int_inv hk hkey
    obtain rfl : x = x' := by injection hx
    have hlx : left x = true := by rw [h3]; exact hlk
    obtain rfl : y = (.held c, []) := by
      have : heldR c = some y := hv
      unfold heldR at this
      exact (Option.some.inj this).symm
    have hfx : f x = some c := by
      have h5 := h4 x hlx
      obtain ⟨v, hv'⟩ := Option.isSome_iff_exists.1 h5
      have h6 := (h2.2.2 x).2 (.held undef)
      have h7 : D.atKey (kV x) (.held undef) = .held c := hat _
      rw [hv'] at h6
      rw [h7] at h6
      injection h6 with h6
      rw [hv', h6]
    refine hMore x c w' cnt' (hide ⟨hwf, hlx, hfx, ⟨⟨D, n, s, _, hrg, h2, fun z => ?_⟩, fun z hz => h4 z (Bool.and_eq_true_iff.1 hz).1⟩, hlt, hgr, hsz⟩) hen
    rw [h3]
    congr 2
    show decide (z = x) = (kV z).sameKey (kV x)
    by_cases e : z = x
    · subst e; rw [decide_eq_true rfl]; exact (WideAt.sameKey_self (kV_key z)).symm
    · rw [decide_eq_false e]
      cases hs : (kV z).sameKey (kV x) with
      | false => rfl
      | true => exact absurd (WideAt.sameKey_eq hs) (kV_ne e)
/-- maps.Clone's two laws -/
theorem run_equalIn_map_nilV (w : World) (d : Nat) (t k e : TypeId) (p : Option Nat) (h : P.underlying t = some (.map k e)) :
    (Op.equalIn (d + 1) t (.map p) (.map none)).run P w = .ok p.isNone w := by
  cases p <;> simp [Op.equalIn, run_underlying h]
theorem run_eql_map_nilV (w : World) (t k e : TypeId) (p : Option Nat) (h : P.underlying t = some (.map k e)) :
    (binOp .eql t (.map p) (.map none)).run P w = .ok (.bool p.isNone) w := by
  simp only [binOp]
  simp [show Op.equal t (.map p) (.map none) = Op.equalIn (9999 + 1) t (.map p) (.map none) from rfl, run_equalIn_map_nilV w 9999 t k e p h]
theorem run_typeAssert_mapV (w : World) (t xT k e : TypeId) (v : Value) (h : P.underlying t = some (.map k e)) : (Instr.typeAssert (.iface t v) xT t false).run P w = .ok v w := by
  simp [Instr.typeAssert, run_underlying h, go_sem, Result.andThen]
theorem run_maps_cloneV (w : World) {r : Nat} {es : Array MapEntry} {clock : Nat} (t : TypeId) (hb : w.heap[r]? = some (.map es clock)) :
    (Extern.MapsClone.clone #[.iface t (.map (some r))]).run P w = .ok (.iface t (.map (some w.heap.size))) (w.alloc (.map es clock)) := by
  have e : Extern.MapsClone.clone #[.iface t (.map (some r))] = (getObj r >>= fun o => match o with
      | .map entries clock => (newObj (.map entries clock) >>= fun n => pure (.iface t (.map (some n))))
      | _ => stuck "maps.clone: a map expected") := rfl
  rw [e]
  simp [MapKept.run_getObj_map hb, Result.andThen, go_sem]
theorem OwnV.cloned (h : OwnV P kt w b f s) : ∃ es clock, w.heap[b]? = some (.map es clock) ∧ OwnV P kt (w.alloc (.map es clock)) w.heap.size f s := by
  obtain ⟨D, ⟨es, clock, h1, h2⟩, h3⟩ := h
  exact ⟨es, clock, h1, D, ⟨es, clock, (MapKept.heap_alloc w _).1, h2⟩, h3⟩
end
end Go.Proofs.Ytcmiboipgngjaaa
