/-
  What both graphs answer, over the rows. No condition but that the rows are few.
  A range over a map of the call's own, with whole numbers for keys and whatever for elements, in a loop whose round may write other blocks; maps.Clone of such a map. General words; conditions on the types alone.
  maps.Clone at the two kinds of maps. No condition.
  The contract of deps.Copy. Conditions: the graph's numbers are in their bounds.
  The walk of deps.Copy. Conditions: the graph's numbers are in their bounds.
-/
import Derived.Test.YtjfejimghbohdaaMB8
import Derived.Maps.RangeWalk
import Derived.MapKept
import Derived.Laws.Externs
import Derived.Below
import Derived.Test.YtjfejimghbohdaaProg
import Derived.KernelRfl
import Derived.WalkKit
import Derived.Deep.LoopGhost
import Derived.Deep.CutBlock
import Derived.Deep.RegionHeld3
namespace Go.Proofs.Ytjfejimghbohdaa
set_option linter.unusedVariables false
set_option linter.unusedSimpArgs false
open Go.RowKit Go.Maps

section
variable {n g b : Nat} {w W : World} {F : List Atom} {r : List Rc}
theorem BP.drewN (h : BP n w g b r F W) (q : Nat) : BP n w g b r F (W.drewN q) := by
  obtain ⟨pg, pr, hg, hr, ho⟩ := h
  exact ⟨pg, pr, hg, hr, ho.drewN q⟩
theorem BP.drew (h : BP n w g b r F W) : BP n w g b r F W.drew := by
  obtain ⟨pg, pr, hg, hr, ho⟩ := h
  exact ⟨pg, pr, hg, hr, ho.drew⟩
theorem BP.done (h : BP n w g b r F W) (id : Int) : Calls Try.prog 13 #[.pointer (some ⟨g, 0, none⟩), .int .i64 id] W fun e W' => e = .returned (.bool (doneR r id)) ∧ W = W' := by
  obtain ⟨pg, pr, hg, hr, ho⟩ := h
  exact gdone_c hg (fun a ha => ho.hold a (List.mem_append_left _ ha)) id
theorem BP.next (h : BP n w g b r F W) (buf : Int) (hb : I64 buf) : Calls Try.prog 31 #[.pointer (some ⟨g, 0, none⟩), .int .i64 buf] W fun e W' => ∃ A c, e = .returned (.slice A (nextR r buf).length c) ∧ BP n w g b r (rowA 3 1 (.slice A (nextR r buf).length c) (nextR r buf).length (ints (nextR r buf)) :: F) W' := by
  obtain ⟨pg, pr, hg, hr, ho⟩ := h
  refine (gnext_c hg buf hb ho).mono ?_
  rintro e W' ⟨v, rfl, h1⟩
  obtain ⟨A, c, rfl⟩ := own_slice h1.row
  exact ⟨A, c, rfl, pg, pr, hg, hr, h1.push⟩
theorem BP.rnext (h : BP n w g b r F W) (buf : Int) : Calls Try.prog 40 #[.pointer (some ⟨b, 0, none⟩), .int .i64 buf] W fun e W' => ∃ A c, e = .returned (.slice A (nextR r buf).length c) ∧ BP n w g b r (rowA 3 1 (.slice A (nextR r buf).length c) (nextR r buf).length (ints (nextR r buf)) :: F) W' := by
  obtain ⟨pg, pr, hg, hr, ho⟩ := h
  refine (rnext_c hr hg.wf hg.sm ho.swp buf).mono ?_
  rintro e W' ⟨v, rfl, h1⟩
  obtain ⟨A, c, rfl⟩ := own_slice h1.row
  exact ⟨A, c, rfl, pg, pr, hg, hr, h1.push.swp⟩
theorem BP.gready (h : BP n w g b r F W) : Calls Try.prog 23 #[.pointer (some ⟨g, 0, none⟩)] W fun e W' => ∃ A c, e = .returned (.slice A (bufsL r true r.length).length c) ∧ BP n w g b r (rowA 3 1 (.slice A (bufsL r true r.length).length c) (bufsL r true r.length).length (ints (bufsL r true r.length)) :: F) W' := by
  obtain ⟨pg, pr, hg, hr, ho⟩ := h
  refine (gready_c hg ho).mono ?_
  rintro e W' ⟨v, xs, rfl, hx, h1⟩
  obtain rfl := bufsL_ready hx
  obtain ⟨A, c, rfl⟩ := own_slice h1.row
  exact ⟨A, c, rfl, pg, pr, hg, hr, h1.push⟩
theorem BP.rbufs (h : BP n w g b r F W) (rdy : Bool) : Calls Try.prog 24 #[.pointer (some ⟨b, 0, none⟩), .bool rdy] W fun e W' => ∃ A c, e = .returned (.slice A (bufsL r rdy r.length).length c) ∧ BP n w g b r (rowA 3 1 (.slice A (bufsL r rdy r.length).length c) (bufsL r rdy r.length).length (ints (bufsL r rdy r.length)) :: F) W' := by
  obtain ⟨pg, pr, hg, hr, ho⟩ := h
  refine (rbufs_c hr hg.wf hg.sm ho.swp rdy).mono ?_
  rintro e W' ⟨v, rfl, h1⟩
  obtain ⟨A, c, rfl⟩ := own_slice h1.row
  exact ⟨A, c, rfl, pg, pr, hg, hr, h1.push.swp⟩
theorem BP.need (h : BP n w g b r F W) (A : Option Addr) (c : Nat) (ids : List Int) (hl : ids.length < 274877906944) (hr : Reads n w F A ids) : Calls Try.prog 14 #[.pointer (some ⟨g, 0, none⟩), .slice A ids.length c] W fun e W' => ∃ xs A c, e = .returned (.slice A xs.length c) ∧ needR r ids xs ∧ BP n w g b r (rowA 3 1 (.slice A xs.length c) xs.length (ints xs) :: F) W' := by
  obtain ⟨pg, pr, hg, hrr, ho⟩ := h
  refine (need_c hg ho A c ids hl hr.app).mono ?_
  rintro e W' ⟨v, xs, rfl, hx, h1⟩
  obtain ⟨A, c, rfl⟩ := own_slice h1.row
  exact ⟨xs, A, c, rfl, hx, pg, pr, hg, hrr, h1.push⟩
theorem BP.rneed (h : BP n w g b r F W) (A : Option Addr) (c : Nat) (ids : List Int) (hl : ids.length < 274877906944) (hr : Reads n w F A ids) : Calls Try.prog 37 #[.pointer (some ⟨b, 0, none⟩), .slice A ids.length c] W fun e W' => ∃ xs A c, e = .returned (.slice A xs.length c) ∧ needR r ids xs ∧ BP n w g b r (rowA 3 1 (.slice A xs.length c) xs.length (ints xs) :: F) W' := by
  obtain ⟨pg, pr, hg, hrr, ho⟩ := h
  refine (rneed_c hrr hg.wf hg.sm ho.swp A c ids hl hr.app).mono ?_
  rintro e W' ⟨v, xs, rfl, hx, h1⟩
  obtain ⟨A, c, rfl⟩ := own_slice h1.row
  exact ⟨xs, A, c, rfl, hx, pg, pr, hg, hrr, h1.push.swp⟩
theorem BP.sameK {A B : Option Addr} {c d : Nat} {l : List Int} (h : BP n w g b r F W) (hA : rowA 3 1 (.slice A l.length c) l.length (ints l) ∈ F) (hB : rowA 3 1 (.slice B l.length d) l.length (ints l) ∈ F) (hl : l.length < 1099511627776) :
    Calls Try.prog 18 #[.slice A l.length c, .slice B l.length d] W fun e W' => e = .returned (.bool true) ∧ BP n w g b r F W' := by
  obtain ⟨pg, pr, hg, hrr, ho⟩ := h
  have h1 : Reads n w (pg ++ (pr ++ F)) A l := Reads.row (c := c) (k := l.length) (by simp [hA])
  have h2 : Reads n w (pg ++ (pr ++ F)) B l := Reads.row (c := d) (k := l.length) (by simp [hB])
  refine (same_c A c l B d l hl hl h1 h2 ho).mono ?_
  rintro e W' ⟨he, ho'⟩
  exact ⟨he.trans (congrArg (fun x => Ending.returned (.bool x)) (sameI_self l)), pg, pr, hg, hrr, ho'⟩
theorem nextR_len (r : List Rc) (x : Int) : (nextR r x).length ≤ r.length := by
  unfold nextR castL; rw [List.length_map]; exact Nat.le_trans (List.length_filter_le _ _) (by simp)
theorem blockedR_len (r : List Rc) (x : Int) : (blockedR r x).length ≤ r.length := by
  unfold blockedR castL; rw [List.length_map]; exact Nat.le_trans (List.length_filter_le _ _) (by simp)
theorem rising_len : ∀ (xs : List Int) (a N : Int), Rising xs → (∀ x ∈ xs, a ≤ x ∧ x < N) → xs.length ≤ (N - a).toNat := by
  intro xs
  induction xs with
  | nil => intro a N _ _; exact Nat.zero_le _
  | cons x xs ih =>
    intro a N hr hx
    obtain ⟨h1, h2⟩ := List.pairwise_cons.1 hr
    have := ih (x + 1) N h2 (fun y hy => ⟨by have := h1 y hy; omega, (hx y (List.mem_cons_of_mem _ hy)).2⟩)
    have := hx x List.mem_cons_self
    rw [List.length_cons]
    omega
theorem needR_len {r : List Rc} {ids xs : List Int} (h : needR r ids xs) : xs.length ≤ r.length := by
  have := rising_len xs 0 (r.length : Int) h.1 (fun x hx => by have hg := ((h.2 x).1 hx).good; exact ⟨hg.1, hg.2.1⟩)
  omega
theorem bufsL_i64 {r : List Rc} {rdy : Bool} (hs : Sm r) {x : Int} (hx : x ∈ bufsL r rdy r.length) : I64 x := by
  obtain ⟨i, hi, -, rfl⟩ := (bufsL_mem r.length).1 hx
  exact hs.buf i hi
end
end Go.Proofs.Ytjfejimghbohdaa
namespace Go.Proofs.Ytjfejimghbohdaa
open Go.RowKit Go.Maps
set_option linter.unusedVariables false
set_option linter.unusedSimpArgs false

/-- an object as it is -/
def objA (b : Nat) (o : Obj) : Atom where
  b := some b
  Q W := W.heap[b]? = some o
  loc := fun h hq => (h b rfl).trans hq
  lt := fun hq k hk => by cases hk; exact (Array.getElem?_eq_some_iff.1 hq).1
theorem ranges_same {H : Type} {P : Program} {k : TypeId} {R : Value → Option (DataW H × List MemPlace)} {w w' : World} {b r n : Nat} {D : DataW H} {left : Lit → Bool} {cnt : Nat} (h : w.ranges P k R b r n D left cnt) (hb : w'.heap[b]? = w.heap[b]?) (hr : w'.heap[r]? = w.heap[r]?) : w'.ranges P k R b r n D left cnt := by
  obtain ⟨es, clock, since, seen, c0, h1, h2, h3, h4, h5, h6⟩ := h
  exact ⟨es, clock, since, seen, c0, hb.trans h1, h2, h3, h4, hr.trans h5, h6⟩
/-- a range under way over the map b, which holds f; what is still to come; how many -/
structure RngV (P : Program) (kt : TypeId) (w : World) (b r : Nat) (f : Int → Option Value) (left : Int → Bool) (cnt : Nat) : Prop where
  ex : ∃ D n s L, w.ranges P kt heldR b r n D L cnt ∧ MapV D f s ∧ ∀ x, left x = L (kV x)
  has : ∀ x, left x = true → (f x).isSome = true
section
variable {P : Program} {kt et t : TypeId} {w w' : World} {b r s cnt : Nat} {f : Int → Option Value} {left : Int → Bool}
theorem RngV.same (h : RngV P kt w b r f left cnt) (hb : w'.heap[b]? = w.heap[b]?) (hr : w'.heap[r]? = w.heap[r]?) : RngV P kt w' b r f left cnt := by
  obtain ⟨⟨D, n, s, L, h1, h2, h3⟩, h4⟩ := h
  exact ⟨⟨D, n, s, L, ranges_same h1 hb hr, h2, h3⟩, h4⟩
theorem RngV.own (h : RngV P kt w b r f left cnt) : ∃ s, OwnV P kt w b f s := by
  obtain ⟨⟨D, n, s, L, h1, h2, h3⟩, h4⟩ := h
  have h5 := ownsMap_tight h1.owns
  rw [h2.2.1] at h5
  exact ⟨s, D, h5, h2⟩
theorem RngV.objs (h : RngV P kt w b r f left cnt) : r ≠ b ∧ ∃ o o', w.heap[b]? = some o ∧ w.heap[r]? = some o' := by
  obtain ⟨⟨D, n, s, L, h1, h2, h3⟩, h4⟩ := h
  refine ⟨h1.ne, ?_⟩
  obtain ⟨es, clock, since, seen, c0, h1, h2, h3, h4, h5, h6⟩ := h1
  exact ⟨_, _, h1, h5⟩
theorem RngV.of (h : RngV P kt w b r f left cnt) {o o' : Obj} (h1 : w.heap[b]? = some o) (h2 : w.heap[r]? = some o') (h1' : w'.heap[b]? = some o) (h2' : w'.heap[r]? = some o') : RngV P kt w' b r f left cnt := h.same (h1'.trans h1.symm) (h2'.trans h2.symm)
theorem wpList_rangeV {ops : Array Oper} {rest : List Oper} {o : Oper} {a : Act} {Q : Exit → Act → World → Prop} (hg : o.guard = none) (m : Operand) (t : TypeId) (hop : o.op = Op.range t m) (kt et : TypeId) (hk : P.underlying kt = some (.int .i64)) (ht : P.underlying t = some (.map kt et)) (b s : Nat) (f : Int → Option Value)
    (hm : a.eval m = .map (some b)) (h : OwnV P kt w b f s)
    (hK : ∀ w' cnt, RngV P kt w' b w.heap.size f (fun x => (f x).isSome) cnt → w.grownBy w' none → w'.heap.size = w.heap.size + 1 → wpList P ops Q rest (a.put o.dst (.pointer (some ⟨w.heap.size, 0, none⟩))) w') :
    wpList P ops Q (o :: rest) a w := by
  obtain ⟨D, h1, h2⟩ := h
  refine wpList_range_own w hg m t hop kt et (int_keyed hk) ht heldR b s D hm h1 fun w' hr hgr hsz => hK w' (Maps.size D) ⟨⟨D, s, s, Maps.has D, hr, h2, fun x => ((h2.2.2 x).1).symm⟩, fun x hx => hx⟩ hgr hsz
theorem wpList_nextV {ops : Array Oper} {rest : List Oper} {o : Oper} {a : Act} {Q : Exit → Act → World → Prop} (hg : o.guard = none) (it : Operand) (hop : o.op = Op.next it false) (kt : TypeId) (hk : P.underlying kt = some (.int .i64)) (b r : Nat) (f : Int → Option Value) (left : Int → Bool) (cnt : Nat)
    (hit : a.eval it = .pointer (some ⟨r, 0, none⟩)) (h : RngV P kt w b r f left cnt)
    (hDone : Hid (∀ x, left x = false) → wpList P ops Q rest (a.put o.dst (.tuple #[.bool false])) w)
    (hMore : ∀ (x : Int) (v : Value) (w' : World) (cnt' : Nat), Hid ((Lit.int .i64 x).wf = true ∧ left x = true ∧ f x = some v ∧ RngV P kt w' b r f (fun z => left z && !decide (z = x)) cnt' ∧ cnt' < cnt ∧ w.grownBy w' (some r) ∧ w'.heap.size = w.heap.size) →
      (Instr.entry (.pointer (some ⟨r, 0, none⟩))).run P w' = .ok (.tuple #[.int .i64 x, v]) w' → wpList P ops Q rest (a.put o.dst (.tuple #[.bool true, .int .i64 x, v])) w') :
    wpList P ops Q (o :: rest) a w := by
  obtain ⟨⟨D, n, s, L, h1, h2, h3⟩, h4⟩ := h
  refine wpList_next_ranges (α := Int) (β := Value) w hg it hop kt (int_keyed hk) heldR (fun x => .int .i64 x) id (fun key kl hkey => ?_) (fun v y hv => ⟨v, rfl⟩) b r n D L cnt hit h1 (fun _ hl => hDone (hide fun x => by rw [h3]; exact hl _)) ?_
  · obtain ⟨x, hx, _⟩ := Maps.keyOf_int_inv hk hkey
    exact ⟨x, hx⟩
  · intro x c kl y w' cnt' hkey hlk hv hat hrg hlt hgr hsz hen
    obtain ⟨x', hx, rfl, hwf⟩ := Maps.keyOf_int_inv hk hkey
    obtain rfl : x = x' := by injection hx
    have hlx : left x = true := by rw [h3]; exact hlk
    obtain rfl : y = (.held c, []) := by
      have : heldR c = some y := hv
      unfold heldR at this
      exact (Option.some.inj this).symm
    have hfx : f x = some c := by
      have h5 := h4 x hlx
      obtain ⟨v, hv'⟩ := Option.isSome_iff_exists.1 h5
      have h6 := (h2.2.2 x).2 (.held undef)
      have h7 : D.atKey (kV x) (.held undef) = .held c := hat _
      rw [hv'] at h6
      rw [h7] at h6
      injection h6 with h6
      rw [hv', h6]
    refine hMore x c w' cnt' (hide ⟨hwf, hlx, hfx, ⟨⟨D, n, s, _, hrg, h2, fun z => ?_⟩, fun z hz => h4 z (Bool.and_eq_true_iff.1 hz).1⟩, hlt, hgr, hsz⟩) hen
    rw [h3]
    congr 2
    show decide (z = x) = (kV z).sameKey (kV x)
    by_cases e : z = x
    · subst e; rw [decide_eq_true rfl]; exact (WideAt.sameKey_self (kV_key z)).symm
    · rw [decide_eq_false e]
      cases hs : (kV z).sameKey (kV x) with
      | false => rfl
      | true => exact absurd (WideAt.sameKey_eq hs) (kV_ne e)
/-- maps.Clone's two laws -/
theorem run_equalIn_map_nilV (w : World) (d : Nat) (t k e : TypeId) (p : Option Nat) (h : P.underlying t = some (.map k e)) :
    (Op.equalIn (d + 1) t (.map p) (.map none)).run P w = .ok p.isNone w := by
  cases p <;> simp [Op.equalIn, run_underlying h]
theorem run_eql_map_nilV (w : World) (t k e : TypeId) (p : Option Nat) (h : P.underlying t = some (.map k e)) :
    (binOp .eql t (.map p) (.map none)).run P w = .ok (.bool p.isNone) w := by
  simp only [binOp]
  simp [show Op.equal t (.map p) (.map none) = Op.equalIn (9999 + 1) t (.map p) (.map none) from rfl, run_equalIn_map_nilV w 9999 t k e p h]
theorem run_typeAssert_mapV (w : World) (t xT k e : TypeId) (v : Value) (h : P.underlying t = some (.map k e)) : (Instr.typeAssert (.iface t v) xT t false).run P w = .ok v w := by
  simp [Instr.typeAssert, run_underlying h, go_sem, Result.andThen]
theorem run_maps_cloneV (w : World) {r : Nat} {es : Array MapEntry} {clock : Nat} (t : TypeId) (hb : w.heap[r]? = some (.map es clock)) :
    (Extern.MapsClone.clone #[.iface t (.map (some r))]).run P w = .ok (.iface t (.map (some w.heap.size))) (w.alloc (.map es clock)) := by
  have e : Extern.MapsClone.clone #[.iface t (.map (some r))] = (getObj r >>= fun o => match o with
      | .map entries clock => (newObj (.map entries clock) >>= fun n => pure (.iface t (.map (some n))))
      | _ => stuck "maps.clone: a map expected") := rfl
  rw [e]
  simp [MapKept.run_getObj_map hb, Result.andThen, go_sem]
theorem OwnV.cloned (h : OwnV P kt w b f s) : ∃ es clock, w.heap[b]? = some (.map es clock) ∧ OwnV P kt (w.alloc (.map es clock)) w.heap.size f s := by
  obtain ⟨D, ⟨es, clock, h1, h2⟩, h3⟩ := h
  exact ⟨es, clock, h1, D, ⟨es, clock, (MapKept.heap_alloc w _).1, h2⟩, h3⟩
end
end Go.Proofs.Ytjfejimghbohdaa
namespace Go.Proofs.Ytjfejimghbohdaa
set_option linter.unusedVariables false
set_option linter.unusedSimpArgs false
open Go.RowKit Go.Maps

theorem clone43_c {W : World} {b : Nat} {es : Array MapEntry} {clock : Nat} (hb : W.heap[b]? = some (.map es clock)) :
    Calls Try.prog 44 #[.map (some b)] W fun e W' => e = .returned (.map (some W.heap.size)) ∧ W' = W.alloc (.map es clock) := by
  have hq := fun w => run_eql_map_nilV (P := Try.prog) w 67 _ _ (some b) Try.underlying67
  go_enter Try.func44, Try.ntmps44
  go_wp2
  rw [run_callFunc_extern Try.func55 (by kernel_rfl) (by kernel_rfl) (by kernel_rfl) (e := Extern.MapsClone.clone) (by kernel_rfl), run_maps_cloneV W 67 hb]
  simp only [Result.andThen]
  rw [Oper.upon_value]
  clear hq hb

  have hta := fun v w => run_typeAssert_mapV (P := Try.prog) w 67 20 _ _ v Try.underlying67
  go_wp2
  go_ret
  exact ⟨rfl, rfl⟩
theorem clone44_c {W : World} {b : Nat} {es : Array MapEntry} {clock : Nat} (hb : W.heap[b]? = some (.map es clock)) :
    Calls Try.prog 45 #[.map (some b)] W fun e W' => e = .returned (.map (some W.heap.size)) ∧ W' = W.alloc (.map es clock) := by
  have hq := fun w => run_eql_map_nilV (P := Try.prog) w 71 _ _ (some b) Try.underlying71
  go_enter Try.func45, Try.ntmps45
  go_wp2
  rw [run_callFunc_extern Try.func55 (by kernel_rfl) (by kernel_rfl) (by kernel_rfl) (e := Extern.MapsClone.clone) (by kernel_rfl), run_maps_cloneV W 71 hb]
  simp only [Result.andThen]
  rw [Oper.upon_value]
  clear hq hb

  have hta := fun v w => run_typeAssert_mapV (P := Try.prog) w 71 20 _ _ v Try.underlying71
  go_wp2
  go_ret
  exact ⟨rfl, rfl⟩
end Go.Proofs.Ytjfejimghbohdaa
namespace Go.Proofs.Ytjfejimghbohdaa
set_option linter.unusedVariables false
set_option linter.unusedSimpArgs false
open Go.RowKit Go.Maps

section
variable {n g : Nat} {w W : World} {F ps X : List Atom} {st : St}
theorem cellsL_one (l : List Cg) (h1 : ∀ c ∈ l, c.von.oneCell' = true ∧ c.vto.oneCell' = true) : ∀ u ∈ cellsL l, u.oneCell' = true := by
  intro u hu
  obtain ⟨c, hc, hu⟩ := List.mem_flatMap.1 hu
  have := h1 c hc
  unfold Cg.cells at hu
  simp only [List.mem_cons, List.not_mem_nil, or_false] at hu
  rcases hu with rfl | rfl | rfl | rfl | rfl
  · rfl
  · exact this.1
  · rfl
  · exact this.2
  · rfl
/-- the state behind the copying of k rows -/
structure CyP (n : Nat) (w : World) (cb : Nat) (vl : Value) (bb nb : Nat) (opn : Int) (nx : Int → Option Int) (l : List Cg) (G : List Atom) (k : Nat) (W : World) : Prop where
  ex : ∃ p : List Cg, p.length = k ∧ p.map Cg.c = (l.take k).map Cg.c ∧ Own n w W (blkA cb #[vl, .map (some bb), .int .i64 opn, .map (some nb)] 69 :: rowA 64 5 vl l.length (cellsL (p ++ l.drop k)) :: mpA bb (locF []) :: mpA nb (intF nx) :: ((p.map onA ++ p.map toA) ++ G))
theorem copy_perm (p : List Cg) (x : Cg) (G Y : List Atom) : (toA x :: onA x :: (Y ++ ((p.map onA ++ p.map toA) ++ G))).Perm (Y ++ (((p ++ [x]).map onA ++ (p ++ [x]).map toA) ++ G)) := by
  have h1 : (toA x :: onA x :: (p.map onA ++ p.map toA)).Perm ((p ++ [x]).map onA ++ (p ++ [x]).map toA) := by
    rw [List.map_append, List.map_append]
    show (toA x :: onA x :: (p.map onA ++ p.map toA)).Perm ((p.map onA ++ [onA x]) ++ (p.map toA ++ [toA x]))
    rw [← List.append_assoc]
    refine List.Perm.trans (List.Perm.cons _ ?_) (List.perm_append_singleton _ _).symm
    rw [List.append_assoc]
    exact List.perm_middle.symm
  refine List.Perm.trans ?_ (List.Perm.append_left Y (List.Perm.append_right G h1))
  refine List.Perm.trans (List.Perm.cons _ List.perm_middle.symm) ?_
  exact List.perm_middle.symm
theorem CyP.cell {cb : Nat} {vl : Value} {bb nb : Nat} {opn : Int} {nx : Int → Option Int} {l : List Cg} {G : List Atom} {k : Nat} (h : CyP n w cb vl bb nb opn nx l G k W) : W.cell? ⟨cb, 0, none⟩ = some vl ∧ W.cell? ⟨cb, 1, none⟩ = some (.map (some bb)) := by
  obtain ⟨p, -, -, ho⟩ := h.ex
  have hb : Blk W cb #[vl, .map (some bb), .int .i64 opn, .map (some nb)] 69 := ho.head
  exact ⟨hb.cell 0, hb.cell 1⟩
theorem CyP.row {cb : Nat} {vl : Value} {bb nb : Nat} {opn : Int} {nx : Int → Option Int} {l : List Cg} {G : List Atom} {k : Nat} (h : CyP n w cb vl bb nb opn nx l G k W) (hk : k < l.length) :
    ∃ gl c, vl = .slice (some ⟨gl, 0, none⟩) l.length c ∧ gl ≠ cb ∧ W.cell? ⟨gl, k * 5 + 1, none⟩ = some l[k].von ∧ W.cell? ⟨gl, k * 5 + 3, none⟩ = some l[k].vto ∧ W.frozen? ⟨gl, k * 5 + 1, none⟩ = false ∧ W.frozen? ⟨gl, k * 5 + 3, none⟩ = false := by
  obtain ⟨p, hp, -, ho⟩ := h.ex
  have hr : W.ownsRow 0 64 5 vl l.length (cellsL (p ++ l.drop k)) := ho.tail.head
  obtain ⟨A, c, rfl⟩ := own_slice hr
  obtain ⟨gl, rfl⟩ := row_form hr (by omega)
  have hlen : (p ++ l.drop k).length = l.length := by rw [List.length_append, List.length_drop]; omega
  have hat : (p ++ l.drop k)[k]'(by omega) = l[k] := by
    rw [List.getElem_append_right (by omega)]
    simp [hp]
  have hfar : gl ≠ cb := fun e => by
    have := (List.pairwise_cons.1 ho.apart).1 (rowA 64 5 (.slice (some ⟨gl, 0, none⟩) l.length c) l.length (cellsL (p ++ l.drop k))) (by simp) cb rfl
    exact this (by rw [← e]; rfl)
  refine ⟨gl, c, rfl, hfar, ?_, ?_, hr.frozenAt _, hr.frozenAt _⟩
  · rw [hr.cellAt (k * 5 + 1) (by omega), cellsL_at (l := p ++ l.drop k) (by omega) (by omega), hat]; rfl
  · rw [hr.cellAt (k * 5 + 3) (by omega), cellsL_at (l := p ++ l.drop k) (by omega) (by omega), hat]; rfl
theorem CyP.step {cb : Nat} {bb nb : Nat} {opn : Int} {nx : Int → Option Int} {l : List Cg} {G : List Atom} {k gl c : Nat} {von vto : Value} (p : List Cg) (hk : k < l.length) (hp : p.length = k) (hc : p.map Cg.c = (l.take k).map Cg.c)
    (ho : Own n w W (rowA 3 1 vto l[k].c.to.length (ints l[k].c.to) :: rowA 3 1 von l[k].c.on.length (ints l[k].c.on) :: blkA cb #[.slice (some ⟨gl, 0, none⟩) l.length c, .map (some bb), .int .i64 opn, .map (some nb)] 69 :: rowA 64 5 (.slice (some ⟨gl, 0, none⟩) l.length c) l.length (cellsL (p ++ l.drop k)) :: mpA bb (locF []) :: mpA nb (intF nx) :: ((p.map onA ++ p.map toA) ++ G))) :
    CyP n w cb (.slice (some ⟨gl, 0, none⟩) l.length c) bb nb opn nx l G (k + 1) ((W.setCell ⟨gl, k * 5 + 1, none⟩ von).setCell ⟨gl, k * 5 + 3, none⟩ vto) := by
  have hlen : (p ++ l.drop k).length = l.length := by rw [List.length_append, List.length_drop]; omega
  have hkk : k < (p ++ l.drop k).length := by omega
  have hat : (p ++ l.drop k)[k] = l[k] := by
    rw [List.getElem_append_right (by omega)]
    simp [hp]
  have h1 := ho.f3.setRow (k * 5 + 1) von
  rw [cellsL_set hkk (by omega) von ⟨l[k].c, von, l[k].vto⟩ (by rw [hat]; rfl)] at h1
  have h2 := h1.setRow (k * 5 + 3) vto
  rw [cellsL_set (l := (p ++ l.drop k).set k ⟨l[k].c, von, l[k].vto⟩) (k := k) (by rw [List.length_set]; omega) (by omega) vto ⟨l[k].c, von, vto⟩ (by rw [List.getElem_set_self]; rfl), List.set_set] at h2
  have he : (p ++ l.drop k).set k ⟨l[k].c, von, vto⟩ = (p ++ [⟨l[k].c, von, vto⟩]) ++ l.drop (k + 1) := by
    rw [List.set_append_right _ _ (by omega), hp, Nat.sub_self, List.drop_eq_getElem_cons hk, List.set_cons_zero, List.append_assoc]; rfl
  rw [he] at h2
  refine ⟨p ++ [⟨l[k].c, von, vto⟩], by rw [List.length_append, hp]; rfl, ?_, ?_⟩
  · rw [List.map_append, hc, List.take_succ_eq_append_getElem hk, List.map_append]; rfl
  · have h3 := h2.f1.f2.f3
    refine Own.perm ?_ (copy_perm p ⟨l[k].c, von, vto⟩ G [blkA cb #[.slice (some ⟨gl, 0, none⟩) l.length c, .map (some bb), .int .i64 opn, .map (some nb)] 69, rowA 64 5 (.slice (some ⟨gl, 0, none⟩) l.length c) l.length (cellsL ((p ++ [⟨l[k].c, von, vto⟩]) ++ l.drop (k + 1))), mpA bb (locF []), mpA nb (intF nx)])
    refine h2.perm ?_
    refine List.Perm.trans (List.Perm.swap _ _ _) (List.Perm.cons _ ?_)
    refine List.Perm.trans (List.Perm.swap _ _ _) (List.Perm.cons _ ?_)
    exact List.Perm.swap _ _ _
theorem cells_own {W : World} {base : Nat} {e : TypeId} {sz : Nat} {A : Option Addr} {k c : Nat} {xs : List Value} (h : W.ownsRow base e sz (.slice A k c) k xs) : Cells W.heap.size W A xs := fun hne => by
  rcases h.2 with ⟨hv, h0⟩ | ⟨g, cap, cur, hv, _, hg, _⟩
  · have := h.1
    exact absurd (List.length_eq_zero_iff.1 (by rw [this, h0, Nat.zero_mul])) hne
  · injection hv with hA _ _
    subst hA
    refine ⟨g, 0, rfl, (Array.getElem?_eq_some_iff.1 hg).1, fun i u hu => ?_⟩
    have hi := (List.getElem?_eq_some_iff.1 hu).1
    rw [Nat.zero_add, h.cellAt i (by have := h.1; omega), hu]
theorem own_newmap (h : Own n w W X) : Own n w (W.alloc (.map #[] 0)) (mpA W.heap.size (locF []) :: X) := h.new (.map #[] 0) (mpA W.heap.size (locF [])) rfl ⟨0, OwnV.made W Try.prog 3⟩
theorem own_clone42 {vl : Value} {l : List Cg} (h : Own n w W X) (hm : rowA 64 5 vl l.length (cellsL l) ∈ X) (h1 : ∀ c ∈ l, c.von.oneCell' = true ∧ c.vto.oneCell' = true) (hl : l.length < 1099511627776) :
    Calls Try.prog 43 #[vl] W fun e W' => ∃ v, e = .returned v ∧ Own n w W' (rowA 64 5 v l.length (cellsL l) :: X) := by
  have hr : W.ownsRow 0 64 5 vl l.length (cellsL l) := h.hold _ hm
  obtain ⟨A, c, rfl⟩ := own_slice hr
  refine (clone42_c A l.length c (cellsL l) W (cellsL_len l) (cells_own hr) (cellsL_one l h1) (by omega)).mono ?_
  rintro e W' ⟨v, rfl, h2, h3⟩
  exact ⟨v, rfl, h.moreRow h3 h2⟩
theorem own_clone43 {b : Nat} {f : Int → Option Value} (h : Own n w W X) (hm : mpA b f ∈ X) :
    Calls Try.prog 44 #[.map (some b)] W fun e W' => ∃ b', e = .returned (.map (some b')) ∧ Own n w W' (mpA b' f :: X) := by
  obtain ⟨s, hs⟩ : ∃ s, OwnV Try.prog 3 W b f s := h.hold _ hm
  obtain ⟨es, clock, hb, ho⟩ := hs.cloned
  refine (clone43_c hb).mono ?_
  rintro e W' ⟨rfl, rfl⟩
  exact ⟨W.heap.size, rfl, h.new _ (mpA W.heap.size f) rfl ⟨s, ho⟩⟩
theorem own_clone44 {b : Nat} {f : Int → Option Value} (h : Own n w W X) (hm : mpA b f ∈ X) :
    Calls Try.prog 45 #[.map (some b)] W fun e W' => ∃ b', e = .returned (.map (some b')) ∧ Own n w W' (mpA b' f :: X) := by
  obtain ⟨s, hs⟩ : ∃ s, OwnV Try.prog 3 W b f s := h.hold _ hm
  obtain ⟨es, clock, hb, ho⟩ := hs.cloned
  refine (clone44_c hb).mono ?_
  rintro e W' ⟨rfl, rfl⟩
  exact ⟨W.heap.size, rfl, h.new _ (mpA W.heap.size f) rfl ⟨s, ho⟩⟩
theorem own_clone31 {v : Value} {on : List Int} (h : Own n w W X) (hm : rowA 3 1 v on.length (ints on) ∈ X) (hl : on.length < 1099511627776) :
    Calls Try.prog 33 #[v] W fun e W' => ∃ v', e = .returned v' ∧ Own n w W' (rowA 3 1 v' on.length (ints on) :: X) := by
  have hr : W.ownsRow 0 3 1 v on.length (ints on) := h.hold _ hm
  obtain ⟨A, c, rfl⟩ := own_slice hr
  refine (clone31_c A on.length c (ints on) W (by rw [ints_len]; omega) (Ints.of_own (B := W.heap.size) hr (Nat.le_refl _)).cells (by intro u hu; unfold ints at hu; obtain ⟨z, _, rfl⟩ := List.mem_map.1 hu; rfl) (by omega)).mono ?_
  rintro e W' ⟨v, rfl, h2, h3⟩
  exact ⟨v, rfl, h.moreRow h3 h2⟩
theorem CyP.start {vl' : Value} {l : List Cg} {bb' nb' : Nat} {opn : Int} {nx : Int → Option Int} (h : Own n w W (mpA nb' (intF nx) :: rowA 64 5 vl' l.length (cellsL l) :: mpA bb' (locF []) :: X)) :
    CyP n w W.heap.size vl' bb' nb' opn nx l X 0 (W.alloc (.cells #[vl', .map (some bb'), .int .i64 opn, .map (some nb')] 69)) := by
  refine ⟨[], rfl, rfl, ?_⟩
  have h1 := h.newBlk #[vl', .map (some bb'), .int .i64 opn, .map (some nb')] 69
  rw [List.drop_zero, List.nil_append]
  refine h1.perm (List.Perm.cons _ ?_)
  refine List.Perm.trans (List.Perm.swap _ _ _) (List.Perm.cons _ ?_)
  exact List.Perm.swap _ _ _
end
end Go.Proofs.Ytjfejimghbohdaa
namespace Go.Proofs.Ytjfejimghbohdaa
set_option linter.unusedVariables false
set_option linter.unusedSimpArgs false
open Go.RowKit Go.Maps

/-- the state while the sets are copied -/
structure CzP (n : Nat) (w : World) (bb sb it : Nat) (bs : List Bs) (Y : List Atom) (left : Int → Bool) (cnt : Nat) (W : World) : Prop where
  ex : ∃ bs' om oi, RngV Try.prog 3 W sb it (locF bs) left cnt ∧ W.heap[sb]? = some om ∧ W.heap[it]? = some oi ∧ (∀ x, (bsAt bs' x).map Bs.set = if left x then none else (bsAt bs x).map Bs.set) ∧ (bs'.map Bs.key).Nodup ∧ Own n w W (objA it oi :: objA sb om :: mpA bb (locF bs') :: (bs'.map Bs.a ++ Y))
section
variable {n g : Nat} {w W : World} {F ps X : List Atom} {st : St}
theorem below_none {a c : World} (h : a.grownBy c none) : Below a.heap.size a c := (Below.refl _ _).grown h (Nat.le_refl _) (fun k hk => by cases hk)
theorem CzP.start {bb sb cnt : Nat} {bs : List Bs} {Y : List Atom} {W1 : World} (ho : Own n w W (mpA sb (locF bs) :: mpA bb (locF []) :: Y)) (hr : RngV Try.prog 3 W1 sb W.heap.size (locF bs) (fun x => ((locF bs) x).isSome) cnt) (hg : W.grownBy W1 none) :
    CzP n w bb sb W.heap.size bs Y (fun x => ((locF bs) x).isSome) cnt W1 := by
  obtain ⟨-, om, oi, h1, h2⟩ := hr.objs
  refine ⟨[], om, oi, hr, h1, h2, fun x => ?_, List.nodup_nil, ?_⟩
  · show none = _
    rw [locF_isSome]
    cases h : bsAt bs x with
    | none => rfl
    | some b => rfl
  · have h3 := ho.more (a := objA W.heap.size oi) (below_none hg) h2 (fun k hk => by cases hk; exact Nat.le_refl _)
    exact (h3.f1.turn (a' := objA sb om) rfl h1).f1
theorem CzP.next {bb sb it cnt1 : Nat} {bs bs' : List Bs} {Y : List Atom} {left1 : Int → Bool} {W1 : World} {om oi : Obj} (ho : Own n w W (objA it oi :: objA sb om :: mpA bb (locF bs') :: (bs'.map Bs.a ++ Y))) (hr : RngV Try.prog 3 W1 sb it (locF bs) left1 cnt1) (hg : W.grownBy W1 (some it)) :
    ∃ oi1, Own n w W1 (objA it oi1 :: objA sb om :: mpA bb (locF bs') :: (bs'.map Bs.a ++ Y)) := by
  obtain ⟨-, om1, oi1, h1, h2⟩ := hr.objs
  exact ⟨oi1, ho.grow (a' := objA it oi1) hg (fun k hk => .inl hk) h2⟩
theorem CzP.put {bb lb : Nat} {bs' : List Bs} {fl : Int → Option Value} {a b : Atom} {R : List Atom} {m : List Int} (ho : Own n w W (mpA lb fl :: a :: b :: mpA bb (locF bs') :: R)) (hm : ∀ x, (locF bs' x).isSome = true → x ∈ m) (hml : m.length < 1099511627776) (x : Int) (hwf : (Lit.int .i64 x).wf = true) :
    ∃ W4, (Instr.mapUpdate 66 (.map (some bb)) (.int .i64 x) (.map (some lb))).run Try.prog W = .ok () W4 ∧ Own n w W4 (mpA bb (fun y => if y = x then some (.map (some lb)) else locF bs' y) :: mpA lb fl :: a :: b :: R) := by
  have h3 := ho.f3
  obtain ⟨s, hs⟩ : ∃ s, OwnV Try.prog 3 W bb (locF bs') s := h3.head
  have hsz := hs.size_le m hm
  obtain ⟨W4, hrun, h4, h5⟩ := hs.update Try.underlying3 Try.underlying66 (by unfold maxLen; omega) x hwf (.map (some lb))
  exact ⟨W4, hrun, h3.grow (a' := mpA bb (fun y => if y = x then some (.map (some lb)) else locF bs' y)) h5 (fun k hk => .inl hk) ⟨_, h4⟩⟩
theorem CzP.step {bb sb it lb cnt1 : Nat} {bs bs' : List Bs} {Y : List Atom} {left : Int → Bool} {W1 : World} {om oi : Obj} {x : Int} {b0 : Bs} (hr : RngV Try.prog 3 W1 sb it (locF bs) (fun z => left z && !decide (z = x)) cnt1) (hm1 : W1.heap[sb]? = some om) (hi1 : W1.heap[it]? = some oi)
    (hset : ∀ x, (bsAt bs' x).map Bs.set = if left x then none else (bsAt bs x).map Bs.set) (hnd : (bs'.map Bs.key).Nodup) (hlx : left x = true) (hb0 : bsAt bs x = some b0)
    (ho : Own n w W (mpA bb (fun y => if y = x then some (.map (some lb)) else locF bs' y) :: mpA lb (setF b0.set) :: objA it oi :: objA sb om :: (bs'.map Bs.a ++ Y))) :
    CzP n w bb sb it bs Y (fun z => left z && !decide (z = x)) cnt1 W := by
  have hno : bsAt bs' x = none := by
    have := hset x
    rw [if_pos hlx] at this
    exact Option.map_eq_none_iff.1 this
  have hno' : bsAt bs' (⟨x, lb, b0.set⟩ : Bs).key = none := hno
  have hm : W.heap[sb]? = some om := ho.hold (objA sb om) (by simp)
  have hi : W.heap[it]? = some oi := ho.hold (objA it oi) (by simp)
  refine ⟨bs' ++ [⟨x, lb, b0.set⟩], om, oi, hr.of hm1 hi1 hm hi, hm, hi, fun y => ?_, keys_snoc hno' hnd, ?_⟩
  · rw [bsAt_snoc hno']
    show Option.map Bs.set (if y = x then _ else _) = _
    by_cases e : y = x
    · subst e
      rw [if_pos rfl, if_neg (by simp), hb0]; rfl
    · rw [if_neg e, hset y]
      cases left y <;> simp [e]
  · rw [locF_snoc hno']
    have h2 := ho.f3.f3
    refine h2.perm ?_
    show (objA it oi :: objA sb om :: mpA bb (fun y => if y = x then some (.map (some lb)) else locF bs' y) :: mpA lb (setF b0.set) :: (bs'.map Bs.a ++ Y)).Perm _
    refine List.Perm.cons _ (List.Perm.cons _ (List.Perm.cons _ ?_))
    rw [List.map_append, List.append_assoc]
    exact List.perm_middle.symm
theorem CzP.done {bb sb it cnt : Nat} {bs : List Bs} {Y : List Atom} {left : Int → Bool} (h : CzP n w bb sb it bs Y left cnt W) (hl : ∀ x, left x = false) :
    ∃ bs', (∀ x, (bsAt bs' x).map Bs.set = (bsAt bs x).map Bs.set) ∧ (bs'.map Bs.key).Nodup ∧ Own n w W (mpA sb (locF bs) :: mpA bb (locF bs') :: (bs'.map Bs.a ++ Y)) := by
  obtain ⟨bs', om, oi, hr, h1, h2, h3, h4, h5⟩ := h.ex
  exact ⟨bs', fun x => by rw [h3 x, hl x]; rfl, h4, h5.tail.turn (a' := mpA sb (locF bs)) rfl hr.own⟩
/-- the source's parts: the map of its sets ahead -/
theorem gParts_sets (g : Nat) (vl : Value) (l : List Cg) (sb nb : Nat) (opn : Int) (bs : List Bs) (nx : Int → Option Int) (G : List Atom) :
    (gParts g vl l sb nb opn bs nx ++ G).Perm (mpA sb (locF bs) :: (blkA g #[vl, .map (some sb), .int .i64 opn, .map (some nb)] 69 :: rowA 64 5 vl l.length (cellsL l) :: mpA nb (intF nx) :: (l.map onA ++ (l.map toA ++ bs.map Bs.a)) ++ G)) := by
  unfold gParts
  exact List.perm_middle (l₁ := [blkA g #[vl, .map (some sb), .int .i64 opn, .map (some nb)] 69, rowA 64 5 vl l.length (cellsL l)])
end
end Go.Proofs.Ytjfejimghbohdaa
