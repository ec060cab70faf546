/-
  The walks of of, Holds, Waits. Conditions: lengths.
-/
import Derived.Test.YtcmiboipgngjaaaC
import Derived.Test.YtcmiboipgngjaaaZ
namespace Go.Proofs.Ytcmiboipgngjaaa
set_option linter.unusedVariables false
set_option linter.unusedSimpArgs false
open Go.RowKit Go.Maps

theorem zero54 (W : World) : (zeroValue 54).run Try.prog W = .ok (.pointer none) W := by kernel_rfl
theorem zero27 (W : World) : (zeroValue 27).run Try.prog W = .ok (.agg #[.int .i64 0, .int .i64 0, .bool false]) W := by kernel_rfl
def Tm.rest (M : (Int → Option Value) → Atom) (g bt bw : Nat) (l1 : List Tm) (t : Tm) (l2 : List Tm) (f : Int → Option Lk) : List Atom :=
  blkA g #[.map (some bt), .map (some bw)] 53 :: M (locT (l1 ++ t :: l2)) :: mpA bw (waitF f) :: (l1.flatMap Tm.parts ++ l2.flatMap Tm.parts)
theorem tm_perm (M : (Int → Option Value) → Atom) (g bt bw : Nat) (l1 : List Tm) (t : Tm) (l2 : List Tm) (f : Int → Option Lk) (F : List Atom) :
    (tPartsM M g bt bw (l1 ++ t :: l2) f ++ F).Perm (blkA t.x #[t.vh, t.vw] 59 :: offA 3 t.vh t.h.length (cellsK t.h) :: offA 3 t.vw t.w.length (cellsK t.w) :: (Tm.rest M g bt bw l1 t l2 f ++ F)) := by
  unfold tPartsM Tm.rest
  rw [List.flatMap_append, List.flatMap_cons]
  show (blkA g #[.map (some bt), .map (some bw)] 53 :: M _ :: mpA bw _ :: (l1.flatMap Tm.parts ++ (t.parts ++ l2.flatMap Tm.parts) ++ F)).Perm _
  have h : (l1.flatMap Tm.parts ++ (t.parts ++ l2.flatMap Tm.parts) ++ F).Perm (t.parts ++ (l1.flatMap Tm.parts ++ l2.flatMap Tm.parts ++ F)) := by
    rw [List.append_assoc, List.append_assoc, List.append_assoc]
    exact (List.perm_append_comm_assoc _ _ _)
  refine ((((h.cons _).cons _).cons _).trans ?_)
  show ([blkA g #[.map (some bt), .map (some bw)] 53, M _, mpA bw _] ++ (t.parts ++ _)).Perm (t.parts ++ ([blkA g #[.map (some bt), .map (some bw)] 53, M _, mpA bw _] ++ _))
  exact List.perm_append_comm_assoc _ _ _
theorem locT_set {l1 l2 : List Tm} {t t' : Tm} (h1 : t'.n = t.n) (h2 : t'.x = t.x) : locT (l1 ++ t' :: l2) = locT (l1 ++ t :: l2) := by
  funext k
  unfold locT
  rw [List.find?_append, List.find?_append, List.find?_cons, List.find?_cons, h1]
  cases List.find? (fun t => t.n == k) l1 <;> cases (t.n == k) <;> simp [h2]
section
variable {n : Nat} {w W : World} {F : List Atom} {g bt bw : Nat} {l l1 l2 : List Tm} {t t' : Tm} {f f' : Int → Option Lk} {M : (Int → Option Value) → Atom}
theorem tm_open (h : Own n w W (tPartsM M g bt bw (l1 ++ t :: l2) f ++ F)) : Own n w W (blkA t.x #[t.vh, t.vw] 59 :: offA 3 t.vh t.h.length (cellsK t.h) :: offA 3 t.vw t.w.length (cellsK t.w) :: (Tm.rest M g bt bw l1 t l2 f ++ F)) := h.perm (tm_perm _ _ _ _ _ _ _ _ _)
theorem tm_shut (h1 : t'.n = t.n) (h2 : t'.x = t.x) (h : Own n w W (blkA t'.x #[t'.vh, t'.vw] 59 :: offA 3 t'.vh t'.h.length (cellsK t'.h) :: offA 3 t'.vw t'.w.length (cellsK t'.w) :: (Tm.rest M g bt bw l1 t l2 f ++ F))) : Own n w W (tPartsM M g bt bw (l1 ++ t' :: l2) f ++ F) := by
  refine h.perm (List.Perm.trans ?_ (tm_perm M g bt bw l1 t' l2 f F).symm)
  unfold Tm.rest
  rw [locT_set h1 h2]
/-- the two cells of the table and its maps -/
theorem tab_cells (h : Own n w W (tPartsM M g bt bw l f ++ F)) (hM : MapLike bt M := by first | assumption | exact mlike _) : W.cell? ⟨g, 0, none⟩ = some (.map (some bt)) ∧ W.cell? ⟨g, 1, none⟩ = some (.map (some bw)) ∧ (∃ s, OwnV Try.prog 3 W bt (locT l) s) ∧ ∃ s, OwnV Try.prog 3 W bw (waitF f) s := by
  have hb : Blk W g #[.map (some bt), .map (some bw)] 53 := h.hold (blkA g #[.map (some bt), .map (some bw)] 53) (by simp [tPartsM])
  exact ⟨hb.cell 0, hb.cell 1, hM.own _ _ (h.hold (M (locT l)) (by simp [tPartsM])), h.hold (mpA bw (waitF f)) (by simp [tPartsM])⟩
theorem look_things (h : Own n w W (tPartsM M g bt bw l f ++ F)) (k : Int) (hw : (Lit.int .i64 k).wf = true) (hM : MapLike bt M := by first | assumption | exact mlike _) : (Instr.lookup 50 (.map (some bt)) (.int .i64 k) false).run Try.prog W = .ok ((locT l k).getD (.pointer none)) W := by
  obtain ⟨-, -, ⟨s, hs⟩, -⟩ := tab_cells h
  exact hs.look0 Try.underlying3 Try.underlying50 (zero54 W) k hw
theorem look_waits (h : Own n w W (tPartsM M g bt bw l f ++ F)) (k : Int) (hw : (Lit.int .i64 k).wf = true) (hM : MapLike bt M := by first | assumption | exact mlike _) : (Instr.lookup 51 (.map (some bw)) (.int .i64 k) true).run Try.prog W = .ok (.tuple #[(waitF f k).getD (.agg #[.int .i64 0, .int .i64 0, .bool false]), .bool (waitF f k).isSome]) W := by
  obtain ⟨-, -, -, ⟨s, hs⟩⟩ := tab_cells h
  exact hs.look Try.underlying3 Try.underlying51 (zero27 W) k hw
theorem locT_some {l : List Tm} {k : Int} {t : Tm} (h : l.find? (fun t => t.n == k) = some t) : locT l k = some (.pointer (some ⟨t.x, 0, none⟩)) := by unfold locT; rw [h]; rfl
theorem locT_none {l : List Tm} {k : Int} (h : l.find? (fun t => t.n == k) = none) : locT l k = none := by unfold locT; rw [h]; rfl
theorem locT_snoc {l : List Tm} {t : Tm} (h : l.find? (fun x => x.n == t.n) = none) : locT (l ++ [t]) = fun x => if x = t.n then some (.pointer (some ⟨t.x, 0, none⟩)) else locT l x := by
  funext k
  unfold locT
  rw [List.find?_append]
  by_cases e : k = t.n
  · subst e
    rw [h, if_pos rfl]
    simp
  · rw [if_neg e]
    have : ¬ t.n = k := fun x => e x.symm
    simp [this]
def OfR (l : List Tm) (k : Int) (l' : List Tm) (t : Tm) : Prop :=
  (l' = l ∧ l.find? (fun t => t.n == k) = some t) ∨ (l.find? (fun t => t.n == k) = none ∧ l' = l ++ [t] ∧ ∃ x, t = ⟨k, x, .slice none 0 0, .slice none 0 0, [], []⟩)
theorem put_mp {n : Nat} {w W : World} {b : Nat} {f : Int → Option Value} {R : List Atom} (ho : Own n w W (mpA b f :: R)) (t et : TypeId) (ht : Try.prog.underlying t = some (.map 3 et)) (m : List Int) (hm : ∀ x, (f x).isSome = true → x ∈ m) (hml : m.length < 1099511627776) (x : Int) (v : Value) (hwf : (Lit.int .i64 x).wf = true) :
    ∃ W4, (Instr.mapUpdate t (.map (some b)) (.int .i64 x) v).run Try.prog W = .ok () W4 ∧ Own n w W4 (mpA b (fun y => if y = x then some v else f y) :: R) ∧ W.grownBy W4 (some b) := by
  obtain ⟨s, hs⟩ : ∃ s, OwnV Try.prog 3 W b f s := ho.head
  have hsz := hs.size_le m hm
  obtain ⟨W4, hrun, h4, h5⟩ := hs.update Try.underlying3 ht (by unfold maxLen; omega) x hwf v
  exact ⟨W4, hrun, ho.grow (a' := mpA b (fun y => if y = x then some v else f y)) h5 (fun k hk => .inl hk) ⟨_, h4⟩, h5⟩
theorem del_mp {n : Nat} {w W : World} {b : Nat} {f : Int → Option Value} {R : List Atom} (ho : Own n w W (mpA b f :: R)) (t et : TypeId) (ht : Try.prog.underlying t = some (.map 3 et)) (x : Int) (hwf : (Lit.int .i64 x).wf = true) (ty : TypeId) :
    ∃ W4, (Builtin.delete_ #[t, 3] ty #[.map (some b), .int .i64 x]).run Try.prog W = .ok (.tuple #[]) W4 ∧ Own n w W4 (mpA b (fun y => if y = x then none else f y) :: R) ∧ W.grownBy W4 (some b) := by
  obtain ⟨s, hs⟩ : ∃ s, OwnV Try.prog 3 W b f s := ho.head
  obtain ⟨W4, hrun, h4, h5⟩ := hs.drop Try.underlying3 ht x hwf ty
  exact ⟨W4, hrun, ho.grow (a' := mpA b (fun y => if y = x then none else f y)) h5 (fun k hk => .inl hk) ⟨_, h4⟩, h5⟩
theorem locT_keys {l : List Tm} {x : Int} (h : (locT l x).isSome = true) : x ∈ l.map Tm.n := by
  unfold locT at h
  cases hf : l.find? (fun t => t.n == x) with
  | none => rw [hf] at h; cases h
  | some t => exact List.mem_map.2 ⟨t, List.mem_of_find?_eq_some hf, by have := List.find?_some hf; simpa using this⟩
set_option maxHeartbeats 1000000 in
theorem of_c (h : Own n w W (tParts g bt bw l f ++ F)) (k : Int) (hw : (Lit.int .i64 k).wf = true) (hl : l.length < 1099511627776) :
    Calls Try.prog 25 #[.pointer (some ⟨g, 0, none⟩), .int .i64 k] W fun e W' => ∃ l' t, OfR l k l' t ∧ e = .returned (.pointer (some ⟨t.x, 0, none⟩)) ∧ Own n w W' (tParts g bt bw l' f ++ F) := by
  obtain ⟨z0, z1, -, -⟩ := tab_cells h
  have hlk := look_things h k hw
  cases hf : l.find? (fun t => t.n == k) with
  | some t =>
    rw [locT_some hf] at hlk
    have H := hide h
    clear h
    go_enter Try.func25, Try.ntmps25
    go_wp2
    go_ret
    exact ⟨l, t, .inl ⟨rfl, hf⟩, rfl, H.out⟩
  | none =>
    rw [locT_none hf] at hlk
    have h1 := h.newBlk #[.slice none 0 0, .slice none 0 0] 59
    have h2 : Own n w (W.alloc (.cells #[.slice none 0 0, .slice none 0 0] 59)) (mpA bt (locT l) :: blkA W.heap.size #[.slice none 0 0, .slice none 0 0] 59 :: blkA g #[.map (some bt), .map (some bw)] 53 :: mpA bw (waitF f) :: (l.flatMap Tm.parts ++ F)) := h1.f2
    obtain ⟨W4, hrun, h4, -⟩ := put_mp h2 50 54 Try.underlying50 (l.map Tm.n) (fun x hx => locT_keys hx) (by simpa using hl) k (.pointer (some ⟨W.heap.size, 0, none⟩)) hw
    have h5 : Own n w W4 (tParts g bt bw (l ++ [⟨k, W.heap.size, .slice none 0 0, .slice none 0 0, [], []⟩]) f ++ F) := by
      unfold tParts tPartsM
      rw [locT_snoc (t := ⟨k, W.heap.size, .slice none 0 0, .slice none 0 0, [], []⟩) hf]
      have h6 := ((h4.f1.nilOff 3).nilOff 3)
      refine h6.perm ?_
      simpa [Tm.parts, cellsK] using permB [[offA 3 (.slice none 0 0) 0 []], [blkA g #[.map (some bt), .map (some bw)] 53], [mpA bt (fun y => if y = k then some (.pointer (some ⟨W.heap.size, 0, none⟩)) else locT l y)], [blkA W.heap.size #[.slice none 0 0, .slice none 0 0] 59], [mpA bw (waitF f)], l.flatMap Tm.parts, F] [0, 0, 3, 2, 1, 4, 5, 6] [1, 2, 4, 5, 3, 0, 0, 6] (by decide)
    obtain ⟨y0, y1, -, -⟩ := tab_cells h5
    have hlk2 := look_things h5 k hw
    rw [locT_snoc (t := ⟨k, W.heap.size, .slice none 0 0, .slice none 0 0, [], []⟩) hf] at hlk2
    dsimp only at hlk2
    rw [if_pos rfl] at hlk2
    have H := hide h5
    have zz0 : (W.alloc (.cells #[.slice none 0 0, .slice none 0 0] 59)).cell? ⟨g, 0, none⟩ = some (.map (some bt)) := (h2.hold (blkA g #[.map (some bt), .map (some bw)] 53) (by simp)).cell 0
    clear h h1 h2 h4 h5
    go_enter Try.func25, Try.ntmps25
    go_wp2
    go_ret
    exact ⟨_, ⟨k, W.heap.size, .slice none 0 0, .slice none 0 0, [], []⟩, .inr ⟨hf, rfl, _, rfl⟩, rfl, H.out⟩
theorem cellsK_len (l : List Lk) : (cellsK l).length = l.length * 3 := by
  unfold cellsK
  induction l with
  | nil => rfl
  | cons c l ih => rw [List.flatMap_cons, List.length_append, ih]; simp [Lk.cells]; omega
theorem cellsK_append (a b : List Lk) : cellsK (a ++ b) = cellsK a ++ cellsK b := by unfold cellsK; rw [List.flatMap_append]
theorem cellsK_cons (x : Lk) (b : List Lk) : cellsK (x :: b) = x.cells ++ cellsK b := rfl
theorem cellsK_at {l : List Lk} {k : Nat} (h : k < l.length) {i : Nat} (hi : i < 3) : (cellsK l)[k * 3 + i]? = (l[k].cells)[i]? := by
  have e : l = l.take k ++ l[k] :: l.drop (k + 1) := by rw [List.getElem_cons_drop, List.take_append_drop]
  conv => lhs; rw [e]
  rw [cellsK_append, List.getElem?_append_right (by rw [cellsK_len, List.length_take]; omega), cellsK_len, List.length_take, Nat.min_eq_left (by omega), Nat.add_sub_cancel_left]
  show (l[k].cells ++ cellsK _)[i]? = _
  rw [List.getElem?_append_left (by simp [Lk.cells]; omega)]
theorem off_slice {w : World} {sz n : Nat} {v : Value} {xs : List Value} (h : offRow w sz v n xs) : ∃ A c, v = .slice A n c := by
  rcases h.2 with ⟨rfl, rfl⟩ | ⟨g, off, cap, rfl, _⟩ <;> exact ⟨_, _, rfl⟩
theorem off_lks {w : World} {A : Option Addr} {n c : Nat} {l : List Lk} (h : offRow w 3 (.slice A n c) n (cellsK l)) : LksAt w A l := fun hne => by
  have hn : l.length * 3 = n * 3 := by rw [← cellsK_len]; exact h.1
  have hp := List.length_pos_iff.2 hne
  rcases h.2 with ⟨h1, h2⟩ | ⟨g, off, cap, h1, h2, h3, h4, h5, h6⟩
  · omega
  · injection h1 with h1 _ _
    refine ⟨g, off, h1, fun k hk => ?_⟩
    have q := fun (i : Nat) (hi : i < 3) => h5 (k * 3 + i) ((l[k].cells)[i]?.getD undef) (by
      rw [cellsK_at hk hi]
      have : i < l[k].cells.length := by simpa [Lk.cells] using hi
      simp [this])
    refine ⟨?_, ?_, ?_⟩
    · exact (by have := q 0 (by omega); simpa [Lk.cells] using this)
    · exact (by have := q 1 (by omega); simpa [Lk.cells, Nat.add_assoc] using this)
    · exact (by have := q 2 (by omega); simpa [Lk.cells, Nat.add_assoc] using this)
def holdsL (l : List Tm) (k th : Int) : Bool := match l.find? (fun t => t.n == k) with | some t => t.h.any (fun x => x.th == th) | none => false
theorem find_split {l : List Tm} {k : Int} {t : Tm} (h : l.find? (fun t => t.n == k) = some t) : t.n = k ∧ ∃ l1 l2, l = l1 ++ t :: l2 := by
  obtain ⟨h1, l1, l2, rfl, _⟩ := List.find?_eq_some_iff_append.1 h
  exact ⟨by simpa using h1, l1, l2, rfl⟩
/-- the cells of one thing -/
theorem tm_cells (h : Own n w W (tPartsM M g bt bw (l1 ++ t :: l2) f ++ F)) : ∃ Ah ch Aw cw, t.vh = .slice Ah t.h.length ch ∧ t.vw = .slice Aw t.w.length cw ∧ W.cell? ⟨t.x, 0, none⟩ = some (.slice Ah t.h.length ch) ∧ W.cell? ⟨t.x, 1, none⟩ = some (.slice Aw t.w.length cw) ∧ LksAt W Ah t.h ∧ LksAt W Aw t.w := by
  have ho := tm_open h
  have hb : Blk W t.x #[t.vh, t.vw] 59 := ho.head
  have h1 : offRow W 3 t.vh t.h.length (cellsK t.h) := ho.hold (offA 3 t.vh t.h.length (cellsK t.h)) (by simp)
  have h2 : offRow W 3 t.vw t.w.length (cellsK t.w) := ho.hold (offA 3 t.vw t.w.length (cellsK t.w)) (by simp)
  obtain ⟨Ah, ch, e1⟩ := off_slice h1
  obtain ⟨Aw, cw, e2⟩ := off_slice h2
  have c0 := hb.cell 0
  have c1 := hb.cell 1
  rw [e1] at c0 h1
  rw [e2] at c1 h2
  exact ⟨Ah, ch, Aw, cw, e1, e2, c0, c1, off_lks h1, off_lks h2⟩
def hmf : Prop := ∀ (fn : Fn) (first cap : Array Value) (w : World), (Instr.makeFunc fn first cap).run Try.prog w = .ok (.func fn first cap) w
theorem hmf_ : hmf := fun _ _ _ _ => rfl
set_option maxHeartbeats 1000000 in
theorem holds_c (h : Own n w W (tPartsM M g bt bw l f ++ F)) (k th : Int) (hw : (Lit.int .i64 k).wf = true) (hl : ∀ t ∈ l, t.h.length < 1099511627776) (hM : MapLike bt M := by first | assumption | exact mlike _) :
    Calls Try.prog 16 #[.pointer (some ⟨g, 0, none⟩), .int .i64 th, .int .i64 k] W fun e W' => e = .returned (.bool (holdsL l k th)) ∧ Below W.heap.size W W' := by
  have h1 := h.alloc (.cells #[.int .i64 th] 3)
  obtain ⟨z0, -, -, -⟩ := tab_cells h1
  have hlk := look_things h1 k hw
  have hmf := hmf_
  unfold Go.Proofs.Ytcmiboipgngjaaa.hmf at hmf
  unfold holdsL
  have HB := hide ((Below.refl W.heap.size W).alloc (Nat.le_refl _) (.cells #[.int .i64 th] 3))
  cases hf : l.find? (fun t => t.n == k) with
  | none =>
    rw [locT_none hf] at hlk
    clear h h1
    go_enter Try.func16, Try.ntmps16
    go_wp2
    go_ret
    exact ⟨rfl, HB.out⟩
  | some t =>
    rw [locT_some hf] at hlk
    obtain ⟨e, l1, l2, rfl⟩ := find_split hf
    obtain ⟨Ah, ch, Aw, cw, e1, e2, c0, c1, hk, -⟩ := tm_cells h1
    have hll := hl t (by simp)
    have HC := hide (contains36_c Ah ch W.heap.size t.h th _ hk (by simp) (by omega))
    clear h h1 hf e1 e2 c1 hk e hl
    dsimp only
    generalize t.h.any (fun x => x.th == th) = a at HC
    generalize t.h.length = m at c0 HC hll
    generalize t.x = x at c0 hlk
    go_enter Try.func16, Try.ntmps16
    go_wp2_with (go_at_call 35; refine HC.out.mono ?_; rintro e w' ⟨rfl, hb2⟩; have HB2 := hide hb2; clear hb2)
    go_ret
    exact ⟨rfl, HB.out.trans (HB2.out.mono HB.out.size)⟩
end
end Go.Proofs.Ytcmiboipgngjaaa
