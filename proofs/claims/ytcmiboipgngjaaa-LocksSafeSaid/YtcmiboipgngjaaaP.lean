/-
  What a call's own blocks hold, part by part, no part touching another. General words over any program; no condition.
-/
import Derived.Test.YtcmiboipgngjaaaH
import Derived.Test.YtcmiboipgngjaaaV
import Derived.RangeFuncNested
namespace Go.Proofs.Ytcmiboipgngjaaa
open Go.RowKit Go.Maps
set_option linter.unusedVariables false
set_option linter.unusedSimpArgs false

/-- a part of memory: its block (none: it has none), and what holds of the world, by that block alone -/
structure Atom where
  b : Option Nat
  Q : World → Prop
  loc : ∀ {W W' : World}, (∀ k, b = some k → W'.heap[k]? = W.heap[k]?) → Q W → Q W'
  lt : ∀ {W : World}, Q W → ∀ k, b = some k → k < W.heap.size
/-- two parts have no block in common -/
def Far (a a' : Atom) : Prop := ∀ k, a.b = some k → a'.b ≠ some k
theorem Far.symm {a a' : Atom} (h : Far a a') : Far a' a := fun k hk hk' => h k hk' hk
/-- the world W holds the parts as, all in blocks from n on, and is below n as w was -/
structure Own (n : Nat) (w W : World) (atoms : List Atom) : Prop where
  below : Below n w W
  sz : n ≤ W.heap.size
  hold : ∀ a ∈ atoms, a.Q W
  base : ∀ a ∈ atoms, ∀ k, a.b = some k → n ≤ k
  apart : atoms.Pairwise Far
namespace Own
variable {n : Nat} {w W W' : World} {atoms bs : List Atom} {a a' : Atom}
theorem start (w : World) : Own w.heap.size w w [] := ⟨Below.refl _ _, Nat.le_refl _, by simp, by simp, List.Pairwise.nil⟩
theorem perm (h : Own n w W atoms) (p : atoms.Perm bs) : Own n w W bs :=
  ⟨h.below, h.sz, fun a ha => h.hold a (p.mem_iff.2 ha), fun a ha => h.base a (p.mem_iff.2 ha), (p.pairwise_iff (fun {a b} => Far.symm)).1 h.apart⟩
theorem sub (h : Own n w W atoms) (p : bs.Sublist atoms) : Own n w W bs :=
  ⟨h.below, h.sz, fun a ha => h.hold a (p.subset ha), fun a ha => h.base a (p.subset ha), h.apart.sublist p⟩
theorem tail (h : Own n w W (a :: atoms)) : Own n w W atoms := h.sub (List.sublist_cons_self _ _)
theorem head (h : Own n w W (a :: atoms)) : a.Q W := h.hold a List.mem_cons_self
theorem far (h : Own n w W (a :: atoms)) (ha : a' ∈ atoms) : Far a a' := (List.pairwise_cons.1 h.apart).1 a' ha
/-- what is known of a part's block is what holds of it alone -/
theorem turn (h : Own n w W (a :: atoms)) (hb : a'.b = a.b) (hq : a'.Q W) : Own n w W (a' :: atoms) := by
  refine ⟨h.below, h.sz, fun x hx => ?_, fun x hx => ?_, ?_⟩
  · rcases List.mem_cons.1 hx with rfl | hx
    · exact hq
    · exact h.hold x (List.mem_cons_of_mem _ hx)
  · rcases List.mem_cons.1 hx with rfl | hx
    · rw [hb]; exact h.base a List.mem_cons_self
    · exact h.base x (List.mem_cons_of_mem _ hx)
  · refine List.pairwise_cons.2 ⟨fun x hx k hk => h.far hx k (hb ▸ hk), (List.pairwise_cons.1 h.apart).2⟩
/-- a part with no block is there at will -/
theorem bare (h : Own n w W atoms) (hb : a.b = none) (hq : a.Q W) : Own n w W (a :: atoms) :=
  ⟨h.below, h.sz, fun x hx => (List.mem_cons.1 hx).elim (fun e => e ▸ hq) (h.hold x), fun x hx => (List.mem_cons.1 hx).elim (fun e k hk => (by rw [e, hb] at hk; cases hk)) (h.base x),
    List.pairwise_cons.2 ⟨fun x hx k hk => (by rw [hb] at hk; cases hk), h.apart⟩⟩
/-- other blocks than the parts' have turned, or new ones have come -/
theorem kept (h : Own n w W atoms) (hb : Below n W W') (hk : ∀ a ∈ atoms, ∀ k, a.b = some k → W'.heap[k]? = W.heap[k]?) : Own n w W' atoms :=
  ⟨h.below.trans hb, Nat.le_trans h.sz hb.size, fun a ha => a.loc (hk a ha) (h.hold a ha), h.base, h.apart⟩
theorem above (h : Own n w W atoms) (hb : Below W.heap.size W W') : Own n w W' atoms :=
  h.kept (hb.mono h.sz) (fun a ha k hk => hb.block k (a.lt (h.hold a ha) k hk))
theorem alloc (h : Own n w W atoms) (o : Obj) : Own n w (W.alloc o) atoms := h.above ((Below.refl _ _).alloc (Nat.le_refl _) o)
theorem drewN (h : Own n w W atoms) (q : Nat) : Own n w (W.drewN q) atoms := h.above (below_drewN' (Below.refl _ _) q)
theorem drew (h : Own n w W atoms) : Own n w W.drew atoms := h.above ((Below.refl _ _).drew)
/-- a part that came new -/
theorem more (h : Own n w W atoms) (hb : Below W.heap.size W W') (hq : a.Q W') (hf : ∀ k, a.b = some k → W.heap.size ≤ k) : Own n w W' (a :: atoms) := by
  have h' := h.above hb
  refine ⟨h'.below, h'.sz, fun x hx => (List.mem_cons.1 hx).elim (fun e => e ▸ hq) (h'.hold x), fun x hx => (List.mem_cons.1 hx).elim (fun e k hk => ?_) (h'.base x), List.pairwise_cons.2 ⟨fun x hx k hk hk' => ?_, h'.apart⟩⟩
  · subst e; exact Nat.le_trans h.sz (hf k hk)
  · have := hf k hk
    have := x.lt (h.hold x hx) k hk'
    omega
theorem new (h : Own n w W atoms) (o : Obj) (a : Atom) (hb : a.b = some W.heap.size) (hq : a.Q (W.alloc o)) : Own n w (W.alloc o) (a :: atoms) :=
  h.more ((Below.refl _ _).alloc (Nat.le_refl _) o) hq (fun k hk => by rw [hb] at hk; cases hk; exact Nat.le_refl _)
/-- a part has turned, in its block or into a new one -/
theorem grow (h : Own n w W (a :: atoms)) (hg : W.grownBy W' a.b) (hb : ∀ k, a'.b = some k → a.b = some k ∨ W.heap.size ≤ k) (hq : a'.Q W') : Own n w W' (a' :: atoms) := by
  have hbel : Below n W W' := (Below.refl n W).grown hg h.sz (fun k hk => h.base a List.mem_cons_self k hk)
  have h' : Own n w W' atoms := h.tail.kept hbel (fun x hx k hk => hg.block k (x.lt (h.tail.hold x hx) k hk) (fun e => h.far hx k e.symm hk))
  refine ⟨h'.below, h'.sz, fun x hx => (List.mem_cons.1 hx).elim (fun e => e ▸ hq) (h'.hold x), fun x hx => (List.mem_cons.1 hx).elim (fun e k hk => ?_) (h'.base x), List.pairwise_cons.2 ⟨fun x hx k hk hk' => ?_, h'.apart⟩⟩
  · subst e
    rcases hb k hk with h1 | h1
    · exact h.base a List.mem_cons_self k h1
    · exact Nat.le_trans h.sz h1
  · rcases hb k hk with h1 | h1
    · exact h.far hx k h1 hk'
    · have := x.lt (h.tail.hold x hx) k hk'
      omega
/-- a store into a part's block -/
theorem set (h : Own n w W (a :: atoms)) (p : Addr) (u : Value) (hp : a.b = some p.block) (hb : a'.b = a.b) (hq : a'.Q (W.setCell p u)) : Own n w (W.setCell p u) (a' :: atoms) :=
  h.grow (W' := W.setCell p u) ⟨rfl, rfl, rfl, by simp [World.setCell], fun k _ hk => Below.heap_setCell W p u k (fun e => hk (by rw [hp, e]))⟩ (fun k hk => .inl (hb ▸ hk)) hq
theorem swap (h : Own n w W (a :: a' :: atoms)) : Own n w W (a' :: a :: atoms) := h.perm (.swap _ _ _)
/-- the part behind those of l to the front -/
theorem front {l : List Atom} (h : Own n w W (l ++ a :: atoms)) : Own n w W (a :: (l ++ atoms)) := h.perm List.perm_middle
theorem back {l : List Atom} (h : Own n w W (a :: (l ++ atoms))) : Own n w W (l ++ a :: atoms) := h.perm List.perm_middle.symm
theorem f1 {x0 x1 : Atom} (h : Own n w W (x0 :: x1 :: atoms)) : Own n w W (x1 :: x0 :: atoms) := h.perm (List.perm_middle (l₁ := [x0]))
theorem f2 {x0 x1 x2 : Atom} (h : Own n w W (x0 :: x1 :: x2 :: atoms)) : Own n w W (x2 :: x0 :: x1 :: atoms) := h.perm (List.perm_middle (l₁ := [x0, x1]))
theorem f3 {x0 x1 x2 x3 : Atom} (h : Own n w W (x0 :: x1 :: x2 :: x3 :: atoms)) : Own n w W (x3 :: x0 :: x1 :: x2 :: atoms) := h.perm (List.perm_middle (l₁ := [x0, x1, x2]))
theorem f4 {x0 x1 x2 x3 x4 : Atom} (h : Own n w W (x0 :: x1 :: x2 :: x3 :: x4 :: atoms)) : Own n w W (x4 :: x0 :: x1 :: x2 :: x3 :: atoms) := h.perm (List.perm_middle (l₁ := [x0, x1, x2, x3]))
theorem f5 {x0 x1 x2 x3 x4 x5 : Atom} (h : Own n w W (x0 :: x1 :: x2 :: x3 :: x4 :: x5 :: atoms)) : Own n w W (x5 :: x0 :: x1 :: x2 :: x3 :: x4 :: atoms) := h.perm (List.perm_middle (l₁ := [x0, x1, x2, x3, x4]))
theorem f6 {x0 x1 x2 x3 x4 x5 x6 : Atom} (h : Own n w W (x0 :: x1 :: x2 :: x3 :: x4 :: x5 :: x6 :: atoms)) : Own n w W (x6 :: x0 :: x1 :: x2 :: x3 :: x4 :: x5 :: atoms) := h.perm (List.perm_middle (l₁ := [x0, x1, x2, x3, x4, x5]))
theorem f7 {x0 x1 x2 x3 x4 x5 x6 x7 : Atom} (h : Own n w W (x0 :: x1 :: x2 :: x3 :: x4 :: x5 :: x6 :: x7 :: atoms)) : Own n w W (x7 :: x0 :: x1 :: x2 :: x3 :: x4 :: x5 :: x6 :: atoms) := h.perm (List.perm_middle (l₁ := [x0, x1, x2, x3, x4, x5, x6]))
end Own
/-- a row of elements of type e, sz cells each, in a block of its own (or nil) -/
def rowA (e : TypeId) (sz : Nat) (v : Value) (n : Nat) (xs : List Value) : Atom where
  b := v.ownBlock
  Q W := W.ownsRow 0 e sz v n xs
  loc := fun {W W'} h hq => by
    refine ⟨hq.1, ?_⟩
    rcases hq.2 with h2 | ⟨g, cap, cur, rfl, hb, hg, r⟩
    · exact .inl h2
    · exact .inr ⟨g, cap, cur, rfl, hb, (h g rfl).trans hg, r⟩
  lt := fun hq k hk => (hq.lt k hk).2
/-- a block that is known whole -/
def blkA (b : Nat) (cs : Array Value) (t : TypeId) : Atom where
  b := some b
  Q W := Blk W b cs t
  loc := fun h hq => hq.same (h b rfl)
  lt := fun hq k hk => by cases hk; exact hq.lt
/-- a map with whole numbers for keys -/
def mapA (P : Program) (kt : TypeId) (b : Nat) (f : Int → Option Value) (s : Nat) : Atom where
  b := some b
  Q W := OwnV P kt W b f s
  loc := fun h hq => hq.same (h b rfl)
  lt := fun hq k hk => by cases hk; exact hq.lt
/-- a block that is taken, whatever it holds -/
def resA (b : Nat) : Atom where
  b := some b
  Q W := b < W.heap.size
  loc := fun {W W'} h hq => by
    have := h b rfl
    rw [Array.getElem?_eq_getElem hq] at this
    exact (Array.getElem?_eq_some_iff.1 this).1
  lt := fun hq k hk => by cases hk; exact hq
theorem Own.putObj {n : Nat} {w W : World} {atoms : List Atom} {l : Nat} (h : Own n w W (resA l :: atoms)) (o' : Obj) : Own n w (W.putObj l o') (resA l :: atoms) :=
  h.grow (grownBy_putObj' W l o') (fun k hk => .inl hk) (by have hh : l < W.heap.size := h.head; show l < (W.putObj l o').heap.size; simpa [World.putObj] using hh)
theorem row_base {W : World} {base : Nat} {e : TypeId} {sz : Nat} {v : Value} {n : Nat} {xs : List Value} (h : W.ownsRow base e sz v n xs) : W.ownsRow 0 e sz v n xs := by
  refine ⟨h.1, ?_⟩
  rcases h.2 with h2 | ⟨g, cap, cur, rfl, hb, r⟩
  · exact .inl h2
  · exact .inr ⟨g, cap, cur, rfl, Nat.zero_le _, r⟩
theorem row_from {W : World} {base : Nat} {e : TypeId} {sz : Nat} {v : Value} {n : Nat} {xs : List Value} (h : W.ownsRow 0 e sz v n xs) (hb : ∀ k, v.ownBlock = some k → base ≤ k) : W.ownsRow base e sz v n xs := by
  refine ⟨h.1, ?_⟩
  rcases h.2 with h2 | ⟨g, cap, cur, rfl, _, r⟩
  · exact .inl h2
  · exact .inr ⟨g, cap, cur, rfl, hb g rfl, r⟩
section
variable {n : Nat} {w W W' : World} {atoms : List Atom} {e : TypeId} {sz : Nat} {v v' : Value} {k m : Nat} {xs ys : List Value}
theorem Own.row (h : Own n w W (rowA e sz v k xs :: atoms)) : W.ownsRow n e sz v k xs := row_from h.head (h.base _ List.mem_cons_self)
/-- a callee's new row -/
theorem Own.moreRow (h : Own n w W atoms) (hb : Below W.heap.size W W') (hr : W'.ownsRow W.heap.size e sz v k xs) : Own n w W' (rowA e sz v k xs :: atoms) :=
  h.more hb (row_base hr) (fun j hj => (hr.lt j hj).1)
/-- a row of the call's own was appended to -/
theorem Own.growRow (h : Own n w W (rowA e sz v k xs :: atoms)) (hr : W'.ownsRow n e sz v' m ys) (hg : W.grownBy W' v.ownBlock) (hv : v'.ownBlock = v.ownBlock ∨ v'.ownBlock = some W.heap.size) : Own n w W' (rowA e sz v' m ys :: atoms) :=
  h.grow hg (fun j hj => hv.elim (fun x => .inl (show v.ownBlock = some j from x ▸ hj)) (fun x => .inr (by rw [show (rowA e sz v' m ys).b = _ from x] at hj; cases hj; exact Nat.le_refl _))) (row_base hr)
/-- a new row of literal cells -/
theorem Own.newRow (h : Own n w W atoms) (cs : Array Value) (k : Nat) (hm : k ≤ maxLen) (hs : cs.size = k * sz) : Own n w (W.alloc (.cells cs e)) (rowA e sz (.slice (some ⟨W.heap.size, 0, none⟩) k k) k cs.toList :: atoms) :=
  h.new _ _ rfl (row_base (World.ownsRow_lit (base := W.heap.size) W cs k (Nat.le_refl _) hm hs))
theorem Own.nilRow (h : Own n w W atoms) (e : TypeId) (sz : Nat) : Own n w W (rowA e sz (.slice none 0 0) 0 [] :: atoms) := h.bare rfl (World.ownsRow_nil W 0 e sz)
theorem Own.newBlk (h : Own n w W atoms) (cs : Array Value) (t : TypeId) : Own n w (W.alloc (.cells cs t)) (blkA W.heap.size cs t :: atoms) := h.new _ _ rfl (Blk.new W cs t)
theorem Own.newMap (h : Own n w W atoms) (P : Program) (kt : TypeId) : Own n w (W.alloc (.map #[] 0)) (mapA P kt W.heap.size (fun _ => none) 0 :: atoms) := h.new _ _ rfl (OwnV.made W P kt)
theorem Own.setBlk {b : Nat} {cs : Array Value} {t : TypeId} (h : Own n w W (blkA b cs t :: atoms)) (i : Nat) (u : Value) : Own n w (W.setCell ⟨b, i, none⟩ u) (blkA b (cs.setIfInBounds i u) t :: atoms) :=
  h.set ⟨b, i, none⟩ u rfl rfl (Blk.set h.head i u)
theorem Own.setRow {g cap : Nat} (h : Own n w W (rowA e sz (.slice (some ⟨g, 0, none⟩) k cap) k xs :: atoms)) (i : Nat) (u : Value) : Own n w (W.setCell ⟨g, i, none⟩ u) (rowA e sz (.slice (some ⟨g, 0, none⟩) k cap) k (xs.set i u) :: atoms) :=
  h.set ⟨g, i, none⟩ u rfl rfl (World.ownsRow.stored (base := 0) h.head i u).1
/-- a map of the call's own has turned -/
theorem Own.growMap {P : Program} {kt : TypeId} {b s s' : Nat} {f f' : Int → Option Value} (h : Own n w W (mapA P kt b f s :: atoms)) (hr : OwnV P kt W' b f' s') (hg : W.grownBy W' (some b)) : Own n w W' (mapA P kt b f' s' :: atoms) :=
  h.grow hg (fun j hj => .inl hj) hr
end
end Go.Proofs.Ytcmiboipgngjaaa
