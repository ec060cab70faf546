/-
  Locks as values and in slices; the closures over them; IndexFunc and ContainsFunc with these. No condition but that slices are short.
-/
import Derived.Test.YtcmiboipgngjaaaJ
import Derived.Test.YtcmiboipgngjaaaG
import Derived.Test.YtcmiboipgngjaaaProg
import Derived.KernelRfl
import Derived.WalkSpells
import Derived.BigQuiet
import Derived.Deep.LoopGhost
namespace Go.Proofs.Ytcmiboipgngjaaa
set_option linter.unusedVariables false
set_option linter.unusedSimpArgs false
open Go.RowKit Go.Maps

structure Lk where
  th : Int
  tg : Int
  al : Bool
def Lk.v (x : Lk) : Value := .agg #[.int .i64 x.th, .int .i64 x.tg, .bool x.al]
def Lk.cells (x : Lk) : List Value := [.int .i64 x.th, .int .i64 x.tg, .bool x.al]
/-- the slice at A reads as l -/
def LksAt (W : World) (A : Option Addr) (l : List Lk) : Prop := l ≠ [] → ∃ g off, A = some ⟨g, off, none⟩ ∧ ∀ k (h : k < l.length),
  W.cell? ⟨g, off + k * 3, none⟩ = some (.int .i64 l[k].th) ∧ W.cell? ⟨g, off + k * 3 + 1, none⟩ = some (.int .i64 l[k].tg) ∧ W.cell? ⟨g, off + k * 3 + 2, none⟩ = some (.bool l[k].al)
theorem LksAt.below {W V : World} {A : Option Addr} {l : List Lk} (h : LksAt W A l) (hb : Below W.heap.size W V) : LksAt V A l := fun hne => by
  obtain ⟨g, off, e, hc⟩ := h hne
  refine ⟨g, off, e, fun k hk => ?_⟩
  obtain ⟨h0, h1, h2⟩ := hc k hk
  exact ⟨(hb.cell (World.block_lt_of_cell? _ _ h0)).trans h0, (hb.cell (World.block_lt_of_cell? _ _ h1)).trans h1, (hb.cell (World.block_lt_of_cell? _ _ h2)).trans h2⟩
theorem holds1_c (x : Lk) (b : Nat) (t : Int) (W : World) (hb : W.cell? ⟨b, 0, none⟩ = some (.int .i64 t)) :
    Calls Try.prog 36 #[x.v, .pointer (some ⟨b, 0, none⟩)] W fun e W' => e = .returned (.bool (x.th == t)) ∧ Below W.heap.size W W' := by
  have hb1 : (W.alloc (.cells #[.int .i64 x.th, .int .i64 x.tg, .bool x.al] 27)).cell? ⟨b, 0, none⟩ = some (.int .i64 t) := (((Below.refl W.heap.size W).alloc (Nat.le_refl _) _).cell (World.block_lt_of_cell? W _ hb)).trans hb
  unfold Lk.v
  go_enter Try.func36, Try.ntmps36
  go_wp2
  go_ret
  exact ⟨rfl, (Below.refl _ W).alloc (Nat.le_refl _) _⟩
theorem release1_c (x : Lk) (b : Nat) (t : Int) (W : World) (hb : W.cell? ⟨b, 0, none⟩ = some (.int .i64 t)) :
    Calls Try.prog 33 #[x.v, .pointer (some ⟨b, 0, none⟩)] W fun e W' => e = .returned (.bool (x.th == t)) ∧ Below W.heap.size W W' := by
  have hb1 : (W.alloc (.cells #[.int .i64 x.th, .int .i64 x.tg, .bool x.al] 27)).cell? ⟨b, 0, none⟩ = some (.int .i64 t) := (((Below.refl W.heap.size W).alloc (Nat.le_refl _) _).cell (World.block_lt_of_cell? W _ hb)).trans hb
  unfold Lk.v
  go_enter Try.func33, Try.ntmps33
  go_wp2
  go_ret
  exact ⟨rfl, (Below.refl _ W).alloc (Nat.le_refl _) _⟩
theorem beside1_c (x : Lk) (W : World) : Calls Try.prog 39 #[x.v] W fun e W' => e = .returned (.bool x.al) ∧ Below W.heap.size W W' := by
  unfold Lk.v
  go_enter Try.func39, Try.ntmps39
  go_wp2
  go_ret
  exact ⟨rfl, (Below.refl _ W).alloc (Nat.le_refl _) _⟩
/-- the place of the first that p holds of; -1: none -/
def fstAt (p : Lk → Bool) (l : List Lk) : Int := match l.findIdx? p with | some i => (i : Int) | none => -1
theorem fstAt_hit {p : Lk → Bool} {l : List Lk} {k : Nat} (hk : k < l.length) (h : p l[k] = true) (hb : ∀ j (hj : j < l.length), j < k → p l[j] = false) : fstAt p l = (k : Int) := by
  unfold fstAt
  rw [List.findIdx?_eq_some_iff_getElem.2 ⟨hk, h, fun j hj => by simpa using hb j (by omega) hj⟩]
theorem fstAt_miss {p : Lk → Bool} {l : List Lk} (h : ∀ j (hj : j < l.length), p l[j] = false) : fstAt p l = -1 := by
  unfold fstAt
  rw [List.findIdx?_eq_none_iff.2 (fun x hx => by obtain ⟨j, hj, rfl⟩ := List.getElem_of_mem hx; exact h j hj)]
set_option maxHeartbeats 1000000 in
set_option maxRecDepth 100000 in
theorem index36_c (A : Option Addr) (c b : Nat) (l : List Lk) (t : Int) (W : World) (h : LksAt W A l) (hb : W.cell? ⟨b, 0, none⟩ = some (.int .i64 t)) (hl : l.length ≤ 140737488355328) :
    Calls Try.prog 43 #[.slice A l.length c, .func (.func 36) #[] #[.pointer (some ⟨b, 0, none⟩)]] W fun e W' => e = .returned (.int .i64 (fstAt (fun x => x.th == t) l)) ∧ Below W.heap.size W W' := by
  have H := hide h
  have HB := hide hb
  clear h hb
  go_enter Try.func43, Try.ntmps43
  go_wp2
  go_loopg [8] l.length (fun m i wr => ∃ k : Nat, k ≤ l.length ∧ m = l.length - k ∧ i = .int .i64 k ∧ Hid (Below W.heap.size W wr) ∧ Hid (∀ j (hj : j < l.length), j < k → (l[j].th == t) = false))
  case atStart => exact ⟨0, by omega, by omega, rfl, hide (Below.refl _ _), hide (fun j _ h => absurd h (by omega))⟩
  case round =>
    obtain ⟨k, hk, rfl, rfl, HW, HALL⟩ := hrel
    by_cases hlt : k < l.length
    · obtain ⟨g, off, rfl, hc⟩ := H.out.below HW.out (by intro e; rw [e] at hlt; simp at hlt)
      obtain ⟨u0, u1, u2⟩ := hc k hlt
      have hbw := (HW.out.cell (World.block_lt_of_cell? W _ HB.out)).trans HB.out
      have HC := hide (holds1_c l[k] b t wr hbw)
      have HIT := hide (fun h => fstAt_hit (p := fun x => x.th == t) hlt h HALL.out)
      have HNX := hide (fun (h : (l[k].th == t) = false) => show ∀ j (hj : j < l.length), j < k + 1 → (l[j].th == t) = false from fun j hj hjk => by
        by_cases e : j = k
        · subst e; exact h
        · exact HALL.out j hj (by omega))
      have o1 : (0 : Int) ≤ (k : Int) := by omega
      have o2 : (k : Int) < (l.length : Int) := by omega
      clear hc hbw HALL
      cases hq : (l[k].th == t) with
      | true =>
        rw [hq] at HC
        have HI := hide (HIT.out hq)
        clear HIT HNX hq
        unfold Lk.v at HC
        generalize l[k].th = y0 at u0 HC
        generalize l[k].tg = y1 at u1 HC
        generalize l[k].al = y2 at u2 HC
        go_wp2_with (go_at_call 36; refine HC.out.mono ?_; rintro e w' ⟨rfl, hb2⟩; have HB2 := hide hb2; clear hb2)
        go_ret
        exact ⟨by rw [HI.out]; first | rfl | simp, HW.out.trans (HB2.out.mono HW.out.size)⟩
      | false =>
        rw [hq] at HC
        have HI := hide (HNX.out hq)
        clear HIT HNX hq
        unfold Lk.v at HC
        generalize l[k].th = y0 at u0 HC
        generalize l[k].tg = y1 at u1 HC
        generalize l[k].al = y2 at u2 HC
        go_wp2_with (go_at_call 36; refine HC.out.mono ?_; rintro e w' ⟨rfl, hb2⟩; have HB2 := hide hb2; clear hb2)
        go_roundg (l.length - (k + 1))
        case measure => omega
        case rel => exact ⟨k + 1, by omega, by omega, by go_num, hide (HW.out.trans (HB2.out.mono HW.out.size)), HI⟩
    · obtain rfl : k = l.length := by omega
      have o1 : ¬ (l.length : Int) < (l.length : Int) := by omega
      have HI := hide (fstAt_miss (p := fun x => x.th == t) (fun j hj => HALL.out j hj hj))
      go_wp2
      go_ret
      exact ⟨by rw [HI.out]; first | rfl | simp, HW.out⟩
end Go.Proofs.Ytcmiboipgngjaaa
