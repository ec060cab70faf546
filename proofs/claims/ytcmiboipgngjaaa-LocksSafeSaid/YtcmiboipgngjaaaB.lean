/-
  IndexFunc with the other closures; ContainsFunc; beside. No condition but that slices are short.
-/
import Derived.Test.YtcmiboipgngjaaaA
namespace Go.Proofs.Ytcmiboipgngjaaa
set_option linter.unusedVariables false
set_option linter.unusedSimpArgs false
open Go.RowKit Go.Maps

set_option maxHeartbeats 1000000 in
set_option maxRecDepth 100000 in
theorem index33_c (A : Option Addr) (c b : Nat) (l : List Lk) (t : Int) (W : World) (h : LksAt W A l) (hb : W.cell? ⟨b, 0, none⟩ = some (.int .i64 t)) (hl : l.length ≤ 140737488355328) :
    Calls Try.prog 43 #[.slice A l.length c, .func (.func 33) #[] #[.pointer (some ⟨b, 0, none⟩)]] W fun e W' => e = .returned (.int .i64 (fstAt (fun x => x.th == t) l)) ∧ Below W.heap.size W W' := by
  have H := hide h
  have HB := hide hb
  clear h hb
  go_enter Try.func43, Try.ntmps43
  go_wp2
  go_loopg [8] l.length (fun m i wr => ∃ k : Nat, k ≤ l.length ∧ m = l.length - k ∧ i = .int .i64 k ∧ Hid (Below W.heap.size W wr) ∧ Hid (∀ j (hj : j < l.length), j < k → (l[j].th == t) = false))
  case atStart => exact ⟨0, by omega, by omega, rfl, hide (Below.refl _ _), hide (fun j _ h => absurd h (by omega))⟩
  case round =>
    obtain ⟨k, hk, rfl, rfl, HW, HALL⟩ := hrel
    by_cases hlt : k < l.length
    · obtain ⟨g, off, rfl, hc⟩ := H.out.below HW.out (by intro e; rw [e] at hlt; simp at hlt)
      obtain ⟨u0, u1, u2⟩ := hc k hlt
      have hbw := (HW.out.cell (World.block_lt_of_cell? W _ HB.out)).trans HB.out
      have HC := hide (release1_c l[k] b t wr hbw)
      have HIT := hide (fun h => fstAt_hit (p := fun x => x.th == t) hlt h HALL.out)
      have HNX := hide (fun (h : (l[k].th == t) = false) => show ∀ j (hj : j < l.length), j < k + 1 → (l[j].th == t) = false from fun j hj hjk => by
        by_cases e : j = k
        · subst e; exact h
        · exact HALL.out j hj (by omega))
      have o1 : (0 : Int) ≤ (k : Int) := by omega
      have o2 : (k : Int) < (l.length : Int) := by omega
      clear hc hbw HALL
      cases hq : (l[k].th == t) with
      | true =>
        rw [hq] at HC
        have HI := hide (HIT.out hq)
        clear HIT HNX hq
        unfold Lk.v at HC
        generalize l[k].th = y0 at u0 HC
        generalize l[k].tg = y1 at u1 HC
        generalize l[k].al = y2 at u2 HC
        go_wp2_with (go_at_call 33; refine HC.out.mono ?_; rintro e w' ⟨rfl, hb2⟩; have HB2 := hide hb2; clear hb2)
        go_ret
        exact ⟨by rw [HI.out]; first | rfl | simp, HW.out.trans (HB2.out.mono HW.out.size)⟩
      | false =>
        rw [hq] at HC
        have HI := hide (HNX.out hq)
        clear HIT HNX hq
        unfold Lk.v at HC
        generalize l[k].th = y0 at u0 HC
        generalize l[k].tg = y1 at u1 HC
        generalize l[k].al = y2 at u2 HC
        go_wp2_with (go_at_call 33; refine HC.out.mono ?_; rintro e w' ⟨rfl, hb2⟩; have HB2 := hide hb2; clear hb2)
        go_roundg (l.length - (k + 1))
        case measure => omega
        case rel => exact ⟨k + 1, by omega, by omega, by go_num, hide (HW.out.trans (HB2.out.mono HW.out.size)), HI⟩
    · obtain rfl : k = l.length := by omega
      have o1 : ¬ (l.length : Int) < (l.length : Int) := by omega
      have HI := hide (fstAt_miss (p := fun x => x.th == t) (fun j hj => HALL.out j hj hj))
      go_wp2
      go_ret
      exact ⟨by rw [HI.out]; first | rfl | simp, HW.out⟩
set_option maxHeartbeats 1000000 in
set_option maxRecDepth 100000 in
theorem index39_c (A : Option Addr) (c : Nat) (l : List Lk) (W : World) (h : LksAt W A l) (hl : l.length ≤ 140737488355328) :
    Calls Try.prog 43 #[.slice A l.length c, .func (.func 39) #[] #[]] W fun e W' => e = .returned (.int .i64 (fstAt (fun x => x.al) l)) ∧ Below W.heap.size W W' := by
  have H := hide h
  clear h
  go_enter Try.func43, Try.ntmps43
  go_wp2
  go_loopg [8] l.length (fun m i wr => ∃ k : Nat, k ≤ l.length ∧ m = l.length - k ∧ i = .int .i64 k ∧ Hid (Below W.heap.size W wr) ∧ Hid (∀ j (hj : j < l.length), j < k → l[j].al = false))
  case atStart => exact ⟨0, by omega, by omega, rfl, hide (Below.refl _ _), hide (fun j _ h => absurd h (by omega))⟩
  case round =>
    obtain ⟨k, hk, rfl, rfl, HW, HALL⟩ := hrel
    by_cases hlt : k < l.length
    · obtain ⟨g, off, rfl, hc⟩ := H.out.below HW.out (by intro e; rw [e] at hlt; simp at hlt)
      obtain ⟨u0, u1, u2⟩ := hc k hlt
      have HC := hide (beside1_c l[k] wr)
      have HIT := hide (fun h => fstAt_hit (p := fun x => x.al) hlt h HALL.out)
      have HNX := hide (fun (h : l[k].al = false) => show ∀ j (hj : j < l.length), j < k + 1 → l[j].al = false from fun j hj hjk => by
        by_cases e : j = k
        · subst e; exact h
        · exact HALL.out j hj (by omega))
      have o1 : (0 : Int) ≤ (k : Int) := by omega
      have o2 : (k : Int) < (l.length : Int) := by omega
      clear hc HALL
      cases hq : l[k].al with
      | true =>
        rw [hq] at u2
        unfold Lk.v at HC
        rw [hq] at HC
        have HI := hide (HIT.out hq)
        clear HIT HNX hq
        generalize l[k].th = y0 at u0 HC
        generalize l[k].tg = y1 at u1 HC
        go_wp2_with (go_at_call 39; refine HC.out.mono ?_; rintro e w' ⟨rfl, hb2⟩; have HB2 := hide hb2; clear hb2)
        go_ret
        exact ⟨by rw [HI.out]; first | rfl | simp, HW.out.trans (HB2.out.mono HW.out.size)⟩
      | false =>
        rw [hq] at u2
        unfold Lk.v at HC
        rw [hq] at HC
        have HI := hide (HNX.out hq)
        clear HIT HNX hq
        generalize l[k].th = y0 at u0 HC
        generalize l[k].tg = y1 at u1 HC
        go_wp2_with (go_at_call 39; refine HC.out.mono ?_; rintro e w' ⟨rfl, hb2⟩; have HB2 := hide hb2; clear hb2)
        go_roundg (l.length - (k + 1))
        case measure => omega
        case rel => exact ⟨k + 1, by omega, by omega, by go_num, hide (HW.out.trans (HB2.out.mono HW.out.size)), HI⟩
    · obtain rfl : k = l.length := by omega
      have o1 : ¬ (l.length : Int) < (l.length : Int) := by omega
      have HI := hide (fstAt_miss (p := fun x => x.al) (fun j hj => HALL.out j hj hj))
      go_wp2
      go_ret
      exact ⟨by rw [HI.out]; first | rfl | simp, HW.out⟩
theorem fstAt_any {p : Lk → Bool} {l : List Lk} : decide ((0 : Int) ≤ fstAt p l) = l.any p := by
  unfold fstAt
  cases h : l.findIdx? p with
  | none =>
    have := List.findIdx?_eq_none_iff.1 h
    have e : l.any p = false := by rw [List.any_eq_false]; intro x hx; simpa using this x hx
    rw [e]; simp
  | some i =>
    obtain ⟨hi, hp, -⟩ := List.findIdx?_eq_some_iff_getElem.1 h
    have e : l.any p = true := List.any_eq_true.2 ⟨_, List.getElem_mem hi, hp⟩
    rw [e]; simp
theorem contains36_c (A : Option Addr) (c b : Nat) (l : List Lk) (t : Int) (W : World) (h : LksAt W A l) (hb : W.cell? ⟨b, 0, none⟩ = some (.int .i64 t)) (hl : l.length ≤ 140737488355328) :
    Calls Try.prog 35 #[.slice A l.length c, .func (.func 36) #[] #[.pointer (some ⟨b, 0, none⟩)]] W fun e W' => e = .returned (.bool (l.any (fun x => x.th == t))) ∧ Below W.heap.size W W' := by
  have H := hide (index36_c A c b l t W h hb hl)
  rw [← fstAt_any]
  clear h hb hl
  generalize fstAt (fun x => x.th == t) l = z at H
  go_enter Try.func35, Try.ntmps35
  go_wp2_with (go_at_call 43; refine H.out.mono ?_; rintro e W1 ⟨rfl, hb⟩; have HB := hide hb; clear hb)
  go_ret
  exact ⟨by first | rfl | simp, HB.out⟩
theorem contains39_c (A : Option Addr) (c : Nat) (l : List Lk) (W : World) (h : LksAt W A l) (hl : l.length ≤ 140737488355328) :
    Calls Try.prog 35 #[.slice A l.length c, .func (.func 39) #[] #[]] W fun e W' => e = .returned (.bool (l.any (fun x => x.al))) ∧ Below W.heap.size W W' := by
  have H := hide (index39_c A c l W h hl)
  rw [← fstAt_any]
  clear h hl
  generalize fstAt (fun x => x.al) l = z at H
  go_enter Try.func35, Try.ntmps35
  go_wp2_with (go_at_call 43; refine H.out.mono ?_; rintro e W1 ⟨rfl, hb⟩; have HB := hide hb; clear hb)
  go_ret
  exact ⟨by first | rfl | simp, HB.out⟩
/-- may x be granted beside those that hold? -/
def besideL (l : List Lk) (x : Lk) : Bool := l.isEmpty || (!x.al && !l.any (fun y => y.al))
set_option maxHeartbeats 1000000 in
theorem beside_c (A : Option Addr) (c : Nat) (l : List Lk) (x : Lk) (W : World) (h : LksAt W A l) (hl : l.length ≤ 140737488355328) :
    Calls Try.prog 26 #[.slice A l.length c, x.v] W fun e W' => e = .returned (.bool (besideL l x)) ∧ Below W.heap.size W W' := by
  have HC := hide (fun V (hb : Below W.heap.size W V) => contains39_c A c l V (h.below hb) hl)
  have HB := hide ((Below.refl W.heap.size W).alloc (Nat.le_refl _) (.cells #[.int .i64 x.th, .int .i64 x.tg, .bool x.al] 27))
  unfold Lk.v besideL
  clear h
  by_cases he : l = []
  · subst he
    clear HC
    go_enter Try.func26, Try.ntmps26
    go_wp2
    go_ret
    exact ⟨by first | rfl | simp, HB.out⟩
  · have z0 : 0 < l.length := List.length_pos_iff.2 he
    have z1 : ((l.length : Int) == 0) = false := by simp; omega
    have z2 : ¬ l.length = 0 := by omega
    have e1 : l.isEmpty = false := by cases l with | nil => exact absurd rfl he | cons => rfl
    rw [e1]
    have HC1 := hide (HC.out _ HB.out)
    clear HC e1
    generalize l.any (fun y => y.al) = an at HC1
    generalize x.th = x0 at HB HC1 ⊢
    generalize x.tg = x1 at HB HC1 ⊢
    generalize x.al = x2 at HB HC1 ⊢
    cases x2 with
    | true =>
      clear HC1
      go_enter Try.func26, Try.ntmps26
      go_wp2
      go_ret
      exact ⟨by first | rfl | simp, HB.out⟩
    | false =>
      go_enter Try.func26, Try.ntmps26
      go_wp2_with (go_at_call 35; refine HC1.out.mono ?_; rintro e W1 ⟨rfl, hb⟩; have HB1 := hide hb; clear hb)
      go_ret
      exact ⟨by first | rfl | simp, HB.out.trans (HB1.out.mono HB.out.size)⟩
end Go.Proofs.Ytcmiboipgngjaaa
