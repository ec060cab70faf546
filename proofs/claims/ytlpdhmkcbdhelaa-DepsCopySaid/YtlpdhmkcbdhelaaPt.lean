/-
  Put: a number into a rising list, once. Conditions: the list is short enough.
-/
import Derived.Test.YtlpdhmkcbdhelaaX4
namespace Go.Proofs.Ytlpdhmkcbdhelaa
set_option linter.unusedVariables false
set_option linter.unusedSimpArgs false
open Go.RowKit Go.Maps

def putK (l : List Int) (x : Int) : Nat := (l.takeWhile (fun y => decide (y < x))).length
def putL (l : List Int) (x : Int) : List Int := if l[putK l x]? = some x then l else l.take (putK l x) ++ x :: l.drop (putK l x)
theorem putK_le (l : List Int) (x : Int) : putK l x ≤ l.length := (List.takeWhile_sublist _).length_le
theorem putK_cons (y : Int) (l : List Int) (x : Int) : putK (y :: l) x = if y < x then putK l x + 1 else 0 := by
  unfold putK
  by_cases h : y < x
  · rw [if_pos h, List.takeWhile_cons_of_pos (by simpa using h)]; rfl
  · rw [if_neg h, List.takeWhile_cons_of_neg (by simpa using h)]; rfl
theorem putK_lt {l : List Int} {x : Int} : ∀ {j : Nat}, j < putK l x → ∃ h : j < l.length, l[j] < x := by
  induction l with
  | nil => intro j h; simp [putK] at h
  | cons y l ih =>
    intro j h
    rw [putK_cons] at h
    by_cases hy : y < x
    · rw [if_pos hy] at h
      cases j with
      | zero => exact ⟨by simp, hy⟩
      | succ j => obtain ⟨h1, h2⟩ := ih (j := j) (by omega); exact ⟨by simpa using h1, by simpa using h2⟩
    · rw [if_neg hy] at h; omega
theorem putK_at {l : List Int} {x : Int} (h : putK l x < l.length) : x ≤ l[putK l x] := by
  induction l with
  | nil => simp at h
  | cons y l ih =>
    by_cases hy : y < x
    · have e : putK (y :: l) x = putK l x + 1 := by rw [putK_cons, if_pos hy]
      simp only [e, List.getElem_cons_succ]
      exact ih (by rw [e] at h; simpa using h)
    · have e : putK (y :: l) x = 0 := by rw [putK_cons, if_neg hy]
      simp only [e, List.getElem_cons_zero]; omega
theorem putL_len_le (l : List Int) (x : Int) : (putL l x).length ≤ l.length + 1 := by
  have := putK_le l x
  unfold putL
  split
  · omega
  · simp only [List.length_append, List.length_cons, List.length_take, List.length_drop]; omega
theorem putL_mem {l : List Int} {x y : Int} : y ∈ putL l x ↔ y ∈ l ∨ y = x := by
  unfold putL
  split
  · rename_i h
    have := List.mem_of_getElem? h
    exact ⟨.inl, fun h => h.elim id (fun e => e ▸ this)⟩
  · have h := List.take_append_drop (putK l x) l
    conv => rhs; rw [← h]
    simp only [List.mem_append, List.mem_cons]
    constructor
    · rintro (h | h | h)
      · exact .inl (.inl h)
      · exact .inr h
      · exact .inl (.inr h)
    · rintro ((h | h) | h)
      · exact .inl h
      · exact .inr (.inr h)
      · exact .inr (.inl h)
theorem putL_rising {l : List Int} (hr : Rising l) (x : Int) : Rising (putL l x) := by
  unfold putL
  split
  · exact hr
  · rename_i hne
    have hT : ∀ y ∈ l.take (putK l x), y < x := fun y hy => by
      obtain ⟨j, hj, rfl⟩ := List.getElem_of_mem hy
      rw [List.length_take] at hj
      obtain ⟨h1, h2⟩ := putK_lt (l := l) (x := x) (j := j) (by omega)
      rw [List.getElem_take]; exact h2
    have hD : ∀ y ∈ l.drop (putK l x), x < y := fun y hy => by
      by_cases hk : putK l x < l.length
      · have e := List.drop_eq_getElem_cons hk
        have h0 : x < l[putK l x] := by
          have h1 := putK_at hk
          have h2 : l[putK l x] ≠ x := fun e => hne (by rw [List.getElem?_eq_getElem hk, e])
          omega
        rw [e] at hy
        rcases List.mem_cons.1 hy with rfl | hy
        · exact h0
        · have h2 : (l.drop (putK l x)).Pairwise (fun a b => a < b) := hr.sublist (List.drop_sublist _ _)
          rw [e] at h2
          have := (List.pairwise_cons.1 h2).1 y hy
          omega
      · rw [List.drop_eq_nil_of_le (by omega)] at hy; cases hy
    refine List.pairwise_append.2 ⟨hr.sublist (List.take_sublist _ _), List.pairwise_cons.2 ⟨hD, hr.sublist (List.drop_sublist _ _)⟩, fun a ha b hb => ?_⟩
    have h1 := hT a ha
    rcases List.mem_cons.1 hb with rfl | hb
    · exact h1
    · have := hD b hb; omega
theorem Ints.drop {B : Nat} {w : World} {b off : Nat} {zs : List Int} (h : Ints B w (some ⟨b, off, none⟩) zs) (k : Nat) : Ints B w (some ⟨b, off + k, none⟩) (zs.drop k) := fun hne => by
  obtain ⟨b', off', e, hb, hc⟩ := h (by intro e; rw [e] at hne; simp at hne)
  cases e
  refine ⟨b, off + k, rfl, hb, fun i hi => ?_⟩
  rw [List.length_drop] at hi
  have := hc (k + i) (by omega)
  rw [show off + k + i = off + (k + i) by omega, this]
  simp
theorem Ints.take {B : Nat} {w : World} {A : Option Addr} {zs : List Int} (h : Ints B w A zs) (k : Nat) : Ints B w A (zs.take k) := fun hne => by
  obtain ⟨b', off', e, hb, hc⟩ := h (by intro e; rw [e] at hne; simp at hne)
  refine ⟨b', off', e, hb, fun i hi => ?_⟩
  rw [List.length_take] at hi
  rw [hc i (by omega)]
  simp [List.getElem?_take, show i < k by omega]
section
variable {n : Nat} {w W : World} {F : List Atom} {l : List Int} {v : Value}
theorem row_two {W : World} {base : Nat} {e : TypeId} {sz : Nat} {v : Value} {l : List Int} (h : W.ownsRow base e sz v l.length (ints l)) : (v = .slice none 0 0 ∧ l = []) ∨ ∃ g c, v = .slice (some ⟨g, 0, none⟩) l.length c ∧ l.length ≤ c := by
  rcases h.2 with ⟨h1, h2⟩ | ⟨g, cap, cur, h1, _, _, h3, _⟩
  · exact .inl ⟨h1, List.length_eq_zero_iff.1 h2⟩
  · exact .inr ⟨g, cap, h1, h3⟩
theorem ints_one (l : List Int) : ∀ u ∈ ints l, u.oneCell' = true := by
  intro u hu; unfold ints at hu; obtain ⟨z, _, rfl⟩ := List.mem_map.1 hu; rfl
theorem put_fin {A : Option Addr} {c k m : Nat} {x : Int} (hp : putL l x = l.take k ++ x :: l.drop k) (hk : k ≤ l.length) (hm : m = l.length - k) (h : Own n w W (rowA 3 1 (.slice A (k + 1 + m) c) (k + 1 + m) (ints (l.take k) ++ [.int .i64 x] ++ ints (l.drop k)) :: F)) :
    Own n w W (rowA 3 1 (.slice A (k + 1 + m) c) (putL l x).length (ints (putL l x)) :: F) := by
  have e1 : (putL l x).length = k + 1 + m := by rw [hp]; simp only [List.length_append, List.length_cons, List.length_take, List.length_drop]; omega
  have e2 : ints (putL l x) = ints (l.take k) ++ [.int .i64 x] ++ ints (l.drop k) := by rw [hp]; simp [ints]
  rw [e1, e2]; exact h
set_option maxHeartbeats 4000000 in
theorem put_c (ho : Own n w W (rowA 3 1 v l.length (ints l) :: F)) (hl : l.length < 274877906944) (x : Int) :
    Calls Try.prog 41 #[v, .int .i64 x] W fun e W' => ∃ v', e = .returned v' ∧ Own n w W' (rowA 3 1 v' (putL l x).length (ints (putL l x)) :: F) := by
  have HL := hide hl
  have HK := hide (putK_le l x)
  rcases row_two ho.row with ⟨rfl, rfl⟩ | ⟨g, c, rfl, hc⟩
  · have HO := hide ho
    clear ho hl
    go_enter Try.func41, Try.ntmps41
    go_wp2
    go_loop [5] (fun i => i = .int .i64 0) (fun i => 0)
    case atStart => rfl
    case round =>
      obtain rfl := hrel
      have H2 := hide (HO.out.nilRow 3 1)
      go_upto_region 7 with (fail)
      go_wp2_with (first
        | (have hx3 := H3; clear hx3; at_builtin; obtain ⟨i0, hi, hz0, hz1, hz2⟩ := info_parts info3x; refine wpList_append_src _ rfl _ _ 25 rfl n 3 i0 (.int .i64 0) 1 8 Try.underlying25 hi hz0 hz1 hz2 rfl (by decide) _ 1 _ rfl H3.out.row w3.heap.size none 0 0 [] rfl rfl (fun h => absurd rfl h) (by intro u hu; cases hu) (by unfold maxLen; omega) (by omega) H3.out.sz ?_; intro v4 w4 hown hg hat; obtain ⟨A4, c4, rfl⟩ := own_slice hown; have H4 := hide (H3.out.growRow hown hg hat); clear hown hg hat hi hz0 hz1 hz2 i0)
        | (at_builtin; obtain ⟨i0, hi, hz0, hz1, hz2⟩ := info_parts info3x; refine wpList_append_own_at _ rfl _ _ 25 rfl n 3 i0 (.int .i64 0) 1 8 Try.underlying25 hi hz0 hz1 hz2 rfl (by decide) (.slice none 0 0) 0 [] rfl (H2.out.row.alloc _) ⟨W.heap.size, 0, none⟩ 1 1 [.int .i64 x] rfl rfl (cell_one_new _ _ _) (by simp [Value.oneCell']) (by unfold maxLen; omega) (by omega) (by have := H2.out.sz; simp; omega) ?_; intro v3 w3 hown hg _ hat; obtain ⟨A3, c3, rfl⟩ := own_slice hown; have H3 := hide ((H2.out.alloc _).growRow hown hg hat); clear hown hg hat hi hz0 hz1 hz2 i0))
      go_ret
      exact ⟨_, rfl, H4.out.f1.tail⟩
  · have HO := hide ho
    have HI := hide (Ints.of_own (B := W.heap.size) ho.row (Nat.le_refl _))
    have HC := hide (fun (k : Nat) (hk : k < l.length) => show W.cell? ⟨g, k, none⟩ = some (.int .i64 l[k]) from (ho.row.cellAt k (by omega)).trans (ints_at hk))
    clear ho
    go_enter Try.func41, Try.ntmps41
    go_wp2
    go_loop [5] (fun i => ∃ k : Nat, k ≤ l.length ∧ i = .int .i64 k ∧ Hid (k ≤ putK l x)) (fun i => l.length - (intOf i).toNat)
    case atStart => exact ⟨0, by omega, rfl, hide (by omega)⟩
    case round =>
      obtain ⟨k, hk, rfl, HKK⟩ := hrel
      by_cases hlt : k < l.length
      · have y0 := HC.out k hlt
        have o1 : (0 : Int) ≤ (k : Int) := by omega
        have o2 : (k : Int) < (l.length : Int) := by omega
        have HX := hide (fun h : k < putK l x => putK_lt h)
        have HA := hide (putK_at (l := l) (x := x))
        obtain ⟨y, hy⟩ : ∃ y, l[k] = y := ⟨_, rfl⟩
        rw [hy] at y0
        have HY := hide hy
        clear hy
        by_cases hyx : y < x
        · have HN := hide (show k + 1 ≤ putK l x from by
            have h1 := HKK.out
            rcases Nat.lt_or_ge k (putK l x) with h | h
            · omega
            · obtain rfl : k = putK l x := by omega
              have := HA.out hlt
              rw [HY.out] at this
              omega)
          go_wp2
          go_round
          case rel => exact ⟨k + 1, by omega, by go_num, HN⟩
          case measure => simp [intOf]; omega
        · have HE := hide (show k = putK l x from by
            have h1 := HKK.out
            rcases Nat.lt_or_ge k (putK l x) with h | h
            · obtain ⟨_, h2⟩ := HX.out h
              rw [HY.out] at h2
              omega
            · omega)
          by_cases he : y = x
          · obtain ⟨m0, m1⟩ := int_eqb he
            have HP := hide (show putL l x = l from by unfold putL; rw [← HE.out, List.getElem?_eq_getElem hlt, HY.out, he, if_pos rfl])
            clear he
            go_wp2
            go_ret
            exact ⟨_, rfl, by rw [HP.out]; exact HO.out⟩
          · obtain ⟨m0, m1⟩ := int_neb he
            have HP := hide (show putL l x = l.take k ++ x :: l.drop k from by unfold putL; rw [← HE.out, List.getElem?_eq_getElem hlt, HY.out, if_neg (fun e => he (Option.some.inj e))])
            clear he
            have hck : ¬ c = k := by omega
            have HD := hide (show Ints W.heap.size W (some ⟨g, k, none⟩) (l.drop k) from by have := HI.out.drop k; rwa [Nat.zero_add] at this)
            go_upto_region 7 with (at_builtin; go_must (obtain ⟨i0, hi, hz0, hz1, hz2⟩ := info_parts info3x; refine wpList_append_src _ rfl _ _ 25 rfl n 3 i0 (.int .i64 0) 1 8 Try.underlying25 hi hz0 hz1 hz2 rfl (by decide) (.slice none 0 0) 0 [] rfl (World.ownsRow_nil _ _ _ _) W.heap.size _ (l.length - k) _ (ints (l.drop k)) rfl (by rw [ints_len, List.length_drop, Nat.mul_one]) HD.out.cells (ints_one _) (by have := HL.out; unfold maxLen; omega) (by have := HL.out; omega) HO.out.sz ?_); intro v1 w1 hown hg hat; rw [List.nil_append, Nat.zero_add] at hown; obtain ⟨A1, c1, rfl⟩ := own_slice hown; have H1 := hide ((HO.out.nilRow 3 1).growRow hown hg hat); clear hown hg hat hi hz0 hz1 hz2 i0)
            have HT1 := hide ((Ints.of_own (B := w1.heap.size) H1.out.tail.row (Nat.le_refl _)).take k)
            have hkc : k ≤ c := by have := HK.out; have := HE.out; omega
            go_wp2_with (first
              | (have hx3 := H3; clear hx3; at_builtin; go_must (obtain ⟨i0, hi, hz0, hz1, hz2⟩ := info_parts info3x; refine wpList_append_src _ rfl _ _ 25 rfl n 3 i0 (.int .i64 0) 1 8 Try.underlying25 hi hz0 hz1 hz2 rfl (by decide) _ (k + 1) _ rfl H3.out.row w3.heap.size A1 (l.length - k) c1 (ints (l.drop k)) rfl (by rw [ints_len, List.length_drop, Nat.mul_one]) (Ints.of_own (B := w3.heap.size) H3.out.tail.row (Nat.le_refl _)).cells (ints_one _) (by have := HL.out; have := HE.out; have := HK.out; unfold maxLen; omega) (by have := HL.out; have := HE.out; have := HK.out; omega) H3.out.sz ?_); intro v4 w4 hown hg hat; obtain ⟨A4, c4, rfl⟩ := own_slice hown; have H4 := hide (H3.out.growRow hown hg hat); clear hown hg hat hi hz0 hz1 hz2 i0)
              | (have hx2 := H2; clear hx2; at_builtin; go_must (obtain ⟨i0, hi, hz0, hz1, hz2⟩ := info_parts info3x; refine wpList_append_own_at _ rfl _ _ 25 rfl n 3 i0 (.int .i64 0) 1 8 Try.underlying25 hi hz0 hz1 hz2 rfl (by decide) _ _ _ rfl (H2.out.row.alloc _) ⟨w2.heap.size, 0, none⟩ 1 1 [.int .i64 x] rfl rfl (cell_one_new _ _ _) (by simp [Value.oneCell']) (by have := HL.out; have := HE.out; have := HK.out; unfold maxLen; omega) (by have := HL.out; have := HE.out; have := HK.out; omega) (by have := H2.out.sz; simp; omega) ?_); intro v3 w3 hown hg _ hat; obtain ⟨A3, c3, rfl⟩ := own_slice hown; have H3 := hide ((H2.out.alloc _).growRow hown hg hat); clear hown hg hat hi hz0 hz1 hz2 i0)
              | (at_builtin; go_must (obtain ⟨i0, hi, hz0, hz1, hz2⟩ := info_parts info3x; refine wpList_append_src _ rfl _ _ 25 rfl n 3 i0 (.int .i64 0) 1 8 Try.underlying25 hi hz0 hz1 hz2 rfl (by decide) (.slice none 0 0) 0 [] rfl (World.ownsRow_nil _ _ _ _) w1.heap.size _ k _ (ints (l.take k)) rfl (by rw [ints_len, List.length_take, Nat.mul_one]; have := HE.out; have := HK.out; omega) HT1.out.cells (ints_one _) (by have := HL.out; have := HE.out; have := HK.out; unfold maxLen; omega) (by have := HL.out; have := HE.out; have := HK.out; omega) H1.out.sz ?_); intro v2 w2 hown hg hat; rw [List.nil_append, Nat.zero_add] at hown; obtain ⟨A2, c2, rfl⟩ := own_slice hown; have H2 := hide ((H1.out.nilRow 3 1).growRow hown hg hat); clear hown hg hat hi hz0 hz1 hz2 i0))
            go_ret
            exact ⟨_, rfl, put_fin HP.out (by have := HE.out; have := HK.out; omega) rfl H4.out.f1.tail.f1.tail⟩
      · have HE := hide (show k = putK l x from by have := HK.out; have := HKK.out; omega)
        have o2 : ¬ (k : Int) < (l.length : Int) := by omega
        have hdn : l.drop k = [] := List.drop_eq_nil_of_le (by omega)
        have HP := hide (show putL l x = l.take k ++ x :: l.drop k from by unfold putL; rw [← HE.out, List.getElem?_eq_none (by omega), if_neg (fun e => by cases e)])
        by_cases hck : c = k
        · subst hck
          have HD := hide (show Ints W.heap.size W (some ⟨g, 0, none⟩) (l.drop c) from by rw [hdn]; intro h; exact absurd rfl h)
          clear hdn
          go_upto_region 7 with (at_builtin; go_must (obtain ⟨i0, hi, hz0, hz1, hz2⟩ := info_parts info3x; refine wpList_append_src _ rfl _ _ 25 rfl n 3 i0 (.int .i64 0) 1 8 Try.underlying25 hi hz0 hz1 hz2 rfl (by decide) (.slice none 0 0) 0 [] rfl (World.ownsRow_nil _ _ _ _) W.heap.size _ 0 _ (ints (l.drop c)) rfl (by rw [ints_len, List.length_drop, Nat.zero_mul]; omega) HD.out.cells (ints_one _) (by have := HL.out; unfold maxLen; omega) (by have := HL.out; omega) HO.out.sz ?_); intro v1 w1 hown hg hat; rw [List.nil_append, Nat.zero_add] at hown; obtain ⟨A1, c1, rfl⟩ := own_slice hown; have H1 := hide ((HO.out.nilRow 3 1).growRow hown hg hat); clear hown hg hat hi hz0 hz1 hz2 i0)
          have HT1 := hide ((Ints.of_own (B := w1.heap.size) H1.out.tail.row (Nat.le_refl _)).take c)
          have hkc : c ≤ c := Nat.le_refl _
          go_wp2_with (first
            | (have hx3 := H3; clear hx3; at_builtin; go_must (obtain ⟨i0, hi, hz0, hz1, hz2⟩ := info_parts info3x; refine wpList_append_src _ rfl _ _ 25 rfl n 3 i0 (.int .i64 0) 1 8 Try.underlying25 hi hz0 hz1 hz2 rfl (by decide) _ (c + 1) _ rfl H3.out.row w3.heap.size A1 0 c1 (ints (l.drop c)) rfl (by rw [ints_len, List.length_drop, Nat.zero_mul]; omega) (Ints.of_own (B := w3.heap.size) H3.out.tail.row (Nat.le_refl _)).cells (ints_one _) (by have := HL.out; have := HE.out; have := HK.out; unfold maxLen; omega) (by have := HL.out; have := HE.out; have := HK.out; omega) H3.out.sz ?_); intro v4 w4 hown hg hat; obtain ⟨A4, c4, rfl⟩ := own_slice hown; have H4 := hide (H3.out.growRow hown hg hat); clear hown hg hat hi hz0 hz1 hz2 i0)
            | (have hx2 := H2; clear hx2; at_builtin; go_must (obtain ⟨i0, hi, hz0, hz1, hz2⟩ := info_parts info3x; refine wpList_append_own_at _ rfl _ _ 25 rfl n 3 i0 (.int .i64 0) 1 8 Try.underlying25 hi hz0 hz1 hz2 rfl (by decide) _ _ _ rfl (H2.out.row.alloc _) ⟨w2.heap.size, 0, none⟩ 1 1 [.int .i64 x] rfl rfl (cell_one_new _ _ _) (by simp [Value.oneCell']) (by have := HL.out; have := HE.out; have := HK.out; unfold maxLen; omega) (by have := HL.out; have := HE.out; have := HK.out; omega) (by have := H2.out.sz; simp; omega) ?_); intro v3 w3 hown hg _ hat; obtain ⟨A3, c3, rfl⟩ := own_slice hown; have H3 := hide ((H2.out.alloc _).growRow hown hg hat); clear hown hg hat hi hz0 hz1 hz2 i0)
            | (at_builtin; go_must (obtain ⟨i0, hi, hz0, hz1, hz2⟩ := info_parts info3x; refine wpList_append_src _ rfl _ _ 25 rfl n 3 i0 (.int .i64 0) 1 8 Try.underlying25 hi hz0 hz1 hz2 rfl (by decide) (.slice none 0 0) 0 [] rfl (World.ownsRow_nil _ _ _ _) w1.heap.size _ c _ (ints (l.take c)) rfl (by rw [ints_len, List.length_take, Nat.mul_one]; have := HE.out; have := HK.out; omega) HT1.out.cells (ints_one _) (by have := HL.out; have := HE.out; have := HK.out; unfold maxLen; omega) (by have := HL.out; have := HE.out; have := HK.out; omega) H1.out.sz ?_); intro v2 w2 hown hg hat; rw [List.nil_append, Nat.zero_add] at hown; obtain ⟨A2, c2, rfl⟩ := own_slice hown; have H2 := hide ((H1.out.nilRow 3 1).growRow hown hg hat); clear hown hg hat hi hz0 hz1 hz2 i0))
          go_ret
          exact ⟨_, rfl, put_fin HP.out (by have := HE.out; have := HK.out; omega) (by omega) H4.out.f1.tail.f1.tail⟩
        · have HD := hide (show Ints W.heap.size W (some ⟨g, k, none⟩) (l.drop k) from by rw [hdn]; intro h; exact absurd rfl h)
          clear hdn
          go_upto_region 7 with (at_builtin; go_must (obtain ⟨i0, hi, hz0, hz1, hz2⟩ := info_parts info3x; refine wpList_append_src _ rfl _ _ 25 rfl n 3 i0 (.int .i64 0) 1 8 Try.underlying25 hi hz0 hz1 hz2 rfl (by decide) (.slice none 0 0) 0 [] rfl (World.ownsRow_nil _ _ _ _) W.heap.size _ (l.length - k) _ (ints (l.drop k)) rfl (by rw [ints_len, List.length_drop, Nat.mul_one]) HD.out.cells (ints_one _) (by have := HL.out; unfold maxLen; omega) (by have := HL.out; omega) HO.out.sz ?_); intro v1 w1 hown hg hat; rw [List.nil_append, Nat.zero_add] at hown; obtain ⟨A1, c1, rfl⟩ := own_slice hown; have H1 := hide ((HO.out.nilRow 3 1).growRow hown hg hat); clear hown hg hat hi hz0 hz1 hz2 i0)
          have HT1 := hide ((Ints.of_own (B := w1.heap.size) H1.out.tail.row (Nat.le_refl _)).take k)
          have hkc : k ≤ c := by have := HK.out; have := HE.out; omega
          go_wp2_with (first
            | (have hx3 := H3; clear hx3; at_builtin; go_must (obtain ⟨i0, hi, hz0, hz1, hz2⟩ := info_parts info3x; refine wpList_append_src _ rfl _ _ 25 rfl n 3 i0 (.int .i64 0) 1 8 Try.underlying25 hi hz0 hz1 hz2 rfl (by decide) _ (k + 1) _ rfl H3.out.row w3.heap.size A1 (l.length - k) c1 (ints (l.drop k)) rfl (by rw [ints_len, List.length_drop, Nat.mul_one]) (Ints.of_own (B := w3.heap.size) H3.out.tail.row (Nat.le_refl _)).cells (ints_one _) (by have := HL.out; have := HE.out; have := HK.out; unfold maxLen; omega) (by have := HL.out; have := HE.out; have := HK.out; omega) H3.out.sz ?_); intro v4 w4 hown hg hat; obtain ⟨A4, c4, rfl⟩ := own_slice hown; have H4 := hide (H3.out.growRow hown hg hat); clear hown hg hat hi hz0 hz1 hz2 i0)
            | (have hx2 := H2; clear hx2; at_builtin; go_must (obtain ⟨i0, hi, hz0, hz1, hz2⟩ := info_parts info3x; refine wpList_append_own_at _ rfl _ _ 25 rfl n 3 i0 (.int .i64 0) 1 8 Try.underlying25 hi hz0 hz1 hz2 rfl (by decide) _ _ _ rfl (H2.out.row.alloc _) ⟨w2.heap.size, 0, none⟩ 1 1 [.int .i64 x] rfl rfl (cell_one_new _ _ _) (by simp [Value.oneCell']) (by have := HL.out; have := HE.out; have := HK.out; unfold maxLen; omega) (by have := HL.out; have := HE.out; have := HK.out; omega) (by have := H2.out.sz; simp; omega) ?_); intro v3 w3 hown hg _ hat; obtain ⟨A3, c3, rfl⟩ := own_slice hown; have H3 := hide ((H2.out.alloc _).growRow hown hg hat); clear hown hg hat hi hz0 hz1 hz2 i0)
            | (at_builtin; go_must (obtain ⟨i0, hi, hz0, hz1, hz2⟩ := info_parts info3x; refine wpList_append_src _ rfl _ _ 25 rfl n 3 i0 (.int .i64 0) 1 8 Try.underlying25 hi hz0 hz1 hz2 rfl (by decide) (.slice none 0 0) 0 [] rfl (World.ownsRow_nil _ _ _ _) w1.heap.size _ k _ (ints (l.take k)) rfl (by rw [ints_len, List.length_take, Nat.mul_one]; have := HE.out; have := HK.out; omega) HT1.out.cells (ints_one _) (by have := HL.out; have := HE.out; have := HK.out; unfold maxLen; omega) (by have := HL.out; have := HE.out; have := HK.out; omega) H1.out.sz ?_); intro v2 w2 hown hg hat; rw [List.nil_append, Nat.zero_add] at hown; obtain ⟨A2, c2, rfl⟩ := own_slice hown; have H2 := hide ((H1.out.nilRow 3 1).growRow hown hg hat); clear hown hg hat hi hz0 hz1 hz2 i0))
          go_ret
          exact ⟨_, rfl, put_fin HP.out (by have := HE.out; have := HK.out; omega) rfl H4.out.f1.tail.f1.tail⟩
end
end Go.Proofs.Ytlpdhmkcbdhelaa
