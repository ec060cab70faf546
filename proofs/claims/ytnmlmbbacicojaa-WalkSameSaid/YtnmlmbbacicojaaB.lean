/-
  Contracts of walk.same and walk.Same: are two nodes, are two lists of nodes one? Printed by b_gen.py. Condition: lists shorter than 2^62.
-/
import Derived.Test.YtnmlmbbacicojaaA
namespace Go.Proofs.Ytnmlmbbacicojaa
set_option linter.unusedVariables false
set_option linter.unusedSimpArgs false
open Go.RowKit Go.Proofs.YtnmlmbbacicojaaW.PrintWords Go.Proofs.YtnmlmbbacicojaaW.PrintLast Go.Proofs.YtnmlmbbacicojaaW.PrintMore Go.Proofs.Ytnmlmbbacicojaa.PWalkSame

def entEq (x y : S32) : Bool := (x.f0 == y.f0) && (x.f1.toList == y.f1.toList)
theorem wrap_succ (i : Nat) (h : i ≤ 9223372036854775806) : wrap64 ((i : Int) + 1) = ((i + 1 : Nat) : Int) := by unfold wrap64; omega
theorem ents_ev (a b : List S32) (hab : a.length = b.length) (hl : a.length ≤ 9223372036854775807) (d : Nat) : ∀ i : Nat, i + d = a.length → (∀ j (h : j < a.length) (h' : j < b.length), j < i → entEq a[j] b[j] = true) → Ev (fun k => api_Entry.l0 k a b (a.length : Int) (i : Int)) (eqL entEq a b) := by
  induction d with
  | zero =>
    intro i hi ha
    rw [eqL_good (by simpa using hab) (fun k h h' => ha k h h' (by omega))]
    refine Ev.step (f := fun _ => some true) (fun k => ?_) (Ev.now _)
    simp only [api_Entry.l0]
    rw [if_neg (by omega)]
  | succ d ih =>
    intro i hi ha
    have hlt : i < a.length := by omega
    have hlt' : i < b.length := by omega
    have e1 : rd_T32 a (i : Int) = a[i] := by unfold rd_T32; simp [hlt]
    have e2 : rd_T32 b (i : Int) = b[i] := by unfold rd_T32; simp [hlt']
    have e3 : (!((a[i]).f0 == (b[i]).f0) || !((a[i]).f1.toList == (b[i]).f1.toList)) = !(entEq a[i] b[i]) := by unfold entEq; rw [Bool.not_and]
    cases hq : entEq a[i] b[i] with
    | true =>
      refine Ev.step (f := fun k => api_Entry.l0 k a b (a.length : Int) ((i + 1 : Nat) : Int)) (fun k => ?_) (ih (i + 1) (by omega) fun j h h' hj => by
        by_cases e : j = i
        · subst e; exact hq
        · exact ha j h h' (by omega))
      simp only [api_Entry.l0]
      rw [if_pos (by omega), if_pos (by omega), if_pos (by omega), if_pos (by omega), e1, e2, e3, hq, if_neg (by simp), wrap_succ i (by omega)]
    | false =>
      rw [eqL_bad i hlt hlt' hq]
      refine Ev.step (f := fun _ => some false) (fun k => ?_) (Ev.now _)
      simp only [api_Entry.l0]
      rw [if_pos (by omega), if_pos (by omega), if_pos (by omega), if_pos (by omega), e1, e2, e3, hq, if_pos (by simp)]
theorem entsR (a b : List S32) (hl : a.length ≤ 9223372036854775807) : Ev (fun k => api_Entry.f k a b) (eqL entEq a b) := by
  by_cases e : a.length = b.length
  · refine Ev.congr (f := fun k => api_Entry.l0 k a b (a.length : Int) 0) (fun k => ?_) (ents_ev a b e hl a.length 0 (by omega) (fun j _ _ h => absurd h (by omega)))
    unfold api_Entry.f
    rw [if_pos (by omega)]
  · rw [eqL_len (by simpa using e)]
    refine Ev.congr (f := fun _ => some false) (fun k => ?_) (Ev.now _)
    unfold api_Entry.f
    rw [if_neg (by omega)]
theorem entsEq_c (A A' : Option Addr) (c c' : Nat) (xs ys : List S32) (w : World) (h1 : Kd.C k32 w A xs.length xs) (hc : xs.length ≤ c) (h2 : Kd.C k32 w A' ys.length ys) (hc' : ys.length ≤ c') (hl : xs.length ≤ 9223372036854775807) :
    Calls Try.prog 33 #[.slice A xs.length c, .slice A' ys.length c'] w fun e w' => e = .returned (.bool (eqL entEq xs ys)) ∧ Below w.heap.size w w' := by
  obtain ⟨k, hk⟩ := (entsR xs ys hl).rounds
  exact (api_Entry.calls k A c xs A' c' ys _ w h1 hc h2 hc' hk).mono fun e w' ⟨he, hd⟩ => ⟨he, by obtain ⟨q, rfl⟩ := hd.out; exact below_drewN (Below.refl _ _) q⟩
/-- are two nodes one? -/
def nodeEq (x y : S30) : Bool := (x.f0 == y.f0) && ((x.f1 == y.f1) && ((x.f2 == y.f2) && ((x.f3 == y.f3) && (eqL entEq x.f5 y.f5 && eqL partEq x.f4 y.f4))))
def Mod (x : S30) : Prop := x.f4.length ≤ 9223372036854775807 ∧ x.f5.length ≤ 9223372036854775807
def nodeV (x : S30) (A4 : Option Addr) (c4 : Nat) (A5 : Option Addr) (c5 : Nat) : Value := .agg #[.int .i64 x.f0, .int .i64 x.f1, .int .i64 x.f2, .int .i64 x.f3, .slice A4 x.f4.length c4, .slice A5 x.f5.length c5]

set_option maxHeartbeats 1000000 in
set_option maxRecDepth 100000 in
theorem nodeEq_f0 (x y : S30) (A4 A4' A5 A5' : Option Addr) (c4 c4' c5 c5' : Nat) (w : World) (hm : Mod x) (h4 : k35.C w A4 x.f4.length x.f4) (h4' : k35.C w A4' y.f4.length y.f4) (h5 : k32.C w A5 x.f5.length x.f5) (h5' : k32.C w A5' y.f5.length y.f5) (l4 : x.f4.length ≤ c4) (l4' : y.f4.length ≤ c4') (l5 : x.f5.length ≤ c5) (l5' : y.f5.length ≤ c5') (e0 : x.f0 ≠ y.f0) :
    Calls Try.prog 23 #[.agg #[.int .i64 x.f0, .int .i64 x.f1, .int .i64 x.f2, .int .i64 x.f3, .slice A4 x.f4.length c4, .slice A5 x.f5.length c5], .agg #[.int .i64 y.f0, .int .i64 y.f1, .int .i64 y.f2, .int .i64 y.f3, .slice A4' y.f4.length c4', .slice A5' y.f5.length c5']] w fun e w' => e = .returned (.bool (nodeEq x y)) ∧ Below w.heap.size w w' := by
  have b0 : (x.f0 == y.f0) = false := by simpa using e0
  have d0 : (x.f0 != y.f0) = true := by simpa using e0
  have HE := hide (show nodeEq x y = false by unfold nodeEq; simp [b0])
  clear hm h4 h4' h5 h5' l4 l4' l5 l5' e0
  go_enter Try.func23, Try.ntmps23
  go_wp2
  go_ret
  exact ⟨by rw [HE.out]; first | rfl | simp, ((Below.refl _ w).alloc (Nat.le_refl _) _).alloc (by simp) _⟩
set_option maxHeartbeats 1000000 in
set_option maxRecDepth 100000 in
theorem nodeEq_f1 (x y : S30) (A4 A4' A5 A5' : Option Addr) (c4 c4' c5 c5' : Nat) (w : World) (hm : Mod x) (h4 : k35.C w A4 x.f4.length x.f4) (h4' : k35.C w A4' y.f4.length y.f4) (h5 : k32.C w A5 x.f5.length x.f5) (h5' : k32.C w A5' y.f5.length y.f5) (l4 : x.f4.length ≤ c4) (l4' : y.f4.length ≤ c4') (l5 : x.f5.length ≤ c5) (l5' : y.f5.length ≤ c5') (e0 : x.f0 = y.f0) (e1 : x.f1 ≠ y.f1) :
    Calls Try.prog 23 #[.agg #[.int .i64 x.f0, .int .i64 x.f1, .int .i64 x.f2, .int .i64 x.f3, .slice A4 x.f4.length c4, .slice A5 x.f5.length c5], .agg #[.int .i64 y.f0, .int .i64 y.f1, .int .i64 y.f2, .int .i64 y.f3, .slice A4' y.f4.length c4', .slice A5' y.f5.length c5']] w fun e w' => e = .returned (.bool (nodeEq x y)) ∧ Below w.heap.size w w' := by
  have b0 : (x.f0 == y.f0) = true := by simpa using e0
  have d0 : (x.f0 != y.f0) = false := by simpa using e0
  have b1 : (x.f1 == y.f1) = false := by simpa using e1
  have d1 : (x.f1 != y.f1) = true := by simpa using e1
  have HE := hide (show nodeEq x y = false by unfold nodeEq; simp [b0, b1])
  clear hm h4 h4' h5 h5' l4 l4' l5 l5' e0 e1
  go_enter Try.func23, Try.ntmps23
  go_wp2
  go_ret
  exact ⟨by rw [HE.out]; first | rfl | simp, ((Below.refl _ w).alloc (Nat.le_refl _) _).alloc (by simp) _⟩
set_option maxHeartbeats 1000000 in
set_option maxRecDepth 100000 in
theorem nodeEq_f2 (x y : S30) (A4 A4' A5 A5' : Option Addr) (c4 c4' c5 c5' : Nat) (w : World) (hm : Mod x) (h4 : k35.C w A4 x.f4.length x.f4) (h4' : k35.C w A4' y.f4.length y.f4) (h5 : k32.C w A5 x.f5.length x.f5) (h5' : k32.C w A5' y.f5.length y.f5) (l4 : x.f4.length ≤ c4) (l4' : y.f4.length ≤ c4') (l5 : x.f5.length ≤ c5) (l5' : y.f5.length ≤ c5') (e0 : x.f0 = y.f0) (e1 : x.f1 = y.f1) (e2 : x.f2 ≠ y.f2) :
    Calls Try.prog 23 #[.agg #[.int .i64 x.f0, .int .i64 x.f1, .int .i64 x.f2, .int .i64 x.f3, .slice A4 x.f4.length c4, .slice A5 x.f5.length c5], .agg #[.int .i64 y.f0, .int .i64 y.f1, .int .i64 y.f2, .int .i64 y.f3, .slice A4' y.f4.length c4', .slice A5' y.f5.length c5']] w fun e w' => e = .returned (.bool (nodeEq x y)) ∧ Below w.heap.size w w' := by
  have b0 : (x.f0 == y.f0) = true := by simpa using e0
  have d0 : (x.f0 != y.f0) = false := by simpa using e0
  have b1 : (x.f1 == y.f1) = true := by simpa using e1
  have d1 : (x.f1 != y.f1) = false := by simpa using e1
  have b2 : (x.f2 == y.f2) = false := by simpa using e2
  have d2 : (x.f2 != y.f2) = true := by simpa using e2
  have HE := hide (show nodeEq x y = false by unfold nodeEq; simp [b0, b1, b2])
  clear hm h4 h4' h5 h5' l4 l4' l5 l5' e0 e1 e2
  go_enter Try.func23, Try.ntmps23
  go_wp2
  go_ret
  exact ⟨by rw [HE.out]; first | rfl | simp, ((Below.refl _ w).alloc (Nat.le_refl _) _).alloc (by simp) _⟩
set_option maxHeartbeats 1000000 in
set_option maxRecDepth 100000 in
theorem nodeEq_f3 (x y : S30) (A4 A4' A5 A5' : Option Addr) (c4 c4' c5 c5' : Nat) (w : World) (hm : Mod x) (h4 : k35.C w A4 x.f4.length x.f4) (h4' : k35.C w A4' y.f4.length y.f4) (h5 : k32.C w A5 x.f5.length x.f5) (h5' : k32.C w A5' y.f5.length y.f5) (l4 : x.f4.length ≤ c4) (l4' : y.f4.length ≤ c4') (l5 : x.f5.length ≤ c5) (l5' : y.f5.length ≤ c5') (e0 : x.f0 = y.f0) (e1 : x.f1 = y.f1) (e2 : x.f2 = y.f2) (e3 : x.f3 ≠ y.f3) :
    Calls Try.prog 23 #[.agg #[.int .i64 x.f0, .int .i64 x.f1, .int .i64 x.f2, .int .i64 x.f3, .slice A4 x.f4.length c4, .slice A5 x.f5.length c5], .agg #[.int .i64 y.f0, .int .i64 y.f1, .int .i64 y.f2, .int .i64 y.f3, .slice A4' y.f4.length c4', .slice A5' y.f5.length c5']] w fun e w' => e = .returned (.bool (nodeEq x y)) ∧ Below w.heap.size w w' := by
  have b0 : (x.f0 == y.f0) = true := by simpa using e0
  have d0 : (x.f0 != y.f0) = false := by simpa using e0
  have b1 : (x.f1 == y.f1) = true := by simpa using e1
  have d1 : (x.f1 != y.f1) = false := by simpa using e1
  have b2 : (x.f2 == y.f2) = true := by simpa using e2
  have d2 : (x.f2 != y.f2) = false := by simpa using e2
  have b3 : (x.f3 == y.f3) = false := by simpa using e3
  have d3 : (x.f3 != y.f3) = true := by simpa using e3
  have HE := hide (show nodeEq x y = false by unfold nodeEq; simp [b0, b1, b2, b3])
  clear hm h4 h4' h5 h5' l4 l4' l5 l5' e0 e1 e2 e3
  go_enter Try.func23, Try.ntmps23
  go_wp2
  go_ret
  exact ⟨by rw [HE.out]; first | rfl | simp, ((Below.refl _ w).alloc (Nat.le_refl _) _).alloc (by simp) _⟩
set_option maxHeartbeats 1000000 in
set_option maxRecDepth 100000 in
theorem nodeEq_g (x y : S30) (A4 A4' A5 A5' : Option Addr) (c4 c4' c5 c5' : Nat) (w : World) (hm : Mod x) (h4 : k35.C w A4 x.f4.length x.f4) (h4' : k35.C w A4' y.f4.length y.f4) (h5 : k32.C w A5 x.f5.length x.f5) (h5' : k32.C w A5' y.f5.length y.f5) (l4 : x.f4.length ≤ c4) (l4' : y.f4.length ≤ c4') (l5 : x.f5.length ≤ c5) (l5' : y.f5.length ≤ c5') (e0 : x.f0 = y.f0) (e1 : x.f1 = y.f1) (e2 : x.f2 = y.f2) (e3 : x.f3 = y.f3) (hq : eqL entEq x.f5 y.f5 = false) :
    Calls Try.prog 23 #[.agg #[.int .i64 x.f0, .int .i64 x.f1, .int .i64 x.f2, .int .i64 x.f3, .slice A4 x.f4.length c4, .slice A5 x.f5.length c5], .agg #[.int .i64 y.f0, .int .i64 y.f1, .int .i64 y.f2, .int .i64 y.f3, .slice A4' y.f4.length c4', .slice A5' y.f5.length c5']] w fun e w' => e = .returned (.bool (nodeEq x y)) ∧ Below w.heap.size w w' := by
  have b0 : (x.f0 == y.f0) = true := by simpa using e0
  have d0 : (x.f0 != y.f0) = false := by simpa using e0
  have b1 : (x.f1 == y.f1) = true := by simpa using e1
  have d1 : (x.f1 != y.f1) = false := by simpa using e1
  have b2 : (x.f2 == y.f2) = true := by simpa using e2
  have d2 : (x.f2 != y.f2) = false := by simpa using e2
  have b3 : (x.f3 == y.f3) = true := by simpa using e3
  have d3 : (x.f3 != y.f3) = false := by simpa using e3
  have HE := hide (show nodeEq x y = false by unfold nodeEq; simp [b0, b1, b2, b3, hq])
  have HC := hide (fun W (hb : Below w.heap.size w W) => hq ▸ entsEq_c A5 A5' c5 c5' x.f5 y.f5 W (Kd.C_below h5 hb) l5 (Kd.C_below h5' hb) l5' hm.2)
  have HD := hide (fun W (hb : Below w.heap.size w W) => partsEq_c A4 A4' c4 c4' x.f4 y.f4 W (Kd.C_below h4 hb) l4 (Kd.C_below h4' hb) l4' hm.1)
  clear hm h4 h4' h5 h5' l4 l4' l5 l5' e0 e1 e2 e3 hq
  go_enter Try.func23, Try.ntmps23
  go_wp2_with (go_at_call 33; refine (HC.out _ (((Below.refl _ w).alloc (Nat.le_refl _) _).alloc (by simp) _)).mono ?_; rintro e w3 ⟨rfl, hb3⟩)
  go_ret
  exact ⟨by rw [HE.out]; first | rfl | simp, (((Below.refl _ w).alloc (Nat.le_refl _) _).alloc (by simp) _).trans (hb3.mono (by simp; omega))⟩
set_option maxHeartbeats 1000000 in
set_option maxRecDepth 100000 in
theorem nodeEq_h (x y : S30) (A4 A4' A5 A5' : Option Addr) (c4 c4' c5 c5' : Nat) (w : World) (hm : Mod x) (h4 : k35.C w A4 x.f4.length x.f4) (h4' : k35.C w A4' y.f4.length y.f4) (h5 : k32.C w A5 x.f5.length x.f5) (h5' : k32.C w A5' y.f5.length y.f5) (l4 : x.f4.length ≤ c4) (l4' : y.f4.length ≤ c4') (l5 : x.f5.length ≤ c5) (l5' : y.f5.length ≤ c5') (e0 : x.f0 = y.f0) (e1 : x.f1 = y.f1) (e2 : x.f2 = y.f2) (e3 : x.f3 = y.f3) (hq : eqL entEq x.f5 y.f5 = true) :
    Calls Try.prog 23 #[.agg #[.int .i64 x.f0, .int .i64 x.f1, .int .i64 x.f2, .int .i64 x.f3, .slice A4 x.f4.length c4, .slice A5 x.f5.length c5], .agg #[.int .i64 y.f0, .int .i64 y.f1, .int .i64 y.f2, .int .i64 y.f3, .slice A4' y.f4.length c4', .slice A5' y.f5.length c5']] w fun e w' => e = .returned (.bool (nodeEq x y)) ∧ Below w.heap.size w w' := by
  have b0 : (x.f0 == y.f0) = true := by simpa using e0
  have d0 : (x.f0 != y.f0) = false := by simpa using e0
  have b1 : (x.f1 == y.f1) = true := by simpa using e1
  have d1 : (x.f1 != y.f1) = false := by simpa using e1
  have b2 : (x.f2 == y.f2) = true := by simpa using e2
  have d2 : (x.f2 != y.f2) = false := by simpa using e2
  have b3 : (x.f3 == y.f3) = true := by simpa using e3
  have d3 : (x.f3 != y.f3) = false := by simpa using e3
  have HE := hide (show nodeEq x y = eqL partEq x.f4 y.f4 by unfold nodeEq; simp [b0, b1, b2, b3, hq])
  have HC := hide (fun W (hb : Below w.heap.size w W) => hq ▸ entsEq_c A5 A5' c5 c5' x.f5 y.f5 W (Kd.C_below h5 hb) l5 (Kd.C_below h5' hb) l5' hm.2)
  have HD := hide (fun W (hb : Below w.heap.size w W) => partsEq_c A4 A4' c4 c4' x.f4 y.f4 W (Kd.C_below h4 hb) l4 (Kd.C_below h4' hb) l4' hm.1)
  clear hm h4 h4' h5 h5' l4 l4' l5 l5' e0 e1 e2 e3 hq
  go_enter Try.func23, Try.ntmps23
  go_upto_region 3 with (go_at_call 33; refine (HC.out _ (((Below.refl _ w).alloc (Nat.le_refl _) _).alloc (by simp) _)).mono ?_; rintro e w3 ⟨rfl, hb3⟩)
  have z1 : w3.cell? ⟨w.heap.size, 4, none⟩ = some (.slice A4 x.f4.length c4) := (hb3.cell (by simp; omega)).trans (by first | (go_simp; done) | rfl | simp [World.cell?])
  have z2 : w3.cell? ⟨w.heap.size + 1, 4, none⟩ = some (.slice A4' y.f4.length c4') := (hb3.cell (by simp)).trans (by first | (go_simp; done) | rfl | simp [World.cell?])
  go_wp2_with (go_at_call 34; refine (HD.out _ ((((Below.refl _ w).alloc (Nat.le_refl _) _).alloc (by simp) _).trans (hb3.mono (by simp; omega)))).mono ?_; rintro e w4 ⟨rfl, hb4⟩)
  go_ret
  exact ⟨by rw [HE.out]; first | rfl | simp, ((((Below.refl _ w).alloc (Nat.le_refl _) _).alloc (by simp) _).trans (hb3.mono (by simp; omega))).trans (hb4.mono (by have := hb3.size; simp at this; omega))⟩
theorem nodeEq_c (x y : S30) (A4 A4' A5 A5' : Option Addr) (c4 c4' c5 c5' : Nat) (w : World) (hm : Mod x) (h4 : k35.C w A4 x.f4.length x.f4) (h4' : k35.C w A4' y.f4.length y.f4) (h5 : k32.C w A5 x.f5.length x.f5) (h5' : k32.C w A5' y.f5.length y.f5) (l4 : x.f4.length ≤ c4) (l4' : y.f4.length ≤ c4') (l5 : x.f5.length ≤ c5) (l5' : y.f5.length ≤ c5') :
    Calls Try.prog 23 #[.agg #[.int .i64 x.f0, .int .i64 x.f1, .int .i64 x.f2, .int .i64 x.f3, .slice A4 x.f4.length c4, .slice A5 x.f5.length c5], .agg #[.int .i64 y.f0, .int .i64 y.f1, .int .i64 y.f2, .int .i64 y.f3, .slice A4' y.f4.length c4', .slice A5' y.f5.length c5']] w fun e w' => e = .returned (.bool (nodeEq x y)) ∧ Below w.heap.size w w' := by
  by_cases e0 : x.f0 = y.f0
  · by_cases e1 : x.f1 = y.f1
    · by_cases e2 : x.f2 = y.f2
      · by_cases e3 : x.f3 = y.f3
        · cases hq : eqL entEq x.f5 y.f5 with
          | true => exact nodeEq_h x y A4 A4' A5 A5' c4 c4' c5 c5' w hm h4 h4' h5 h5' l4 l4' l5 l5' e0 e1 e2 e3 hq
          | false => exact nodeEq_g x y A4 A4' A5 A5' c4 c4' c5 c5' w hm h4 h4' h5 h5' l4 l4' l5 l5' e0 e1 e2 e3 hq
        · exact nodeEq_f3 x y A4 A4' A5 A5' c4 c4' c5 c5' w hm h4 h4' h5 h5' l4 l4' l5 l5' e0 e1 e2 e3
      · exact nodeEq_f2 x y A4 A4' A5 A5' c4 c4' c5 c5' w hm h4 h4' h5 h5' l4 l4' l5 l5' e0 e1 e2
    · exact nodeEq_f1 x y A4 A4' A5 A5' c4 c4' c5 c5' w hm h4 h4' h5 h5' l4 l4' l5 l5' e0 e1
  · exact nodeEq_f0 x y A4 A4' A5 A5' c4 c4' c5 c5' w hm h4 h4' h5 h5' l4 l4' l5 l5' e0
set_option maxHeartbeats 1000000 in
set_option maxRecDepth 100000 in
theorem nodesEq_c (A A' : Option Addr) (c c' : Nat) (xs ys : List S30) (w : World) (h1 : Kd.C k30 w A xs.length xs) (hc : xs.length ≤ c) (h2 : Kd.C k30 w A' ys.length ys) (hc' : ys.length ≤ c') (hl : xs.length ≤ 9223372036854775807) (hm : ∀ x ∈ xs, Mod x) :
    Calls Try.prog 22 #[.slice A xs.length c, .slice A' ys.length c', .func (.func 23) #[] #[]] w fun e w' => e = .returned (.bool (eqL nodeEq xs ys)) ∧ Below w.heap.size w w' := by
  have H1 := hide h1
  have H2 := hide h2
  clear h1 h2
  by_cases e : xs.length = ys.length
  · have e1 : ((xs.length : Int) == (ys.length : Int)) = true := by rw [e]; simp
    have e2 : ((xs.length : Int) != (ys.length : Int)) = false := by rw [e]; simp
    have e3 : (xs.length : Int) ≤ (ys.length : Int) := by omega
    have e4 : (ys.length : Int) ≤ (xs.length : Int) := by omega
    have E2 := hide (show (xs.length == ys.length) = true by simpa using e)
    clear e
    go_enter Try.func22, Try.ntmps22
    go_wp2
    go_loopw [17] (fun i wr => ∃ k : Nat, k ≤ xs.length ∧ i = .int .i64 k ∧ Below w.heap.size w wr ∧ ∀ j (hj : j < xs.length) (hj' : j < ys.length), j < k → nodeEq xs[j] ys[j] = true) (fun i _ => xs.length - (intOf i).toNat)
    case atStart => exact ⟨0, by omega, rfl, Below.refl _ _, fun j _ _ h => absurd h (by omega)⟩
    case round =>
      obtain ⟨k, hk, rfl, hbr, hall⟩ := hrel
      have HA := hide hall
      clear hall
      by_cases hlt : k < xs.length
      · have hlt' : k < ys.length := by omega
        obtain ⟨ad, A4, c4, A5, c5, e5, x0, x1, x2, x3, x4, x5, l4, g4, l5, g5⟩ := at_T30 H1.out (k : Int) (by omega) (by omega)
        obtain ⟨ad', A4', c4', A5', c5', e6, y0, y1, y2, y3, y4, y5, l4', g4', l5', g5'⟩ := at_T30 H2.out (k : Int) (by omega) (by omega)
        have ex : rd_T30 xs (k : Int) = xs[k] := by unfold rd_T30; simp [hlt]
        have ey : rd_T30 ys (k : Int) = ys[k] := by unfold rd_T30; simp [hlt']
        rw [ex] at x0 x1 x2 x3 x4 x5 l4 g4 l5 g5
        rw [ey] at y0 y1 y2 y3 y4 y5 l4' g4' l5' g5'
        rw [Int.toNat_natCast] at x0 x1 x2 x3 x4 x5 y0 y1 y2 y3 y4 y5
        subst e5
        subst e6
        replace x0 := (hbr.cell (World.block_lt_of_cell? w _ x0)).trans x0
        replace x1 := (hbr.cell (World.block_lt_of_cell? w _ x1)).trans x1
        replace x2 := (hbr.cell (World.block_lt_of_cell? w _ x2)).trans x2
        replace x3 := (hbr.cell (World.block_lt_of_cell? w _ x3)).trans x3
        replace x4 := (hbr.cell (World.block_lt_of_cell? w _ x4)).trans x4
        replace x5 := (hbr.cell (World.block_lt_of_cell? w _ x5)).trans x5
        replace y0 := (hbr.cell (World.block_lt_of_cell? w _ y0)).trans y0
        replace y1 := (hbr.cell (World.block_lt_of_cell? w _ y1)).trans y1
        replace y2 := (hbr.cell (World.block_lt_of_cell? w _ y2)).trans y2
        replace y3 := (hbr.cell (World.block_lt_of_cell? w _ y3)).trans y3
        replace y4 := (hbr.cell (World.block_lt_of_cell? w _ y4)).trans y4
        replace y5 := (hbr.cell (World.block_lt_of_cell? w _ y5)).trans y5
        have hmx := hm xs[k] (List.getElem_mem hlt)
        clear hm
        have G4 := hide g4
        have L4 := hide l4
        have G4' := hide g4'
        have L4' := hide l4'
        have G5 := hide g5
        have L5 := hide l5
        have G5' := hide g5'
        have L5' := hide l5'
        have HM := hide hmx
        clear g4 g4' g5 g5' l4 l4' l5 l5' hmx ex ey
        generalize hx : xs[k] = x at x0 x1 x2 x3 x4 x5 G4 G5 L4 L5 HM
        generalize hy : ys[k] = y at y0 y1 y2 y3 y4 y5 G4' G5' L4' L5'
        have HX := hide hx
        have HY := hide hy
        clear hx hy
        have bA : Below wr.heap.size wr (wr.alloc (.cells #[.int .i64 x.f0, .int .i64 x.f1, .int .i64 x.f2, .int .i64 x.f3, .slice A4 x.f4.length c4, .slice A5 x.f5.length c5] 30)) := (Below.refl _ wr).alloc (Nat.le_refl _) _
        replace y0 := (bA.cell (World.block_lt_of_cell? wr _ y0)).trans y0
        replace y1 := (bA.cell (World.block_lt_of_cell? wr _ y1)).trans y1
        replace y2 := (bA.cell (World.block_lt_of_cell? wr _ y2)).trans y2
        replace y3 := (bA.cell (World.block_lt_of_cell? wr _ y3)).trans y3
        replace y4 := (bA.cell (World.block_lt_of_cell? wr _ y4)).trans y4
        replace y5 := (bA.cell (World.block_lt_of_cell? wr _ y5)).trans y5
        have HBA := hide (hbr.trans ((bA.alloc (by simp) (.cells #[.int .i64 y.f0, .int .i64 y.f1, .int .i64 y.f2, .int .i64 y.f3, .slice A4' y.f4.length c4', .slice A5' y.f5.length c5'] 30)).mono hbr.size))
        clear bA
        cases hq : nodeEq x y with
        | true =>
          have HC := hide (hq ▸ nodeEq_c x y A4 A4' A5 A5' c4 c4' c5 c5' _ HM.out (Kd.C_below G4.out HBA.out) (Kd.C_below G4'.out HBA.out) (Kd.C_below G5.out HBA.out) (Kd.C_below G5'.out HBA.out) L4.out L4'.out L5.out L5'.out)
          have HQ := hide hq
          clear hq
          go_wp2_with (go_at_call 23; refine HC.out.mono ?_; rintro e w3 ⟨rfl, hb3⟩)
          go_roundw
          case rel => exact ⟨k + 1, by omega, by go_num, HBA.out.trans (hb3.mono HBA.out.size), fun j hj hj' hjk => by
            by_cases e : j = k
            · subst e; rw [HX.out, HY.out]; exact HQ.out
            · exact HA.out j hj hj' (by omega)⟩
          case measure => simp [intOf]; omega
        | false =>
          have HC := hide (hq ▸ nodeEq_c x y A4 A4' A5 A5' c4 c4' c5 c5' _ HM.out (Kd.C_below G4.out HBA.out) (Kd.C_below G4'.out HBA.out) (Kd.C_below G5.out HBA.out) (Kd.C_below G5'.out HBA.out) L4.out L4'.out L5.out L5'.out)
          have HE := hide (eqL_bad (f := nodeEq) k hlt hlt' (by rw [HX.out, HY.out]; exact hq))
          clear hq
          go_wp2_with (go_at_call 23; refine HC.out.mono ?_; rintro e w3 ⟨rfl, hb3⟩)
          go_ret
          exact ⟨by rw [HE.out]; first | rfl | simp, HBA.out.trans (hb3.mono HBA.out.size)⟩
      · have hkn : xs.length ≤ k := by omega
        have HE := hide (eqL_good (f := nodeEq) E2.out (fun j hj hj' => HA.out j hj hj' (by omega)))
        go_wp2
        go_ret
        exact ⟨by rw [HE.out]; first | rfl | simp, hbr⟩
  · have e1 : ((xs.length : Int) == (ys.length : Int)) = false := by rw [beq_eq_false_iff_ne]; omega
    have e2 : ((xs.length : Int) != (ys.length : Int)) = true := by rw [bne_iff_ne]; omega
    have HE := hide (eqL_len (f := nodeEq) (show (xs.length == ys.length) = false by simpa using e))
    clear e
    go_enter Try.func22, Try.ntmps22
    go_wp2
    go_ret
    exact ⟨by rw [HE.out]; first | rfl | simp, Below.refl _ _⟩

theorem walkSame_c (A A' : Option Addr) (c c' : Nat) (xs ys : List S30) (w : World) (h1 : Kd.C k30 w A xs.length xs) (hc : xs.length ≤ c) (h2 : Kd.C k30 w A' ys.length ys) (hc' : ys.length ≤ c') (hl : xs.length ≤ 9223372036854775807) (hm : ∀ x ∈ xs, Mod x) :
    Calls Try.prog 11 #[.slice A xs.length c, .slice A' ys.length c'] w fun e w' => e = .returned (.bool (eqL nodeEq xs ys)) ∧ Below w.heap.size w w' := by
  have HC := hide (nodesEq_c A A' c c' xs ys w h1 hc h2 hc' hl hm)
  clear h1 h2 hm
  go_enter Try.func11, Try.ntmps11
  go_wp2_with (go_at_call 22; refine HC.out.mono ?_; rintro e w1 ⟨rfl, hb⟩)
  go_ret
  exact ⟨rfl, hb⟩
end Go.Proofs.Ytnmlmbbacicojaa
