/-
  The law's Big, over nodes that came in: it answers; and where it answers no, all is small.
-/
import Derived.Test.YtnmlmbbacicojaaQ
import Derived.Test.YtnmlmbbacicojaaB
import Derived.Test.YtnmlmbbacicojaaPWalkSamex3
namespace Go.Proofs.Ytnmlmbbacicojaa
set_option linter.unusedVariables false
set_option linter.unusedSimpArgs false
open Go.RowKit Go.Proofs.YtnmlmbbacicojaaW.PrintWords Go.Proofs.YtnmlmbbacicojaaW.PrintLast Go.Proofs.YtnmlmbbacicojaaW.PrintMore Go.Proofs.Ytnmlmbbacicojaa.PWalkSame

theorem rd30 {l : List S30} {i : Nat} (h : i < l.length) : rd_T30 l (i : Int) = l[i] := by unfold rd_T30; simp [h]
theorem rd32 {l : List S32} {i : Nat} (h : i < l.length) : rd_T32 l (i : Int) = l[i] := by unfold rd_T32; simp [h]
theorem rd35 {l : List S35} {i : Nat} (h : i < l.length) : rd_T35 l (i : Int) = l[i] := by unfold rd_T35; simp [h]
theorem reach47 : reachBytes ≤ 140737488355328 := Nat.le_of_lt reachBytes_lt

theorem big_l1 (l : List S30) (i n : Nat) (hi : i < l.length) (x : S30) (hx : l[i] = x) (hs : x.f5.length ≤ 140737488355328) (d : Nat) : ∀ j : Nat, j + d = x.f5.length →
    ∃ b : Bool, (b = true → ∀ q (h : q < x.f5.length), j ≤ q → q < 500 → (x.f5[q]).f1.size ≤ 1000) ∧ ∀ r, (b = true → Ev (fun k => lockgatelaw20_Big.l2 k l (n : Int) (i : Int) 0) r) → Ev (fun k => lockgatelaw20_Big.l1 k l (n : Int) (i : Int) (j : Int)) (if b then r else true) := by
  have ex : rd_T30 l (i : Int) = x := by rw [rd30 hi, hx]
  have hi' : (i : Int) < (l.length : Int) := by omega
  induction d with
  | zero =>
    intro j hj
    refine ⟨true, fun _ q h hq _ => absurd h (by omega), fun r hr => ?_⟩
    refine Ev.step (f := fun k => lockgatelaw20_Big.j3 k l (n : Int) (i : Int) (j : Int) false) (fun k => ?_) ?_
    · simp only [lockgatelaw20_Big.l1]
      rw [if_pos (by omega), if_pos hi', ex, if_neg (by omega)]
    · refine Ev.step (f := fun k => lockgatelaw20_Big.l2 k l (n : Int) (i : Int) 0) (fun k => ?_) (hr rfl)
      simp only [lockgatelaw20_Big.j3]
      rw [if_neg (by simp)]
  | succ d ih =>
    intro j hj
    have hlt : j < x.f5.length := by omega
    by_cases h500 : j < 500
    · by_cases hbad : 1000 < (x.f5[j]).f1.size
      · refine ⟨false, (fun h => by cases h), fun r _ => ?_⟩
        refine Ev.step (f := fun k => lockgatelaw20_Big.j3 k l (n : Int) (i : Int) (j : Int) true) (fun k => ?_) ?_
        · simp only [lockgatelaw20_Big.l1]
          rw [if_pos (by omega), if_pos hi', ex, if_pos (by omega), decide_eq_true (by omega)]
        · refine Ev.step (f := fun _ => some true) (fun k => ?_) (Ev.now _)
          simp only [lockgatelaw20_Big.j3]
          rw [if_pos trivial, if_pos (by omega), if_pos hi', if_pos (by omega), ex, if_pos (by omega), rd32 hlt, if_pos (by omega)]
      · obtain ⟨b, hb, hr⟩ := ih (j + 1) (by omega)
        refine ⟨b, fun e q h hq hq' => ?_, fun r hr' => ?_⟩
        · by_cases e2 : q = j
          · subst e2; omega
          · exact hb e q h (by omega) hq'
        · refine Ev.step (f := fun k => lockgatelaw20_Big.j3 k l (n : Int) (i : Int) (j : Int) true) (fun k => ?_) ?_
          · simp only [lockgatelaw20_Big.l1]
            rw [if_pos (by omega), if_pos hi', ex, if_pos (by omega), decide_eq_true (by omega)]
          · refine Ev.step (f := fun k => lockgatelaw20_Big.l1 k l (n : Int) (i : Int) ((j + 1 : Nat) : Int)) (fun k => ?_) (hr r hr')
            simp only [lockgatelaw20_Big.j3]
            rw [if_pos trivial, if_pos (by omega), if_pos hi', if_pos (by omega), ex, if_pos (by omega), rd32 hlt, if_neg (by omega), wrap_succ j (by omega)]
    · refine ⟨true, fun _ q h hq hq' => by omega, fun r hr => ?_⟩
      refine Ev.step (f := fun k => lockgatelaw20_Big.j3 k l (n : Int) (i : Int) (j : Int) false) (fun k => ?_) ?_
      · simp only [lockgatelaw20_Big.l1]
        rw [if_pos (by omega), if_pos hi', ex, if_pos (by omega), decide_eq_false (by omega)]
      · refine Ev.step (f := fun k => lockgatelaw20_Big.l2 k l (n : Int) (i : Int) 0) (fun k => ?_) (hr rfl)
        simp only [lockgatelaw20_Big.j3]
        rw [if_neg (by simp)]
theorem big_l2 (l : List S30) (i n : Nat) (hi : i < l.length) (hl : l.length ≤ 140737488355328) (x : S30) (hx : l[i] = x) (hs : x.f4.length ≤ 140737488355328) (d : Nat) : ∀ j : Nat, j + d = x.f4.length →
    ∃ b : Bool, (b = true → ∀ q (h : q < x.f4.length), j ≤ q → q < 500 → (x.f4[q]).f1.length ≤ 2000) ∧ ∀ r, (b = true → Ev (fun k => lockgatelaw20_Big.l0 k l (n : Int) ((i + 1 : Nat) : Int)) r) → Ev (fun k => lockgatelaw20_Big.l2 k l (n : Int) (i : Int) (j : Int)) (if b then r else true) := by
  have ex : rd_T30 l (i : Int) = x := by rw [rd30 hi, hx]
  have hi' : (i : Int) < (l.length : Int) := by omega
  induction d with
  | zero =>
    intro j hj
    refine ⟨true, fun _ q h hq _ => absurd h (by omega), fun r hr => ?_⟩
    refine Ev.step (f := fun k => lockgatelaw20_Big.j5 k l (n : Int) (i : Int) (j : Int) false) (fun k => ?_) ?_
    · simp only [lockgatelaw20_Big.l2]
      rw [if_pos (by omega), if_pos hi', ex, if_neg (by omega)]
    · refine Ev.step (f := fun k => lockgatelaw20_Big.l0 k l (n : Int) ((i + 1 : Nat) : Int)) (fun k => ?_) (hr rfl)
      simp only [lockgatelaw20_Big.j5]
      rw [if_neg (by simp), wrap_succ i (by omega)]
  | succ d ih =>
    intro j hj
    have hlt : j < x.f4.length := by omega
    by_cases h500 : j < 500
    · by_cases hbad : 2000 < (x.f4[j]).f1.length
      · refine ⟨false, (fun h => by cases h), fun r _ => ?_⟩
        refine Ev.step (f := fun k => lockgatelaw20_Big.j5 k l (n : Int) (i : Int) (j : Int) true) (fun k => ?_) ?_
        · simp only [lockgatelaw20_Big.l2]
          rw [if_pos (by omega), if_pos hi', ex, if_pos (by omega), decide_eq_true (by omega)]
        · refine Ev.step (f := fun _ => some true) (fun k => ?_) (Ev.now _)
          simp only [lockgatelaw20_Big.j5]
          rw [if_pos trivial, if_pos (by omega), if_pos hi', if_pos (by omega), ex, if_pos (by omega), rd35 hlt, if_pos (by omega)]
      · obtain ⟨b, hb, hr⟩ := ih (j + 1) (by omega)
        refine ⟨b, fun e q h hq hq' => ?_, fun r hr' => ?_⟩
        · by_cases e2 : q = j
          · subst e2; omega
          · exact hb e q h (by omega) hq'
        · refine Ev.step (f := fun k => lockgatelaw20_Big.j5 k l (n : Int) (i : Int) (j : Int) true) (fun k => ?_) ?_
          · simp only [lockgatelaw20_Big.l2]
            rw [if_pos (by omega), if_pos hi', ex, if_pos (by omega), decide_eq_true (by omega)]
          · refine Ev.step (f := fun k => lockgatelaw20_Big.l2 k l (n : Int) (i : Int) ((j + 1 : Nat) : Int)) (fun k => ?_) (hr r hr')
            simp only [lockgatelaw20_Big.j5]
            rw [if_pos trivial, if_pos (by omega), if_pos hi', if_pos (by omega), ex, if_pos (by omega), rd35 hlt, if_neg (by omega), wrap_succ j (by omega)]
    · refine ⟨true, fun _ q h hq hq' => by omega, fun r hr => ?_⟩
      refine Ev.step (f := fun k => lockgatelaw20_Big.j5 k l (n : Int) (i : Int) (j : Int) false) (fun k => ?_) ?_
      · simp only [lockgatelaw20_Big.l2]
        rw [if_pos (by omega), if_pos hi', ex, if_pos (by omega), decide_eq_false (by omega)]
      · refine Ev.step (f := fun k => lockgatelaw20_Big.l0 k l (n : Int) ((i + 1 : Nat) : Int)) (fun k => ?_) (hr rfl)
        simp only [lockgatelaw20_Big.j5]
        rw [if_neg (by simp), wrap_succ i (by omega)]
/-- what is small: a node's slots and blocks are at most m together; names and bytes are short -/
def SmallN (m : Nat) (x : S30) : Prop := x.f5.length + x.f4.length ≤ m ∧ (∀ q (h : q < x.f5.length), q < 500 → (x.f5[q]).f1.size ≤ 1000) ∧ ∀ q (h : q < x.f4.length), q < 500 → (x.f4[q]).f1.length ≤ 2000
theorem SmallN.mono {m m' : Nat} {x : S30} (h : SmallN m x) (hm : m ≤ m') : SmallN m' x := ⟨Nat.le_trans h.1 hm, h.2⟩
def Small (l : List S30) : Prop := l.length ≤ 500 ∧ ∀ i (h : i < l.length), SmallN 500 l[i]
theorem big_l0 (l : List S30) (hok : NodesOk l) (d : Nat) : ∀ i n : Nat, i + d = l.length → n ≤ 1125899906842624 → l.length ≤ n → (∀ j (h : j < l.length), j < i → SmallN n l[j]) →
    ∃ r : Bool, Ev (fun k => lockgatelaw20_Big.l0 k l (n : Int) (i : Int)) r ∧ (r = false → Small l) := by
  have hr47 := reach47
  have hll : l.length ≤ 140737488355328 := by have := hok.2; omega
  induction d with
  | zero =>
    intro i n hi hn hln hall
    refine ⟨decide (500 < n), ?_, fun e => ?_⟩
    · refine Ev.step (f := fun k => lockgatelaw20_Big.j1 k l (n : Int) (i : Int) false) (fun k => ?_) ?_
      · simp only [lockgatelaw20_Big.l0]
        rw [if_neg (by omega)]
      · refine Ev.step (f := fun _ => some (decide (500 < n))) (fun k => ?_) (Ev.now _)
        simp only [lockgatelaw20_Big.j1]
        rw [if_neg (by simp)]
        congr 2
        simp; omega
    · have e' : ¬ 500 < n := by simpa using e
      exact ⟨by omega, fun j h => (hall j h (by omega)).mono (by omega)⟩
  | succ d ih =>
    intro i n hi hn hln hall
    have hlt : i < l.length := by omega
    by_cases h500 : n ≤ 500
    · have hx := hok.1 _ (List.getElem_mem hlt)
      generalize hxe : l[i] = x at hx
      have h5 : x.f5.length ≤ 140737488355328 := by have := hx.2.2.2.2.2.2; omega
      have h4 : x.f4.length ≤ 140737488355328 := by have := hx.2.2.2.2.1.2; omega
      have ew1 : wrap64 ((n : Int) + (x.f5.length : Int)) = ((n + x.f5.length : Nat) : Int) := by unfold wrap64; omega
      have ew2 : wrap64 (((n + x.f5.length : Nat) : Int) + (x.f4.length : Int)) = ((n + x.f5.length + x.f4.length : Nat) : Int) := by unfold wrap64; omega
      obtain ⟨b1, hb1, hr1⟩ := big_l1 l i (n + x.f5.length + x.f4.length) hlt x hxe h5 x.f5.length 0 (by omega)
      obtain ⟨b2, hb2, hr2⟩ := big_l2 l i (n + x.f5.length + x.f4.length) hlt hll x hxe h4 x.f4.length 0 (by omega)
      have start : ∀ r, Ev (fun k => lockgatelaw20_Big.l1 k l ((n + x.f5.length + x.f4.length : Nat) : Int) (i : Int) 0) r → Ev (fun k => lockgatelaw20_Big.l0 k l (n : Int) (i : Int)) r := fun r hr => by
        refine Ev.step (f := fun k => lockgatelaw20_Big.j1 k l (n : Int) (i : Int) true) (fun k => ?_) ?_
        · simp only [lockgatelaw20_Big.l0]
          rw [if_pos (by omega), decide_eq_true (by omega)]
        · refine Ev.step (f := fun k => lockgatelaw20_Big.l1 k l ((n + x.f5.length + x.f4.length : Nat) : Int) (i : Int) 0) (fun k => ?_) hr
          simp only [lockgatelaw20_Big.j1]
          rw [if_pos trivial, if_pos (by omega), if_pos (by omega), rd30 hlt, hxe, ew1, ew2]
      cases b1 with
      | false => exact ⟨true, start _ (hr1 true (fun e => by cases e)), fun e => by cases e⟩
      | true =>
        cases b2 with
        | false => exact ⟨true, start _ (hr1 true (fun _ => hr2 true (fun e => by cases e))), fun e => by cases e⟩
        | true =>
          obtain ⟨r, hr, hsm⟩ := ih (i + 1) (n + x.f5.length + x.f4.length) (by omega) (by omega) (by omega) (fun j h hj => by
            by_cases e : j = i
            · subst e
              rw [hxe]
              exact ⟨by omega, fun q h hq => hb1 rfl q h (by omega) hq, fun q h hq => hb2 rfl q h (by omega) hq⟩
            · exact (hall j h (by omega)).mono (by omega))
          exact ⟨r, start _ (hr1 r (fun _ => hr2 r (fun _ => hr))), hsm⟩
    · refine ⟨true, ?_, fun e => by cases e⟩
      refine Ev.step (f := fun k => lockgatelaw20_Big.j1 k l (n : Int) (i : Int) false) (fun k => ?_) ?_
      · simp only [lockgatelaw20_Big.l0]
        rw [if_pos (by omega), decide_eq_false (by omega)]
      · refine Ev.step (f := fun _ => some true) (fun k => ?_) (Ev.now _)
        simp only [lockgatelaw20_Big.j1]
        rw [if_neg (by simp), decide_eq_true (by omega)]
theorem bigR (l : List S30) (hok : NodesOk l) : ∃ r : Bool, Ev (fun k => lockgatelaw20_Big.f k l) r ∧ (r = false → Small l) := by
  have hr47 := reach47
  have hll : l.length ≤ 140737488355328 := by have := hok.2; omega
  obtain ⟨r, h1, h2⟩ := big_l0 l hok l.length 0 l.length (by omega) (by omega) (Nat.le_refl _) (fun j _ h => absurd h (by omega))
  exact ⟨r, h1, h2⟩
/-- what Big answers -/
noncomputable def bigB (l : List S30) (hok : NodesOk l) : Bool := Classical.choose (bigR l hok)
theorem bigB_small {l : List S30} {hok : NodesOk l} (h : bigB l hok = false) : Small l := (Classical.choose_spec (bigR l hok)).2 h
theorem big_c (A : Option Addr) (n c : Nat) (l : List S30) (hok : NodesOk l) (w : World) (hn : l.length = n) (h : Kd.C k30 w A n l) (hc : n ≤ c) :
    Calls Try.prog 10 #[.slice A n c] w fun e w' => e = .returned (.bool (bigB l hok)) ∧ Below w.heap.size w w' := by
  subst hn
  obtain ⟨k, hk⟩ := ((Classical.choose_spec (bigR l hok)).1).rounds
  exact (lockgatelaw20_Big.calls k A c l _ w h hc hk).mono fun e w' ⟨he, hd⟩ => ⟨he, by obtain ⟨q, rfl⟩ := hd.out; exact below_drewN (Below.refl _ _) q⟩
end Go.Proofs.Ytnmlmbbacicojaa
