/-
  SameInts; the document's example: alive. No condition.
-/
import Derived.Test.YtcmiboipgngjaaaSt
namespace Go.Proofs.Ytcmiboipgngjaaa
set_option linter.unusedVariables false
set_option linter.unusedSimpArgs false
open Go.RowKit Go.Maps

def sameI (a b : List Int) : Bool := decide (a = b)
theorem sameI_good {a b : List Int} (h : a.length = b.length) (he : ∀ j, j < a.length → a.getD j 0 = b.getD j 0) : sameI a b = true := by
  unfold sameI
  refine decide_eq_true (List.ext_getElem h fun i h1 h2 => ?_)
  have := he i h1
  simpa [h1, h2] using this
theorem sameI_bad {a b : List Int} (j : Nat) (he : a.getD j 0 ≠ b.getD j 0) : sameI a b = false := by
  unfold sameI
  exact decide_eq_false fun e => he (by rw [e])
theorem sameI_len {a b : List Int} (h : a.length ≠ b.length) : sameI a b = false := by
  unfold sameI
  exact decide_eq_false fun e => h (by rw [e])
theorem int_eqb {a b : Int} (h : a = b) : (a == b) = true ∧ (a != b) = false := by subst h; simp
theorem int_neb {a b : Int} (h : a ≠ b) : (a == b) = false ∧ (a != b) = true := by simp [h]
theorem same_w (W : World) (A : Option Addr) (c : Nat) (l1 : List Int) (B : Option Addr) (d : Nat) (l2 : List Int) (hl1 : l1.length < 1099511627776) (hl2 : l2.length < 1099511627776) (B1 B2 : Nat) (h1 : Ints B1 W A l1) (h2 : Ints B2 W B l2) :
    Calls Try.prog 17 #[.slice A l1.length c, .slice B l2.length d] W fun e W' => e = .returned (.bool (sameI l1 l2)) ∧ ∃ q, W' = W.drewN q := by
  have H1 := hide h1
  have H2 := hide h2
  clear h1 h2
  go_enter Try.func17, Try.ntmps17
  by_cases hn : (l1.length : Int) = (l2.length : Int)
  · obtain ⟨k0, k1⟩ := int_eqb hn
    have HN := hide hn
    clear hn
    go_wp2
    go_loopw [5] (fun i wr => ∃ k : Nat, k ≤ l1.length ∧ i = .int .i64 k ∧ (∃ q, wr = W.drewN q) ∧ Hid (∀ j, j < k → l1.getD j 0 = l2.getD j 0)) (fun i _ => l1.length - (intOf i).toNat)
    case atStart => exact ⟨0, by omega, rfl, ⟨0, rfl⟩, hide (by intro j hj; omega)⟩
    case round =>
      obtain ⟨k, hk, rfl, ⟨q, rfl⟩, HK⟩ := hrel
      by_cases hlt : k < l1.length
      · have hlt2 : k < l2.length := by have := HN.out; omega
        obtain ⟨a, oa, rfl, _, hc1⟩ := H1.out (by intro e; rw [e] at hlt; simp at hlt)
        obtain ⟨b, ob, rfl, _, hc2⟩ := H2.out (by intro e; rw [e] at hlt2; simp at hlt2)
        have y1 := hc1 k hlt
        have y2 := hc2 k hlt2
        clear hc1 hc2
        have HS := hide (fun h : l1.getD k 0 = l2.getD k 0 => show ∀ j, j < k + 1 → l1.getD j 0 = l2.getD j 0 from fun j hj => by
          by_cases e : j = k
          · subst e; exact h
          · exact HK.out j (by omega))
        have HB := hide (fun h : l1.getD k 0 ≠ l2.getD k 0 => sameI_bad k h)
        generalize l1.getD k 0 = u at y1 HS HB
        generalize l2.getD k 0 = v at y2 HS HB
        have o1 : (0 : Int) ≤ (k : Int) := by omega
        have o2 : (k : Int) < (l1.length : Int) := by omega
        have o3 : (k : Int) < (l2.length : Int) := by omega
        clear hlt2
        by_cases he : u = v
        · obtain ⟨m0, m1⟩ := int_eqb he
          have HT := hide (HS.out he)
          clear he
          go_wp2
          go_quiet (fail)
          go_wp2
          go_roundw
          case rel => exact ⟨k + 1, by omega, by go_num, ⟨_, by first | rfl | (rw [World.drewN_drewN]; done)⟩, HT⟩
          case measure => simp [intOf]; omega
        · obtain ⟨m0, m1⟩ := int_neb he
          have HT := hide (HB.out he)
          clear he
          go_wp2
          go_quiet (fail)
          go_wp2
          go_ret
          exact ⟨by rw [HT.out]; rfl, ⟨_, by first | rfl | (rw [World.drewN_drewN]; done)⟩⟩
      · have HT := hide (sameI_good (a := l1) (b := l2) (by have := HN.out; omega) (fun j hj => HK.out j (by omega)))
        have o3 : ¬ (k : Int) < (l1.length : Int) := by omega
        go_wp2
        go_ret
        exact ⟨by rw [HT.out]; rfl, ⟨q, rfl⟩⟩
  · obtain ⟨k0, k1⟩ := int_neb hn
    have HN := hide (sameI_len (a := l1) (b := l2) (by omega))
    clear hn
    go_wp2
    go_ret
    exact ⟨by rw [HN.out]; rfl, ⟨0, rfl⟩⟩
theorem sameI_self (l : List Int) : sameI l l = true := decide_eq_true rfl
section
variable {n g q : Nat} {w W : World} {F ps X : List Atom} {H R : List Lk}
theorem row_ints {A : Option Addr} {c : Nat} {l : List Int} (ho : Own n w W X) (h : rowA 3 1 (.slice A l.length c) l.length (ints l) ∈ X) : Ints W.heap.size W A l :=
  Ints.of_own (base := 0) (show W.ownsRow 0 3 1 (.slice A l.length c) l.length (ints l) from ho.hold _ h) (Nat.le_refl _)
theorem same17_c {A B : Option Addr} {c d : Nat} {l1 l2 : List Int} (ho : Own n w W X) (h1 : rowA 3 1 (.slice A l1.length c) l1.length (ints l1) ∈ X) (h2 : rowA 3 1 (.slice B l2.length d) l2.length (ints l2) ∈ X) (hl1 : l1.length < 1099511627776) (hl2 : l2.length < 1099511627776) :
    Calls Try.prog 17 #[.slice A l1.length c, .slice B l2.length d] W fun e W' => e = .returned (.bool (sameI l1 l2)) ∧ Own n w W' X := by
  refine (same_w W A c l1 B d l2 hl1 hl2 _ _ (row_ints ho h1) (row_ints ho h2)).mono ?_
  rintro e W' ⟨rfl, q, rfl⟩
  exact ⟨rfl, ho.drewN q⟩
theorem task_to {x : Lk} {b : Bool} {H' R' : List Lk} (hg : TB g H R q ps) (hs : Sm H R q) (ho : Own n w W (ps ++ F)) (hw : (Lit.int .i64 x.th).wf = true ∧ (Lit.int .i64 x.tg).wf = true) (e1 : askB H R x = b) (e2 : askH H R x = H') (e3 : askR H R x = R') :
    Calls Try.prog 11 #[.pointer (some ⟨g, 0, none⟩), x.v] W fun e W' => e = .returned (.bool b) ∧ ∃ ps', TB g H' R' (q + 1) ps' ∧ Own n w W' (ps' ++ F) := by
  subst e1
  subst e2
  subst e3
  exact task_c hg hs ho x hw
def a1 : Lk := ⟨1, 7, true⟩
def a2 : Lk := ⟨2, 8, true⟩
def a3 : Lk := ⟨1, 8, true⟩
def a4 : Lk := ⟨2, 7, true⟩
theorem wf_small {x : Int} (h : -9223372036854775808 ≤ x ∧ x ≤ 9223372036854775807) : (Lit.int .i64 x).wf = true := wf64 h
theorem aw1 : (Lit.int .i64 a1.th).wf = true ∧ (Lit.int .i64 a1.tg).wf = true := ⟨wf_small (by decide), wf_small (by decide)⟩
theorem aw2 : (Lit.int .i64 a2.th).wf = true ∧ (Lit.int .i64 a2.tg).wf = true := ⟨wf_small (by decide), wf_small (by decide)⟩
theorem aw3 : (Lit.int .i64 a3.th).wf = true ∧ (Lit.int .i64 a3.tg).wf = true := ⟨wf_small (by decide), wf_small (by decide)⟩
theorem aw4 : (Lit.int .i64 a4.th).wf = true ∧ (Lit.int .i64 a4.tg).wf = true := ⟨wf_small (by decide), wf_small (by decide)⟩
theorem aok1 : Ok [a1] [] := Ok.nil.ask aw1
theorem aok2 : Ok [a1, a2] [] := aok1.ask aw2
theorem aok3 : Ok [a1, a2] [a3] := aok2.ask aw3
theorem aok4 : Ok [a1, a2] [a3, a4] := aok3.ask aw4
theorem alive_stuck (x : Int) : stuckP [a1, a2] [a3, a4] x ↔ x = 1 ∨ x = 2 := by
  constructor
  · rintro ⟨T, hT, hx⟩
    obtain ⟨y, hy, e, -⟩ := hT x hx
    simp only [List.mem_cons, List.not_mem_nil, or_false] at hy
    rcases hy with rfl | rfl
    · exact .inl e.symm
    · exact .inr e.symm
  · intro hx
    refine ⟨fun u => u = 1 ∨ u = 2, fun u hu => ?_, hx⟩
    rcases hu with rfl | rfl
    · exact ⟨a3, by simp, rfl, .inr ⟨a2, mem_onT.2 ⟨by simp, rfl⟩, .inl rfl, .inr rfl⟩⟩
    · exact ⟨a4, by simp, rfl, .inr ⟨a1, mem_onT.2 ⟨by simp, rfl⟩, .inl rfl, .inl rfl⟩⟩
theorem rising12 {xs : List Int} (h : Rising xs) (hm : ∀ x, x ∈ xs ↔ x = 1 ∨ x = 2) : xs = [1, 2] :=
  rising_ext h (by simp [Rising]) (fun x => by rw [hm]; simp)
set_option maxHeartbeats 1000000 in
set_option maxRecDepth 100000 in
theorem alive_c (W : World) : Calls Try.prog 9 #[] W fun e W' => e = .returned (.bool true) ∧ Below W.heap.size W W' := by
  have HN := hide (tnew_c (Own.start W))
  have K1 := hide (fun g ps V hg ho => @task_to W.heap.size g 0 W V [] ps [] [] a1 true [a1] [] hg ⟨Ok.nil, by simp, by omega⟩ ho aw1 rfl rfl rfl)
  have K2 := hide (fun g ps V hg ho => @task_to W.heap.size g 1 W V [] ps [a1] [] a2 true [a1, a2] [] hg ⟨aok1, by simp, by omega⟩ ho aw2 rfl rfl rfl)
  have K3 := hide (fun g ps V hg ho => @task_to W.heap.size g 2 W V [] ps [a1, a2] [] a3 false [a1, a2] [a3] hg ⟨aok2, by simp, by omega⟩ ho aw3 rfl rfl rfl)
  have K4 := hide (fun g ps V hg ho => @task_to W.heap.size g 3 W V [] ps [a1, a2] [a3] a4 false [a1, a2] [a3, a4] hg ⟨aok3, by simp, by omega⟩ ho aw4 rfl rfl rfl)
  have K5 := hide (fun g ps V hg ho => @tstuck_c W.heap.size g 4 W V [] ps [a1, a2] [a3, a4] hg ⟨aok4, by simp, by omega⟩ ho)
  simp only [show a1.v = .agg #[.int .i64 1, .int .i64 7, .bool true] from rfl] at K1
  simp only [show a2.v = .agg #[.int .i64 2, .int .i64 8, .bool true] from rfl] at K2
  simp only [show a3.v = .agg #[.int .i64 1, .int .i64 8, .bool true] from rfl] at K3
  simp only [show a4.v = .agg #[.int .i64 2, .int .i64 7, .bool true] from rfl] at K4
  go_enter Try.func9, Try.ntmps9
  go_wp2_with (first
    | (go_at_call 10; refine HN.out.mono ?_; rintro e w1 ⟨g, p0, rfl, t0, o0⟩; have T0 := hide (And.intro t0 o0); clear t0 o0)
    | (have hx := T3; clear hx; go_at_call 11; refine (K4.out g _ _ T3.out.1 T3.out.2).mono ?_; rintro e w5 ⟨rfl, p4, t4, o4⟩; have T4 := hide (And.intro t4 o4); clear t4 o4)
    | (have hx := T2; clear hx; go_at_call 11; refine (K3.out g _ _ T2.out.1 T2.out.2).mono ?_; rintro e w4 ⟨rfl, p3, t3, o3⟩; have T3 := hide (And.intro t3 o3); clear t3 o3)
    | (have hx := T1; clear hx; go_at_call 11; refine (K2.out g _ _ T1.out.1 T1.out.2).mono ?_; rintro e w3 ⟨rfl, p2, t2, o2⟩; have T2 := hide (And.intro t2 o2); clear t2 o2)
    | (have hx := T0; clear hx; go_at_call 11; refine (K1.out g _ _ T0.out.1 T0.out.2).mono ?_; rintro e w2 ⟨rfl, p1, t1, o1⟩; have T1 := hide (And.intro t1 o1); clear t1 o1)
    | (go_at_call 12; (refine (K5.out g _ _ T4.out.1 T4.out.2).mono ?_; rintro e w6 ⟨v, xs, rfl, r1, r2, r3⟩; obtain rfl := rising12 r1 (fun x => (r2 x).trans (alive_stuck x)); obtain ⟨A6, c6, rfl⟩ := own_slice r3.head; have T5 := hide r3; have HS := hide (same17_c (l1 := [1, 2]) (l2 := [1, 2]) (Own.newRow (e := 3) (sz := 1) r3 #[.int .i64 1, .int .i64 2] 2 (by unfold maxLen; omega) rfl) (A := A6) (c := c6) (B := some ⟨w6.heap.size, 0, none⟩) (d := 2) (by simp) (by simp [ints]) (by simp) (by simp)); clear r1 r2 r3))
    | (go_at_call 17; refine HS.out.mono ?_; rintro e w7 ⟨rfl, o7⟩; have T6 := hide o7; clear o7))
  go_ret
  exact ⟨by simp [sameI_self], T6.out.below⟩
end
end Go.Proofs.Ytcmiboipgngjaaa
