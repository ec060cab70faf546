/-
  The contract of walk.Paths. Conditions: the nodes are as they came in.
-/
import Derived.Test.YtnmlmbbacicojaaV
namespace Go.Proofs.Ytnmlmbbacicojaa
set_option linter.unusedVariables false
set_option linter.unusedSimpArgs false
open Go.RowKit Go.Shelf Go.Maps Go.Proofs.YtnmlmbbacicojaaW.PrintWords Go.Proofs.YtnmlmbbacicojaaW.PrintLast Go.Proofs.YtnmlmbbacicojaaW.PrintMore Go.Proofs.Ytnmlmbbacicojaa.PWalkSame
attribute [local go_sem] Oper.semAt_some

theorem info9p : (Try.prog.info? 9).map (fun i => (i.zero, i.size, i.bytes)) = some (some (.string ⟨#[]⟩), 1, 16) := by kernel_rfl

theorem keep_append {n k : Nat} {W w1 : World} {v v0 : Value} {tmp : Obj} {xs : List Value} (hown : W.ownsRow (n + 2) 9 1 v k xs) (hg : (W.alloc tmp).grownBy w1 v.ownBlock) (hv : Boxed W n 44 v0) (u : Value) : KeepP n W (w1.setCell ⟨n, 0, none⟩ u) := by
  refine ⟨by have := hg.size; simp at this ⊢; omega, fun b o h1 h2 h3 => ?_⟩
  have hlt : b < W.heap.size := (Array.getElem?_eq_some_iff.1 h1).1
  refine (Below.heap_setCell w1 ⟨n, 0, none⟩ u b h2).trans ?_
  refine (hg.block b (by simp; omega) (fun e => ?_)).trans ((Below.heap_alloc _ _ _ hlt).trans h1)
  obtain ⟨cells, hc⟩ := own_typed hown b e.symm
  rw [hc] at h1
  injection h1 with h1
  subst h1
  exact h3 rfl
set_option maxHeartbeats 4000000 in
set_option maxRecDepth 100000 in
theorem walkPaths_c (l : List S30) (A : Option Addr) (N c : Nat) (w : World) (hN : l.length = N) (hNc : N ≤ c) (hok : NodesOk l) (hC : Kd.C k30 w A N l) :
    Calls Try.prog 19 #[.slice A N c] w fun e w' => ∃ v, e = .returned v ∧ w'.ownsRow w.heap.size 9 1 v (pathsF l).length ((pathsF l).map Value.string) ∧ Below w.heap.size w w' := by
  have HN := hide hN
  have HOK := hide hok
  have HC := hide hC
  clear hN hok hC
  refine (callsIn_wide (n := 0)).1 ?_
  refine callsIn_of_wp_marks Try.func19 rfl trivial ?_
  simp only [Try.ntmps19, List.size_toArray, List.length_cons, List.length_nil, Nat.reduceAdd, Nat.reduceSub, Array.replicate_succ, Array.replicate_zero, List.push_toArray, List.append_toArray, List.nil_append, List.cons_append]
  gi_wp2_with ((with_reducible refine wide_calls ?_); go_at_call 31; refine (paths_c _ _ _ _).mono ?_; rintro e w' ⟨rfl, rfl⟩)
  have bx0 : Boxed ((w.alloc (.cells #[.slice none 0 0] 44)).alloc (.cells #[.slice A N c] 22)) w.heap.size 44 (.slice none 0 0) := (Boxed.new w 44 _).alloc _
  have bx1 : Boxed ((w.alloc (.cells #[.slice none 0 0] 44)).alloc (.cells #[.slice A N c] 22)) (w.heap.size + 1) 22 (.slice A N c) := by
    have := Boxed.new (w.alloc (.cells #[.slice none 0 0] 44)) 22 (.slice A N c)
    rw [World.size_alloc] at this
    exact this
  have hbl : Below w.heap.size w ((w.alloc (.cells #[.slice none 0 0] 44)).alloc (.cells #[.slice A N c] 22)) := ((Below.refl _ _).alloc (Nat.le_refl _) _).alloc (by simp) _
  have hsz : ((w.alloc (.cells #[.slice none 0 0] 44)).alloc (.cells #[.slice A N c] 22)).heap.size = w.heap.size + 2 := by simp
  have hcons0 : ConsP w.heap.size w [] ((w.alloc (.cells #[.slice none 0 0] 44)).alloc (.cells #[.slice A N c] 22)) := ⟨⟨_, bx0, World.ownsRow_nil _ _ _ _⟩, hbl⟩
  generalize (w.alloc (.cells #[.slice none 0 0] 44)).alloc (.cells #[.slice A N c] 22) = W4 at bx0 bx1 hbl hsz hcons0 ⊢
  clear bx0 hbl
  obtain ⟨F, hF⟩ : ∃ F, F = pathsF l := ⟨_, rfl⟩
  have HF := hide hF
  clear hF
  refine wpIn_rangeFunc_dir (σ := Sg) (gf := 43) (lb := #[.pointer (some ⟨w.heap.size + 1, 0, none⟩)]) rfl (enters_of Try.func43 (by kernel_rfl) rfl)
    (InP w.heap.size w F) (JnP w.heap.size w) (fun s c W => c = .exit 0 ∧ JxP w.heap.size w F s c W) (fun s a₁ W => InP w.heap.size w F s W ∧ a₁ = (fun x : ByteArray => ({ tmps := #[.slice A N c, undef, .slice none 0 0, .pointer (some ⟨w.heap.size, 0, none⟩), .string x, .slice A N c, .func (.func 43) #[] #[.pointer (some ⟨w.heap.size + 1, 0, none⟩)], .string x, undef, undef, undef, undef, undef, undef, undef, undef], defers := [] } : Act)) s.2.1) (DoneP w.heap.size w F) (fun s => #[.string s.2.1])
    ?hI ?hJ ?hJx ?hMid ?hDone (fun _ => rfl) ?assign ?body ?iter ?done ?stop
  case hI => exact fun s W r o' ⟨h1, h2, h3, h4⟩ hl => ⟨h1.putObj _ hl (by omega), h2, h3.putObj _ hl, h4⟩
  case hJ => exact fun s W r o' ⟨h1, h2, h3, h4⟩ hl => ⟨h1.putObj _ hl (by omega), h2, h3, h4.putObj _ hl⟩
  case hJx => exact fun s c W r o' ⟨h0, h1, h2, h3⟩ hl => ⟨h0, h1, h2, h3.putObj _ hl (by omega)⟩
  case hMid => exact fun s a₁ W r o' ⟨⟨h1, h2, h3, h4⟩, h5⟩ hl => ⟨⟨h1.putObj _ hl (by omega), h2, h3.putObj _ hl, h4⟩, h5⟩
  case hDone => exact fun W r o' h1 hl => ConsP.putObj _ h1 hl (by omega)
  case assign =>
    intro l s W hi hl
    have HI := hide hi
    clear hi
    gi_wp2
    obtain ⟨h1, h2, h3, h4⟩ := HI.out
    first | exact ⟨Keeps2.refl _ _, h1, h2, h3, h4⟩ | exact ⟨Keeps2.refl _ _, ⟨h1, h2, h3, h4⟩, rfl⟩ | exact ⟨Keeps2.refl _ _, ⟨h1, h2, h3, h4⟩, trivial⟩
  case body =>
    rintro l' ⟨out, x, W0⟩ a₁ W hl ⟨⟨⟨⟨v, hv, hown⟩, hb⟩, hlen, hk0, hx5, hF5⟩, rfl⟩
    dsimp only at hlen hown hk0 hx5 hF5
    obtain ⟨A5, c5, rfl⟩ := own_slice hown
    have cv := hv.cell
    have fv := hv.frozen
    have hlt := hv.lt
    have HB := hide hb
    have HK := hide hk0
    have HF5 := hide hF5
    clear hb hk0 hF5
    by_cases hful : out.length = 10000
    · have e1 : ((out.length : Int) == 10000) = true := by rw [hful]; rfl
      have HFU := hide hful
      have HOWN := hide hown
      have HV := hide hv
      clear hful hown hv
      gi_wp2
      exact ⟨Keeps2.refl _ _, rfl, HFU.out, HF5.out HFU.out, ⟨_, HV.out, HOWN.out⟩, HB.out⟩
    · have e1 : ((out.length : Int) == 10000) = false := by rw [beq_eq_false_iff_ne]; omega
      have HFU := hide hful
      clear hful
      obtain ⟨i0, hi, hz0, hz1, hz2⟩ := info_parts info9p
      gi_wp2_with (gi_at_builtin; go_must (refine wpListIn_append_own _ rfl _ _ 44 rfl (w.heap.size + 2) 9 i0 (.string ⟨#[]⟩) 1 16 Try.underlying44 hi hz0 hz1 hz2 rfl (by decide) _ _ _ rfl (hown.alloc _) ⟨W.heap.size, 0, none⟩ 1 1 [.string x] rfl rfl (cell_one_new _ _ _) (by simp [Value.oneCell']) (by unfold maxLen; omega) (by omega) (by simp; omega) ?_); intro v' w1 hown' hgrow _; obtain ⟨g', cap', rfl⟩ := ownsRow_succ hown'; obtain ⟨hbox, hko⟩ := appended_box hv hown (by omega) hgrow; have hv1 := hbox _ _ _ (by omega) hv; have hc1 := hv1.cell; have hf1 := hv1.frozen)
      obtain ⟨st1, st2, st3, st4⟩ := stored_box hv1 hown' (by omega)
      refine ⟨(Keeps2.of_others hko).trans (Keeps2.of_others st4), ⟨⟨_, st2, by simpa using st3⟩, ?_⟩, HFU.out, hlen, HK.out.trans (keep_append hown hgrow hv _)⟩
      exact ((HB.out.alloc (by omega) _).grown hgrow (by simp; omega) (fun k hk => by have := (hown.lt k hk).1; omega)).setCell (p := ⟨w.heap.size, 0, none⟩) (Nat.le_refl _) _
  case iter =>
    rintro rec W1 hW1 hrdy hY
    have hbW : Below W4.heap.size W4 W1 := by subst hW1; exact ((Below.refl _ _).alloc (Nat.le_refl _) _).alloc (by simp) _
    have hcons1 : ConsP w.heap.size w [] W1 := hcons0.ext hbW
    have hbx1 : Boxed W1 (w.heap.size + 1) 22 (.slice A N c) := (hbW.block _ (by omega)).trans bx1
    rw [hsz] at hrdy hY ⊢
    rw [HF.out] at hY ⊢
    refine (paths1_c (C := fun c => c = .exit 0) l (fun s W hi hr => ?_) A N c HN.out hNc HOK.out HC.out rfl rfl W1 hcons1 hrdy hbx1).mono ?_
    · obtain ⟨fn, tmps, asg, bd, hy, hR⟩ := hY s W hi hr
      refine ⟨fn, tmps, asg, bd, hy, hR.mono ?_⟩
      rintro e W' (h | ⟨h1, c', ⟨h2, h3⟩, h4⟩)
      · exact .inl h
      · exact .inr ⟨h1, c', h2, h3, h4⟩
    · rintro e W' ⟨h1, (h2 | ⟨s, c', h3, h4, h5⟩)⟩
      · exact ⟨h1, .inl h2⟩
      · exact ⟨h1, .inr ⟨s, c', ⟨h3, h4⟩, h5⟩⟩
  case done =>
    rintro W ⟨⟨v, hv, hown⟩, hb⟩ hD
    have cv := hv.cell
    have H := hide (And.intro hv (And.intro hown (And.intro hb hD)))
    clear hv hown hb hD
    gi_wp2
    obtain ⟨hv, hown, hb, hD⟩ := H.out
    refine ⟨by simp, .inl ⟨_, _, rfl, run_takeDeferred hD, ?_⟩⟩
    refine ⟨_, results_tmp rfl _ _ _, v, rfl, ?_, below_putObj _ hb (by omega) (Array.getElem?_eq_some_iff.1 hD).1⟩
    rw [← HF.out]
    exact own_less (ownsRow_putObj hown _ hD rfl) (by omega)
  case stop =>
    rintro s c W ⟨rfl, hx1, hx2, ⟨v, hv, hown⟩, hb⟩ hD
    have cv := hv.cell
    have H := hide (And.intro hv (And.intro hown (And.intro hb (And.intro hD hx2))))
    clear hv hown hb hD hx1 hx2
    gi_wp2
    obtain ⟨hv, hown, hb, hD, hx2⟩ := H.out
    refine ⟨by simp, .inl ⟨_, _, rfl, run_takeDeferred hD, ?_⟩⟩
    refine ⟨_, results_tmp rfl _ _ _, v, rfl, ?_, below_putObj _ hb (by omega) (Array.getElem?_eq_some_iff.1 hD).1⟩
    rw [← HF.out, ← hx2]
    exact own_less (ownsRow_putObj hown _ hD rfl) (by omega)
end Go.Proofs.Ytnmlmbbacicojaa
