/-
  The walks of walk.paths and of the iterator that it makes.
-/
import Derived.Test.YtnmlmbbacicojaaL
import Derived.Stop.RegionWithIn
import Derived.Sort.CutIn
namespace Go.Proofs.Ytnmlmbbacicojaa
set_option linter.unusedVariables false
set_option linter.unusedSimpArgs false
open Go.RowKit Go.Maps Go.Proofs.YtnmlmbbacicojaaW.PrintWords Go.Proofs.YtnmlmbbacicojaaW.PrintLast Go.Proofs.YtnmlmbbacicojaaW.PrintMore Go.Proofs.Ytnmlmbbacicojaa.PWalkSame

theorem paths_c (A : Option Addr) (N c : Nat) (w : World) : Calls Try.prog 31 #[.slice A N c] w fun e w' => e = .returned (.func (.func 43) #[] #[.pointer (some ⟨w.heap.size, 0, none⟩)]) ∧ w' = w.alloc (.cells #[.slice A N c] 22) := by
  go_enter Try.func31, Try.ntmps31
  go_wp2
  go_ret
  exact ⟨rfl, rfl⟩
theorem ConsP.ext {n : Nat} {w V W' : World} {out : List ByteArray} (h : ConsP n w out V) (hb : Below V.heap.size V W') : ConsP n w out W' := by
  obtain ⟨⟨v, h1, h2⟩, h3⟩ := h
  exact ⟨⟨v, (hb.block n h1.lt).trans h1, own_move h2 (fun k hk => hb.block k (h2.lt k hk).2)⟩, h3.trans (hb.mono (by have := h1.lt; omega))⟩
theorem Ready.ext {L : Nat} {rec : LoopState → Option Code → Loop} {V W' : World} (h : Ready L rec V) (hb : Below V.heap.size V W') : Ready L rec W' :=
  ⟨(hb.block _ h.lt).trans h.1, (hb.block _ (by have := h.lt; omega)).trans h.2⟩
theorem of_drew {V W5 : World} (h : Below V.drew.heap.size V.drew W5) : Below V.heap.size V W5 := ⟨h.os, h.tape, h.output, h.size, h.block⟩
section
variable {l : List S30} {A : Option Addr} {N c n L ba m : Nat} {rec : LoopState → Option Code → Loop} {w W W5 : World}
theorem it_first (hN : l.length = N) (hcons : ConsP n w [] W) (hrdy : Ready L rec W) (hL : n + 2 = L) (hb5 : Below (W.alloc (.map #[] 0)).heap.size (W.alloc (.map #[] 0)) W5) (hba : (W.alloc (.map #[] 0)).heap.size ≤ ba) (hii : OwnII Try.prog 3 3 W5 ba m (atF l)) :
    ItP l A N c n W5.heap.size ba W.heap.size (fun _ => false) (W5.alloc (.cells #[.slice A N c, .map (some ba), .map (some W.heap.size)] 84)) ∧ ConsP n w [] (W5.alloc (.cells #[.slice A N c, .map (some ba), .map (some W.heap.size)] 84)) ∧ Ready L rec (W5.alloc (.cells #[.slice A N c, .map (some ba), .map (some W.heap.size)] 84)) := by
  have hlt := hrdy.lt
  rw [World.size_alloc] at hba
  have h5 := hb5.size
  rw [World.size_alloc] at h5
  have hib : OwnIB Try.prog 3 4 (W.alloc (.map #[] 0)) W.heap.size 0 (fun _ => false) := ⟨_, World.ownsMap_made _ _ _ _, MapIB.none_⟩
  have hib5 := hib.same (hb5.block W.heap.size (by rw [World.size_alloc]; omega))
  have hbW : Below W.heap.size W W5 := ((Below.refl _ W).alloc (Nat.le_refl _) _).trans (hb5.mono (by rw [World.size_alloc]; omega))
  have hbF := hbW.alloc (by omega) (.cells #[.slice A N c, .map (some ba), .map (some W.heap.size)] 84)
  refine ⟨⟨World.alloc_heap_new _ _, ⟨m, hii.kept (World.grownBy_alloc W5 _ none) (by simp)⟩, ⟨0, ?_, hib5.kept (World.grownBy_alloc W5 _ none) (by simp)⟩, by omega, by omega, by omega, by omega⟩, hcons.ext hbF, hrdy.ext hbF⟩
  rw [left_all]; omega
theorem it_second (hN : l.length = N) (hcons : ConsP n w [] W) (hrdy : Ready L rec W) (hL : n + 2 = L) (hb5 : Below W.heap.size W W5) (hba : W.heap.size ≤ ba) (hii : OwnII Try.prog 3 3 W5 ba m (atF l)) :
    ItP l A N c n (W5.heap.size + 1) ba W5.heap.size (fun _ => false) ((W5.alloc (.map #[] 0)).alloc (.cells #[.slice A N c, .map (some ba), .map (some W5.heap.size)] 84)) ∧ ConsP n w [] ((W5.alloc (.map #[] 0)).alloc (.cells #[.slice A N c, .map (some ba), .map (some W5.heap.size)] 84)) ∧ Ready L rec ((W5.alloc (.map #[] 0)).alloc (.cells #[.slice A N c, .map (some ba), .map (some W5.heap.size)] 84)) := by
  have hlt := hrdy.lt
  have h5 := hb5.size
  have hlt2 := hii.lt
  have hib : OwnIB Try.prog 3 4 (W5.alloc (.map #[] 0)) W5.heap.size 0 (fun _ => false) := ⟨_, World.ownsMap_made _ _ _ _, MapIB.none_⟩
  have hbF := (hb5.alloc h5 (.map #[] 0)).alloc (by rw [World.size_alloc]; omega) (.cells #[.slice A N c, .map (some ba), .map (some W5.heap.size)] 84)
  have e := World.alloc_heap_new (W5.alloc (.map #[] 0)) (.cells #[.slice A N c, .map (some ba), .map (some W5.heap.size)] 84)
  rw [World.size_alloc] at e
  refine ⟨⟨e, ⟨m, (hii.kept (World.grownBy_alloc W5 _ none) (by simp)).kept (World.grownBy_alloc _ _ none) (by simp)⟩, ⟨0, ?_, hib.kept (World.grownBy_alloc _ _ none) (by simp)⟩, by omega, by omega, by omega, by omega⟩, hcons.ext hbF, hrdy.ext hbF⟩
  rw [left_all]; omega
end
def DoneP (n : Nat) (w : World) (F : List ByteArray) (W : World) : Prop := ConsP n w F W

set_option maxHeartbeats 4000000 in
set_option maxRecDepth 100000 in
theorem paths1_c {n L : Nat} {rec : LoopState → Option Code → Loop} {w : World} {C : Code → Prop} (l : List S30) (hY : YieldP n L rec w (pathsF l) C) (A : Option Addr) (N c : Nat) (hN : l.length = N) (hNc : N ≤ c) (hok : NodesOk l) (hC : Kd.C k30 w A N l) (hn : n = w.heap.size) (hL : n + 2 = L)
    (W : World) (hcons : ConsP n w [] W) (hrdy : Ready L rec W) (hbox : Boxed W (n + 1) 22 (.slice A N c)) :
    CallsIn Fence.wide 0 Try.prog 43 #[.func (.yield (L + 1)) #[] #[], .pointer (some ⟨n + 1, 0, none⟩)] W fun e W' => (∃ v, e = .returned v) ∧ ((DoneP n w (pathsF l) W' ∧ Ready L rec W') ∨ (∃ s c, C c ∧ JxP n w (pathsF l) s c W' ∧ Stopped L rec c W')) := by
  have hr47 := reach47
  have hll : l.length ≤ 140737488355328 := by have := hok.2; omega
  have hbel := hcons.2
  rw [hn] at hbel
  have HI := hide (fun (V : World) (hb : Below w.heap.size w V) => index_c A N c l V hN (Kd.C_below hC hb) hNc (by omega) (fun x hx => (hok.1 x hx).1))
  have HBEL := hide hbel
  have HB1 := hide (hbel.alloc hbel.size (.map #[] 0))
  have HNN := hide hn
  have HCONS := hide hcons
  have HRDY := hide hrdy
  have HBOX := hide hbox
  have HLL := hide hL
  have cb := hbox.cell
  have cb1 : (W.alloc (.map #[] 0)).cell? ⟨n + 1, 0, none⟩ = some (.slice A N c) := (hbox.alloc _).cell
  have hmm := @run_makeMap Try.prog
  clear hbel hn hcons hrdy hbox hL
  refine callsIn_of_wp Try.func43 rfl trivial ?_ rfl
  simp only [Try.ntmps43, List.size_toArray, List.length_cons, List.length_nil, Nat.reduceAdd, Nat.reduceSub, Array.replicate_succ, Array.replicate_zero, List.push_toArray, List.append_toArray, List.nil_append, List.cons_append]
  gi_wp2
  gi_cut [3] from 6 (fun v3 wx => ∃ bw ba bi, v3 = .pointer (some ⟨bw, 0, none⟩) ∧ Hid (ItP l A N c n bw ba bi (fun _ => false) wx ∧ ConsP n w [] wx ∧ Ready L rec wx))
  case first =>
    gi_region_with ((with_reducible refine wide_calls ?_); go_at_call 27; refine (HI.out _ (by repeat (first | (with_reducible first | exact HBEL.out | apply below_alloc | apply pw_below_drewN | apply below_drew1) | exact HBEL.out))).mono ?_; rintro e W5 ⟨ba, m, rfl, hba, hii, hm, hb5⟩; have c5 : W5.cell? ⟨n + 1, 0, none⟩ = some (.slice A N c) := (hb5.cell (p := ⟨n + 1, 0, none⟩) (by have := HBOX.out.lt; first | exact this | (simp; omega))).trans (by first | exact cb | exact cb1); have c5a : (W5.alloc (.map #[] 0)).cell? ⟨n + 1, 0, none⟩ = some (.slice A N c) := (((Below.refl W5.heap.size W5).alloc (Nat.le_refl _) (.map #[] 0)).cell (World.block_lt_of_cell? W5 _ c5)).trans c5)
    all_goals (gi_wp2; gi_meet; first | exact ⟨_, _, _, rfl, hide (it_first hN HCONS.out HRDY.out HLL.out (of_drew hb5) hba hii)⟩ | exact ⟨_, _, _, rfl, hide (it_second hN HCONS.out HRDY.out HLL.out (of_drew hb5) hba hii)⟩)
  case rest =>
    obtain ⟨bw, ba, bi, rfl, HX⟩ := hcut
    obtain ⟨cw0, cw1, cw2⟩ := HX.out.1.cells
    obtain ⟨ma, hia⟩ := HX.out.1.2.1
    have hlk := hia.look Try.underlying3 Try.underlying3 Try.underlying56 (zero3 _) 1 (by decide)
    clear hia cb cb1 hmm
    cases hq : atF l 1 with
    | none =>
      have HP := hide (show pathsF l = [] by unfold pathsF; rw [hq])
      rw [hq] at hlk
      simp only [Option.getD_none, Option.isSome_none] at hlk
      clear hq
      gi_wp2
      go_end0
      exact ⟨⟨_, rfl⟩, .inl ⟨by rw [HP.out]; exact HX.out.2.1, HX.out.2.2⟩⟩
    | some v =>
      obtain ⟨i, rfl, hil, _⟩ := atF_lt hq
      have HP := hide (show pathsF l = (dn l (l.length + 1) i ⟨#[]⟩ ([], fun _ => false)).2.1 by unfold pathsF; rw [hq]; rfl)
      have HD := hide (down_c hY l A N c bw ba bi hN hNc hok hC HNN.out (by have := HLL.out; omega) (l.length + 1) i ⟨#[]⟩ ([], fun _ => false) wc hil (by decide) (by rw [left_all]; omega) HX.out.2.1 (by simp) HX.out.2.2 HX.out.1 (fun _ => HP.out.symm))
      rw [hq] at hlk
      simp only [Option.getD_some, Option.isSome_some] at hlk
      clear hq
      gi_wp2
      refine wide_in ?_
      refine HD.out.mono ?_
      rintro e W4 (⟨rfl, hr1, hr2, hr3, hr4, hr5⟩ | ⟨rfl, hr1, sx, cx, hcx, hjx, hsx⟩)
      · have HR := hide (And.intro hr2 hr4)
        clear hr1 hr2 hr3 hr4 hr5
        gi_wp2
        go_end0
        exact ⟨⟨_, rfl⟩, .inl ⟨by rw [HP.out]; exact HR.out.1, HR.out.2⟩⟩
      · clear hr1
        gi_wp2
        go_end0
        exact ⟨⟨_, rfl⟩, .inr ⟨sx, cx, hcx, hjx, hsx⟩⟩
end Go.Proofs.Ytnmlmbbacicojaa
