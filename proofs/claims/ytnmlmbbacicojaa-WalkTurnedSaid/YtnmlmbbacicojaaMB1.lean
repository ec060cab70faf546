/-
  The walks of walk.paths and of the iterator that it makes.
  The contract of walk.Paths. Conditions: the nodes are as they came in.
  The contract of the laws' example.
  The contract of slices.IndexFunc as walk.Find uses it: the first slot in use of a name.
  Plain laws of paths as lists of bytes: the parts between slashes, what is a name, what is a path. No program in sight.
  DERIVED: THE SHELF's CONTRACTS AT THIS DUMP, IN PLAIN WORDS (tools/lay-plain.mjs out of 'YtnmlmbbacicojaaShelf0.lean', which tools/lay-shelf.mjs wrote): THE SAME DECLARATIONS UNDER THE SAME NAMES: 'import', 'namespace', 'open', 'def', 'theorem' AND NOTHING ELSE: no command of the shelf's: FOR A HAND-IN. Each laying: the table of numbers ('.._ren') and one theorem, a field a fact of the dump's own or the kernel's comparison; each contract: ONE APPLICATION.
  Contracts of the small functions under path.Split: Cut at a slash, Name, the iterator's maker. Conditions: a string's length is one.
  The contract of path.Split: the parts of a path in new memory, or nil and the errno 15. Condition: a string's length is one.
  The contract of walk.Find. Conditions: the nodes are as they came in; the path is shorter than memory.
  The contract of the document's own At: the place of the first node of an inode.
  General words over any program: a block that is known whole; what stores, allocations and appends leave of it. No condition on a program.
-/
import Derived.Test.YtnmlmbbacicojaaMB0
import Derived.Stop.RegionWithIn
import Derived.Sort.CutIn
import Derived.Test.YtnmlmbbacicojaaPWalkSamex2
import Derived.Lib.Bytealg
import Derived.Lib.IndexBytes
import Derived.Lib.Strings
import Derived.Lib.Join
import Derived.Shelf.Small.Strs
import Derived.Shelf.Small.Wraps
import Derived.Shelf.Strings.Search1
import Derived.Shelf.Strings.Search2
import Derived.Shelf.Strings.Cut
import Derived.Shelf.LaysM
import Derived.Shelf.Strings.Shaped
import Derived.Shelf.Strings.Prefix
import Derived.Shelf.Bytes.SlSearch0
import Derived.Shelf.Bytes.SlEqualAll
import Derived.Shelf.Bytes.Small
import Derived.Test.YtnmlmbbacicojaaProg
import Derived.Lib.CutLaws
import Derived.Deep.QuietTactic
import Derived.BigQuiet
import Derived.Deep.RegionWith
import Derived.Outline
import Derived.RangeFuncNested
namespace Go.Proofs.Ytnmlmbbacicojaa
set_option linter.unusedVariables false
set_option linter.unusedSimpArgs false
open Go.RowKit Go.Maps Go.Proofs.YtnmlmbbacicojaaW.PrintWords Go.Proofs.YtnmlmbbacicojaaW.PrintLast Go.Proofs.YtnmlmbbacicojaaW.PrintMore Go.Proofs.Ytnmlmbbacicojaa.PWalkSame

theorem paths_c (A : Option Addr) (N c : Nat) (w : World) : Calls Try.prog 31 #[.slice A N c] w fun e w' => e = .returned (.func (.func 43) #[] #[.pointer (some ⟨w.heap.size, 0, none⟩)]) ∧ w' = w.alloc (.cells #[.slice A N c] 22) := by
  go_enter Try.func31, Try.ntmps31
  go_wp2
  go_ret
  exact ⟨rfl, rfl⟩
theorem ConsP.ext {n : Nat} {w V W' : World} {out : List ByteArray} (h : ConsP n w out V) (hb : Below V.heap.size V W') : ConsP n w out W' := by
  obtain ⟨⟨v, h1, h2⟩, h3⟩ := h
  exact ⟨⟨v, (hb.block n h1.lt).trans h1, own_move h2 (fun k hk => hb.block k (h2.lt k hk).2)⟩, h3.trans (hb.mono (by have := h1.lt; omega))⟩
theorem Ready.ext {L : Nat} {rec : LoopState → Option Code → Loop} {V W' : World} (h : Ready L rec V) (hb : Below V.heap.size V W') : Ready L rec W' :=
  ⟨(hb.block _ h.lt).trans h.1, (hb.block _ (by have := h.lt; omega)).trans h.2⟩
theorem of_drew {V W5 : World} (h : Below V.drew.heap.size V.drew W5) : Below V.heap.size V W5 := ⟨h.os, h.tape, h.output, h.size, h.block⟩
section
variable {l : List S30} {A : Option Addr} {N c n L ba m : Nat} {rec : LoopState → Option Code → Loop} {w W W5 : World}
theorem it_first (hN : l.length = N) (hcons : ConsP n w [] W) (hrdy : Ready L rec W) (hL : n + 2 = L) (hb5 : Below (W.alloc (.map #[] 0)).heap.size (W.alloc (.map #[] 0)) W5) (hba : (W.alloc (.map #[] 0)).heap.size ≤ ba) (hii : OwnII Try.prog 3 3 W5 ba m (atF l)) :
    ItP l A N c n W5.heap.size ba W.heap.size (fun _ => false) (W5.alloc (.cells #[.slice A N c, .map (some ba), .map (some W.heap.size)] 84)) ∧ ConsP n w [] (W5.alloc (.cells #[.slice A N c, .map (some ba), .map (some W.heap.size)] 84)) ∧ Ready L rec (W5.alloc (.cells #[.slice A N c, .map (some ba), .map (some W.heap.size)] 84)) := by
  have hlt := hrdy.lt
  rw [World.size_alloc] at hba
  have h5 := hb5.size
  rw [World.size_alloc] at h5
  have hib : OwnIB Try.prog 3 4 (W.alloc (.map #[] 0)) W.heap.size 0 (fun _ => false) := ⟨_, World.ownsMap_made _ _ _ _, MapIB.none_⟩
  have hib5 := hib.same (hb5.block W.heap.size (by rw [World.size_alloc]; omega))
  have hbW : Below W.heap.size W W5 := ((Below.refl _ W).alloc (Nat.le_refl _) _).trans (hb5.mono (by rw [World.size_alloc]; omega))
  have hbF := hbW.alloc (by omega) (.cells #[.slice A N c, .map (some ba), .map (some W.heap.size)] 84)
  refine ⟨⟨World.alloc_heap_new _ _, ⟨m, hii.kept (World.grownBy_alloc W5 _ none) (by simp)⟩, ⟨0, ?_, hib5.kept (World.grownBy_alloc W5 _ none) (by simp)⟩, by omega, by omega, by omega, by omega⟩, hcons.ext hbF, hrdy.ext hbF⟩
  rw [left_all]; omega
theorem it_second (hN : l.length = N) (hcons : ConsP n w [] W) (hrdy : Ready L rec W) (hL : n + 2 = L) (hb5 : Below W.heap.size W W5) (hba : W.heap.size ≤ ba) (hii : OwnII Try.prog 3 3 W5 ba m (atF l)) :
    ItP l A N c n (W5.heap.size + 1) ba W5.heap.size (fun _ => false) ((W5.alloc (.map #[] 0)).alloc (.cells #[.slice A N c, .map (some ba), .map (some W5.heap.size)] 84)) ∧ ConsP n w [] ((W5.alloc (.map #[] 0)).alloc (.cells #[.slice A N c, .map (some ba), .map (some W5.heap.size)] 84)) ∧ Ready L rec ((W5.alloc (.map #[] 0)).alloc (.cells #[.slice A N c, .map (some ba), .map (some W5.heap.size)] 84)) := by
  have hlt := hrdy.lt
  have h5 := hb5.size
  have hlt2 := hii.lt
  have hib : OwnIB Try.prog 3 4 (W5.alloc (.map #[] 0)) W5.heap.size 0 (fun _ => false) := ⟨_, World.ownsMap_made _ _ _ _, MapIB.none_⟩
  have hbF := (hb5.alloc h5 (.map #[] 0)).alloc (by rw [World.size_alloc]; omega) (.cells #[.slice A N c, .map (some ba), .map (some W5.heap.size)] 84)
  have e := World.alloc_heap_new (W5.alloc (.map #[] 0)) (.cells #[.slice A N c, .map (some ba), .map (some W5.heap.size)] 84)
  rw [World.size_alloc] at e
  refine ⟨⟨e, ⟨m, (hii.kept (World.grownBy_alloc W5 _ none) (by simp)).kept (World.grownBy_alloc _ _ none) (by simp)⟩, ⟨0, ?_, hib.kept (World.grownBy_alloc _ _ none) (by simp)⟩, by omega, by omega, by omega, by omega⟩, hcons.ext hbF, hrdy.ext hbF⟩
  rw [left_all]; omega
end
def DoneP (n : Nat) (w : World) (F : List ByteArray) (W : World) : Prop := ConsP n w F W

set_option maxHeartbeats 4000000 in
set_option maxRecDepth 100000 in
theorem paths1_c {n L : Nat} {rec : LoopState → Option Code → Loop} {w : World} {C : Code → Prop} (l : List S30) (hY : YieldP n L rec w (pathsF l) C) (A : Option Addr) (N c : Nat) (hN : l.length = N) (hNc : N ≤ c) (hok : NodesOk l) (hC : Kd.C k30 w A N l) (hn : n = w.heap.size) (hL : n + 2 = L)
    (W : World) (hcons : ConsP n w [] W) (hrdy : Ready L rec W) (hbox : Boxed W (n + 1) 22 (.slice A N c)) :
    CallsIn Fence.wide 0 Try.prog 43 #[.func (.yield (L + 1)) #[] #[], .pointer (some ⟨n + 1, 0, none⟩)] W fun e W' => (∃ v, e = .returned v) ∧ ((DoneP n w (pathsF l) W' ∧ Ready L rec W') ∨ (∃ s c, C c ∧ JxP n w (pathsF l) s c W' ∧ Stopped L rec c W')) := by
  have hr47 := reach47
  have hll : l.length ≤ 140737488355328 := by have := hok.2; omega
  have hbel := hcons.2
  rw [hn] at hbel
  have HI := hide (fun (V : World) (hb : Below w.heap.size w V) => index_c A N c l V hN (Kd.C_below hC hb) hNc (by omega) (fun x hx => (hok.1 x hx).1))
  have HBEL := hide hbel
  have HB1 := hide (hbel.alloc hbel.size (.map #[] 0))
  have HNN := hide hn
  have HCONS := hide hcons
  have HRDY := hide hrdy
  have HBOX := hide hbox
  have HLL := hide hL
  have cb := hbox.cell
  have cb1 : (W.alloc (.map #[] 0)).cell? ⟨n + 1, 0, none⟩ = some (.slice A N c) := (hbox.alloc _).cell
  have hmm := @run_makeMap Try.prog
  clear hbel hn hcons hrdy hbox hL
  refine callsIn_of_wp Try.func43 rfl trivial ?_ rfl
  simp only [Try.ntmps43, List.size_toArray, List.length_cons, List.length_nil, Nat.reduceAdd, Nat.reduceSub, Array.replicate_succ, Array.replicate_zero, List.push_toArray, List.append_toArray, List.nil_append, List.cons_append]
  gi_wp2
  gi_cut [3] from 6 (fun v3 wx => ∃ bw ba bi, v3 = .pointer (some ⟨bw, 0, none⟩) ∧ Hid (ItP l A N c n bw ba bi (fun _ => false) wx ∧ ConsP n w [] wx ∧ Ready L rec wx))
  case first =>
    gi_region_with ((with_reducible refine wide_calls ?_); go_at_call 27; refine (HI.out _ (by repeat (first | (with_reducible first | exact HBEL.out | apply below_alloc | apply pw_below_drewN | apply below_drew1) | exact HBEL.out))).mono ?_; rintro e W5 ⟨ba, m, rfl, hba, hii, hm, hb5⟩; have c5 : W5.cell? ⟨n + 1, 0, none⟩ = some (.slice A N c) := (hb5.cell (p := ⟨n + 1, 0, none⟩) (by have := HBOX.out.lt; first | exact this | (simp; omega))).trans (by first | exact cb | exact cb1); have c5a : (W5.alloc (.map #[] 0)).cell? ⟨n + 1, 0, none⟩ = some (.slice A N c) := (((Below.refl W5.heap.size W5).alloc (Nat.le_refl _) (.map #[] 0)).cell (World.block_lt_of_cell? W5 _ c5)).trans c5)
    all_goals (gi_wp2; gi_meet; first | exact ⟨_, _, _, rfl, hide (it_first hN HCONS.out HRDY.out HLL.out (of_drew hb5) hba hii)⟩ | exact ⟨_, _, _, rfl, hide (it_second hN HCONS.out HRDY.out HLL.out (of_drew hb5) hba hii)⟩)
  case rest =>
    obtain ⟨bw, ba, bi, rfl, HX⟩ := hcut
    obtain ⟨cw0, cw1, cw2⟩ := HX.out.1.cells
    obtain ⟨ma, hia⟩ := HX.out.1.2.1
    have hlk := hia.look Try.underlying3 Try.underlying3 Try.underlying56 (zero3 _) 1 (by decide)
    clear hia cb cb1 hmm
    cases hq : atF l 1 with
    | none =>
      have HP := hide (show pathsF l = [] by unfold pathsF; rw [hq])
      rw [hq] at hlk
      simp only [Option.getD_none, Option.isSome_none] at hlk
      clear hq
      gi_wp2
      go_end0
      exact ⟨⟨_, rfl⟩, .inl ⟨by rw [HP.out]; exact HX.out.2.1, HX.out.2.2⟩⟩
    | some v =>
      obtain ⟨i, rfl, hil, _⟩ := atF_lt hq
      have HP := hide (show pathsF l = (dn l (l.length + 1) i ⟨#[]⟩ ([], fun _ => false)).2.1 by unfold pathsF; rw [hq]; rfl)
      have HD := hide (down_c hY l A N c bw ba bi hN hNc hok hC HNN.out (by have := HLL.out; omega) (l.length + 1) i ⟨#[]⟩ ([], fun _ => false) wc hil (by decide) (by rw [left_all]; omega) HX.out.2.1 (by simp) HX.out.2.2 HX.out.1 (fun _ => HP.out.symm))
      rw [hq] at hlk
      simp only [Option.getD_some, Option.isSome_some] at hlk
      clear hq
      gi_wp2
      refine wide_in ?_
      refine HD.out.mono ?_
      rintro e W4 (⟨rfl, hr1, hr2, hr3, hr4, hr5⟩ | ⟨rfl, hr1, sx, cx, hcx, hjx, hsx⟩)
      · have HR := hide (And.intro hr2 hr4)
        clear hr1 hr2 hr3 hr4 hr5
        gi_wp2
        go_end0
        exact ⟨⟨_, rfl⟩, .inl ⟨by rw [HP.out]; exact HR.out.1, HR.out.2⟩⟩
      · clear hr1
        gi_wp2
        go_end0
        exact ⟨⟨_, rfl⟩, .inr ⟨sx, cx, hcx, hjx, hsx⟩⟩
end Go.Proofs.Ytnmlmbbacicojaa
namespace Go.Proofs.Ytnmlmbbacicojaa
set_option linter.unusedVariables false
set_option linter.unusedSimpArgs false
open Go.RowKit Go.Shelf Go.Maps Go.Proofs.YtnmlmbbacicojaaW.PrintWords Go.Proofs.YtnmlmbbacicojaaW.PrintLast Go.Proofs.YtnmlmbbacicojaaW.PrintMore Go.Proofs.Ytnmlmbbacicojaa.PWalkSame
attribute [local go_sem] Oper.semAt_some

theorem info9p : (Try.prog.info? 9).map (fun i => (i.zero, i.size, i.bytes)) = some (some (.string ⟨#[]⟩), 1, 16) := by kernel_rfl

theorem keep_append {n k : Nat} {W w1 : World} {v v0 : Value} {tmp : Obj} {xs : List Value} (hown : W.ownsRow (n + 2) 9 1 v k xs) (hg : (W.alloc tmp).grownBy w1 v.ownBlock) (hv : Boxed W n 44 v0) (u : Value) : KeepP n W (w1.setCell ⟨n, 0, none⟩ u) := by
  refine ⟨by have := hg.size; simp at this ⊢; omega, fun b o h1 h2 h3 => ?_⟩
  have hlt : b < W.heap.size := (Array.getElem?_eq_some_iff.1 h1).1
  refine (Below.heap_setCell w1 ⟨n, 0, none⟩ u b h2).trans ?_
  refine (hg.block b (by simp; omega) (fun e => ?_)).trans ((Below.heap_alloc _ _ _ hlt).trans h1)
  obtain ⟨cells, hc⟩ := own_typed hown b e.symm
  rw [hc] at h1
  injection h1 with h1
  subst h1
  exact h3 rfl
set_option maxHeartbeats 4000000 in
set_option maxRecDepth 100000 in
theorem walkPaths_c (l : List S30) (A : Option Addr) (N c : Nat) (w : World) (hN : l.length = N) (hNc : N ≤ c) (hok : NodesOk l) (hC : Kd.C k30 w A N l) :
    Calls Try.prog 19 #[.slice A N c] w fun e w' => ∃ v, e = .returned v ∧ w'.ownsRow w.heap.size 9 1 v (pathsF l).length ((pathsF l).map Value.string) ∧ Below w.heap.size w w' := by
  have HN := hide hN
  have HOK := hide hok
  have HC := hide hC
  clear hN hok hC
  refine (callsIn_wide (n := 0)).1 ?_
  refine callsIn_of_wp_marks Try.func19 rfl trivial ?_
  simp only [Try.ntmps19, List.size_toArray, List.length_cons, List.length_nil, Nat.reduceAdd, Nat.reduceSub, Array.replicate_succ, Array.replicate_zero, List.push_toArray, List.append_toArray, List.nil_append, List.cons_append]
  gi_wp2_with ((with_reducible refine wide_calls ?_); go_at_call 31; refine (paths_c _ _ _ _).mono ?_; rintro e w' ⟨rfl, rfl⟩)
  have bx0 : Boxed ((w.alloc (.cells #[.slice none 0 0] 44)).alloc (.cells #[.slice A N c] 22)) w.heap.size 44 (.slice none 0 0) := (Boxed.new w 44 _).alloc _
  have bx1 : Boxed ((w.alloc (.cells #[.slice none 0 0] 44)).alloc (.cells #[.slice A N c] 22)) (w.heap.size + 1) 22 (.slice A N c) := by
    have := Boxed.new (w.alloc (.cells #[.slice none 0 0] 44)) 22 (.slice A N c)
    rw [World.size_alloc] at this
    exact this
  have hbl : Below w.heap.size w ((w.alloc (.cells #[.slice none 0 0] 44)).alloc (.cells #[.slice A N c] 22)) := ((Below.refl _ _).alloc (Nat.le_refl _) _).alloc (by simp) _
  have hsz : ((w.alloc (.cells #[.slice none 0 0] 44)).alloc (.cells #[.slice A N c] 22)).heap.size = w.heap.size + 2 := by simp
  have hcons0 : ConsP w.heap.size w [] ((w.alloc (.cells #[.slice none 0 0] 44)).alloc (.cells #[.slice A N c] 22)) := ⟨⟨_, bx0, World.ownsRow_nil _ _ _ _⟩, hbl⟩
  generalize (w.alloc (.cells #[.slice none 0 0] 44)).alloc (.cells #[.slice A N c] 22) = W4 at bx0 bx1 hbl hsz hcons0 ⊢
  clear bx0 hbl
  obtain ⟨F, hF⟩ : ∃ F, F = pathsF l := ⟨_, rfl⟩
  have HF := hide hF
  clear hF
  refine wpIn_rangeFunc_dir (σ := Sg) (gf := 43) (lb := #[.pointer (some ⟨w.heap.size + 1, 0, none⟩)]) rfl (enters_of Try.func43 (by kernel_rfl) rfl)
    (InP w.heap.size w F) (JnP w.heap.size w) (fun s c W => c = .exit 0 ∧ JxP w.heap.size w F s c W) (fun s a₁ W => InP w.heap.size w F s W ∧ a₁ = (fun x : ByteArray => ({ tmps := #[.slice A N c, undef, .slice none 0 0, .pointer (some ⟨w.heap.size, 0, none⟩), .string x, .slice A N c, .func (.func 43) #[] #[.pointer (some ⟨w.heap.size + 1, 0, none⟩)], .string x, undef, undef, undef, undef, undef, undef, undef, undef], defers := [] } : Act)) s.2.1) (DoneP w.heap.size w F) (fun s => #[.string s.2.1])
    ?hI ?hJ ?hJx ?hMid ?hDone (fun _ => rfl) ?assign ?body ?iter ?done ?stop
  case hI => exact fun s W r o' ⟨h1, h2, h3, h4⟩ hl => ⟨h1.putObj _ hl (by omega), h2, h3.putObj _ hl, h4⟩
  case hJ => exact fun s W r o' ⟨h1, h2, h3, h4⟩ hl => ⟨h1.putObj _ hl (by omega), h2, h3, h4.putObj _ hl⟩
  case hJx => exact fun s c W r o' ⟨h0, h1, h2, h3⟩ hl => ⟨h0, h1, h2, h3.putObj _ hl (by omega)⟩
  case hMid => exact fun s a₁ W r o' ⟨⟨h1, h2, h3, h4⟩, h5⟩ hl => ⟨⟨h1.putObj _ hl (by omega), h2, h3.putObj _ hl, h4⟩, h5⟩
  case hDone => exact fun W r o' h1 hl => ConsP.putObj _ h1 hl (by omega)
  case assign =>
    intro l s W hi hl
    have HI := hide hi
    clear hi
    gi_wp2
    obtain ⟨h1, h2, h3, h4⟩ := HI.out
    first | exact ⟨Keeps2.refl _ _, h1, h2, h3, h4⟩ | exact ⟨Keeps2.refl _ _, ⟨h1, h2, h3, h4⟩, rfl⟩ | exact ⟨Keeps2.refl _ _, ⟨h1, h2, h3, h4⟩, trivial⟩
  case body =>
    rintro l' ⟨out, x, W0⟩ a₁ W hl ⟨⟨⟨⟨v, hv, hown⟩, hb⟩, hlen, hk0, hx5, hF5⟩, rfl⟩
    dsimp only at hlen hown hk0 hx5 hF5
    obtain ⟨A5, c5, rfl⟩ := own_slice hown
    have cv := hv.cell
    have fv := hv.frozen
    have hlt := hv.lt
    have HB := hide hb
    have HK := hide hk0
    have HF5 := hide hF5
    clear hb hk0 hF5
    by_cases hful : out.length = 10000
    · have e1 : ((out.length : Int) == 10000) = true := by rw [hful]; rfl
      have HFU := hide hful
      have HOWN := hide hown
      have HV := hide hv
      clear hful hown hv
      gi_wp2
      exact ⟨Keeps2.refl _ _, rfl, HFU.out, HF5.out HFU.out, ⟨_, HV.out, HOWN.out⟩, HB.out⟩
    · have e1 : ((out.length : Int) == 10000) = false := by rw [beq_eq_false_iff_ne]; omega
      have HFU := hide hful
      clear hful
      obtain ⟨i0, hi, hz0, hz1, hz2⟩ := info_parts info9p
      gi_wp2_with (gi_at_builtin; go_must (refine wpListIn_append_own _ rfl _ _ 44 rfl (w.heap.size + 2) 9 i0 (.string ⟨#[]⟩) 1 16 Try.underlying44 hi hz0 hz1 hz2 rfl (by decide) _ _ _ rfl (hown.alloc _) ⟨W.heap.size, 0, none⟩ 1 1 [.string x] rfl rfl (cell_one_new _ _ _) (by simp [Value.oneCell']) (by unfold maxLen; omega) (by omega) (by simp; omega) ?_); intro v' w1 hown' hgrow _; obtain ⟨g', cap', rfl⟩ := ownsRow_succ hown'; obtain ⟨hbox, hko⟩ := appended_box hv hown (by omega) hgrow; have hv1 := hbox _ _ _ (by omega) hv; have hc1 := hv1.cell; have hf1 := hv1.frozen)
      obtain ⟨st1, st2, st3, st4⟩ := stored_box hv1 hown' (by omega)
      refine ⟨(Keeps2.of_others hko).trans (Keeps2.of_others st4), ⟨⟨_, st2, by simpa using st3⟩, ?_⟩, HFU.out, hlen, HK.out.trans (keep_append hown hgrow hv _)⟩
      exact ((HB.out.alloc (by omega) _).grown hgrow (by simp; omega) (fun k hk => by have := (hown.lt k hk).1; omega)).setCell (p := ⟨w.heap.size, 0, none⟩) (Nat.le_refl _) _
  case iter =>
    rintro rec W1 hW1 hrdy hY
    have hbW : Below W4.heap.size W4 W1 := by subst hW1; exact ((Below.refl _ _).alloc (Nat.le_refl _) _).alloc (by simp) _
    have hcons1 : ConsP w.heap.size w [] W1 := hcons0.ext hbW
    have hbx1 : Boxed W1 (w.heap.size + 1) 22 (.slice A N c) := (hbW.block _ (by omega)).trans bx1
    rw [hsz] at hrdy hY ⊢
    rw [HF.out] at hY ⊢
    refine (paths1_c (C := fun c => c = .exit 0) l (fun s W hi hr => ?_) A N c HN.out hNc HOK.out HC.out rfl rfl W1 hcons1 hrdy hbx1).mono ?_
    · obtain ⟨fn, tmps, asg, bd, hy, hR⟩ := hY s W hi hr
      refine ⟨fn, tmps, asg, bd, hy, hR.mono ?_⟩
      rintro e W' (h | ⟨h1, c', ⟨h2, h3⟩, h4⟩)
      · exact .inl h
      · exact .inr ⟨h1, c', h2, h3, h4⟩
    · rintro e W' ⟨h1, (h2 | ⟨s, c', h3, h4, h5⟩)⟩
      · exact ⟨h1, .inl h2⟩
      · exact ⟨h1, .inr ⟨s, c', ⟨h3, h4⟩, h5⟩⟩
  case done =>
    rintro W ⟨⟨v, hv, hown⟩, hb⟩ hD
    have cv := hv.cell
    have H := hide (And.intro hv (And.intro hown (And.intro hb hD)))
    clear hv hown hb hD
    gi_wp2
    obtain ⟨hv, hown, hb, hD⟩ := H.out
    refine ⟨by simp, .inl ⟨_, _, rfl, run_takeDeferred hD, ?_⟩⟩
    refine ⟨_, results_tmp rfl _ _ _, v, rfl, ?_, below_putObj _ hb (by omega) (Array.getElem?_eq_some_iff.1 hD).1⟩
    rw [← HF.out]
    exact own_less (ownsRow_putObj hown _ hD rfl) (by omega)
  case stop =>
    rintro s c W ⟨rfl, hx1, hx2, ⟨v, hv, hown⟩, hb⟩ hD
    have cv := hv.cell
    have H := hide (And.intro hv (And.intro hown (And.intro hb (And.intro hD hx2))))
    clear hv hown hb hD hx1 hx2
    gi_wp2
    obtain ⟨hv, hown, hb, hD, hx2⟩ := H.out
    refine ⟨by simp, .inl ⟨_, _, rfl, run_takeDeferred hD, ?_⟩⟩
    refine ⟨_, results_tmp rfl _ _ _, v, rfl, ?_, below_putObj _ hb (by omega) (Array.getElem?_eq_some_iff.1 hD).1⟩
    rw [← HF.out, ← hx2]
    exact own_less (ownsRow_putObj hown _ hD rfl) (by omega)
end Go.Proofs.Ytnmlmbbacicojaa
namespace Go.Proofs.Ytnmlmbbacicojaa
set_option linter.unusedVariables false
set_option linter.unusedSimpArgs false
open Go.RowKit Go.Shelf Go.Maps Go.Proofs.YtnmlmbbacicojaaW.PrintWords Go.Proofs.YtnmlmbbacicojaaW.PrintLast Go.Proofs.YtnmlmbbacicojaaW.PrintMore Go.Proofs.Ytnmlmbbacicojaa.PWalkSame

def treeL : List S30 := [⟨1, 2, 0, 0, [], [⟨5, ⟨#[97]⟩⟩]⟩, ⟨5, 2, 0, 0, [], [⟨0, ⟨#[]⟩⟩, ⟨9, ⟨#[98]⟩⟩]⟩, ⟨9, 1, 0, 0, [], []⟩]
theorem tree_paths : pathsF treeL = [⟨#[47, 97]⟩, ⟨#[47, 97, 47, 98]⟩] := by decide +kernel
theorem tree_ok : NodesOk treeL := by
  refine ⟨fun x hx => ?_, by decide⟩
  simp only [treeL, List.mem_cons, List.not_mem_nil, or_false] at hx
  rcases hx with rfl | rfl | rfl
  · exact ⟨by decide, by decide, by decide, by decide, ⟨by simp, by decide⟩, ⟨by simp [EntOk]; decide, by decide⟩⟩
  · exact ⟨by decide, by decide, by decide, by decide, ⟨by simp, by decide⟩, ⟨by simp [EntOk]; decide, by decide⟩⟩
  · exact ⟨by decide, by decide, by decide, by decide, ⟨by simp, by decide⟩, ⟨by simp, by decide⟩⟩
theorem tree_c (w : World) : Calls Try.prog 21 #[] w fun e w' => ∃ A c, e = .returned (.slice A 3 c) ∧ 3 ≤ c ∧ Kd.C k30 w' A 3 treeL ∧ Below w.heap.size w w' := by
  refine (lockgatelaw20_Tree.calls treeL w rfl).mono ?_
  rintro e w' ⟨v, rfl, hN, hb⟩
  obtain ⟨A, c, rfl, hl, hC⟩ := Kd.N_reads hN
  exact ⟨A, c, rfl, hl, hC, hb⟩
/-- a row of strings that was made, its cells -/
theorem rows_cells {w : World} {base n : Nat} {v : Value} {xs : List ByteArray} (h : w.ownsRow base 9 1 v n (xs.map Value.string)) (hn : xs.length = n) (h0 : 0 < n) : ∃ g c, v = .slice (some ⟨g, 0, none⟩) n c ∧ ∀ i (hi : i < xs.length), w.cell? ⟨g, i, none⟩ = some (.string xs[i]) := by
  obtain ⟨g, cap, rfl, _, _⟩ := h.form h0
  refine ⟨g, cap, rfl, fun i hi => ?_⟩
  rw [h.cellAt i (by omega), List.getElem?_map, List.getElem?_eq_getElem hi]
  rfl
theorem alive_c (w : World) : Calls Try.prog 9 #[] w fun e w' => e = .returned (.bool true) ∧ Below w.heap.size w w' := by
  have HP := hide (fun (A : Option Addr) (c : Nat) (W : World) (hc : 3 ≤ c) (hC : Kd.C k30 W A 3 treeL) => walkPaths_c treeL A 3 c W rfl hc tree_ok hC)
  have HQ := hide tree_paths
  go_enter Try.func9, Try.ntmps9
  go_wp2_with (first | (go_at_call 21; refine (tree_c _).mono ?_; rintro e w1 ⟨A, c, rfl, hc, hC, hb⟩; have HC := hide hC; clear hC) | (go_at_call 19; refine (HP.out _ _ _ hc HC.out).mono ?_; rintro e w2 ⟨v, rfl, hown, hb2⟩; rw [HQ.out] at hown; obtain ⟨g, c2, rfl, hcell⟩ := rows_cells (n := 2) hown rfl (by omega); have c0 := hcell 0 (by decide); have c1 := hcell 1 (by decide); have e0 : ([⟨#[47, 97]⟩, ⟨#[47, 97, 47, 98]⟩] : List ByteArray).length = 2 := rfl; clear hown hcell; dsimp only [List.getElem_cons_zero, List.getElem_cons_succ] at c0 c1))
  go_ret
  exact ⟨by first | rfl | simp, hb.trans (hb2.mono hb.size)⟩
end Go.Proofs.Ytnmlmbbacicojaa
namespace Go.Proofs.Ytnmlmbbacicojaa
set_option linter.unusedVariables false
set_option linter.unusedSimpArgs false
open Go.RowKit Go.Maps Go.Proofs.YtnmlmbbacicojaaW.PrintWords Go.Proofs.YtnmlmbbacicojaaW.PrintLast Go.Proofs.YtnmlmbbacicojaaW.PrintMore Go.Proofs.Ytnmlmbbacicojaa.PWalkSame

/-- is this slot in use, and of this name? -/
def slotIs (p : ByteArray) (e : S32) : Bool := (e.f0 != 0) && (e.f1.toList == p.toList)
theorem slotIs_c (e : S32) (p : ByteArray) (b : Nat) (w : World) (hb : w.cell? ⟨b, 0, none⟩ = some (.string p)) :
    Calls Try.prog 29 #[.agg #[.int .i64 e.f0, .string e.f1], .pointer (some ⟨b, 0, none⟩)] w fun r w' => r = .returned (.bool (slotIs p e)) ∧ Below w.heap.size w w' := by
  have hlt : b < w.heap.size := World.block_lt_of_cell? w _ hb
  have hb1 : (w.alloc (.cells #[.int .i64 e.f0, .string e.f1] 32)).cell? ⟨b, 0, none⟩ = some (.string p) := (((Below.refl w.heap.size w).alloc (Nat.le_refl _) _).cell (World.block_lt_of_cell? w _ hb)).trans hb
  by_cases h0 : e.f0 = 0
  · have e1 : (e.f0 == 0) = true := by simpa using h0
    have e2 : (e.f0 != 0) = false := by simpa using h0
    have HE := hide (show slotIs p e = false by unfold slotIs; rw [e2]; rfl)
    clear h0
    go_enter Try.func29, Try.ntmps29
    go_wp2
    go_ret
    exact ⟨by rw [HE.out]; first | rfl | simp, (Below.refl _ w).alloc (Nat.le_refl _) _⟩
  · have e1 : (e.f0 == 0) = false := by simpa using h0
    have e2 : (e.f0 != 0) = true := by simpa using h0
    have HE := hide (show slotIs p e = (e.f1.toList == p.toList) by unfold slotIs; rw [e2]; rfl)
    clear h0
    go_enter Try.func29, Try.ntmps29
    go_wp2
    go_ret
    exact ⟨by rw [HE.out]; first | rfl | simp, (Below.refl _ w).alloc (Nat.le_refl _) _⟩
/-- the place of the first one; -1: none -/
def slotAt (p : ByteArray) (es : List S32) : Int := match es.findIdx? (slotIs p) with | some i => (i : Int) | none => -1
theorem slotAt_hit {p : ByteArray} {es : List S32} {k : Nat} (hk : k < es.length) (h : slotIs p es[k] = true) (hb : ∀ j (hj : j < es.length), j < k → slotIs p es[j] = false) : slotAt p es = (k : Int) := by
  unfold slotAt
  rw [List.findIdx?_eq_some_iff_getElem.2 ⟨hk, h, fun j hj => by simpa using hb j (by omega) hj⟩]
theorem slotAt_miss {p : ByteArray} {es : List S32} (h : ∀ j (hj : j < es.length), slotIs p es[j] = false) : slotAt p es = -1 := by
  unfold slotAt
  rw [List.findIdx?_eq_none_iff.2 (fun x hx => by obtain ⟨j, hj, rfl⟩ := List.getElem_of_mem hx; exact h j hj)]

set_option maxHeartbeats 1000000 in
set_option maxRecDepth 100000 in
theorem indexFunc_c (A : Option Addr) (c b : Nat) (es : List S32) (p : ByteArray) (w : World) (h : Kd.C k32 w A es.length es) (hc : es.length ≤ c) (hb : w.cell? ⟨b, 0, none⟩ = some (.string p)) (hl : es.length ≤ 140737488355328) :
    Calls Try.prog 28 #[.slice A es.length c, .func (.func 29) #[] #[.pointer (some ⟨b, 0, none⟩)]] w fun r w' => r = .returned (.int .i64 (slotAt p es)) ∧ Below w.heap.size w w' := by
  have H := hide h
  have HB := hide hb
  clear h hb
  go_enter Try.func28, Try.ntmps28
  go_wp2
  go_loopw [8] (fun i wr => ∃ k : Nat, k ≤ es.length ∧ i = .int .i64 k ∧ Below w.heap.size w wr ∧ ∀ j (hj : j < es.length), j < k → slotIs p es[j] = false) (fun i _ => es.length - (intOf i).toNat)
  case atStart => exact ⟨0, by omega, rfl, Below.refl _ _, fun j _ h => absurd h (by omega)⟩
  case round =>
    obtain ⟨k, hk, rfl, hbr, hall⟩ := hrel
    have HA := hide hall
    clear hall
    by_cases hlt : k < es.length
    · obtain ⟨ae, e6, u0, u1⟩ := at_T32 H.out (k : Int) (by omega) (by omega)
      rw [rd32 hlt] at u0 u1
      rw [Int.toNat_natCast] at u0 u1
      subst e6
      replace u0 := (hbr.cell (World.block_lt_of_cell? w _ u0)).trans u0
      replace u1 := (hbr.cell (World.block_lt_of_cell? w _ u1)).trans u1
      have hbw : wr.cell? ⟨b, 0, none⟩ = some (.string p) := (hbr.cell (World.block_lt_of_cell? w _ HB.out)).trans HB.out
      have HC := hide (slotIs_c es[k] p b wr hbw)
      have HIT := hide (fun h => slotAt_hit (p := p) hlt h HA.out)
      cases hq : slotIs p es[k] with
      | true =>
        rw [hq] at HC
        have HI := hide (HIT.out hq)
        clear hq hbw
        generalize es[k] = e at u0 u1 HC
        go_wp2_with (go_at_call 29; refine HC.out.mono ?_; rintro r w3 ⟨rfl, hb3⟩)
        go_ret
        exact ⟨by rw [HI.out]; first | rfl | simp, hbr.trans (hb3.mono hbr.size)⟩
      | false =>
        rw [hq] at HC
        have HQ := hide hq
        clear hq hbw HIT
        have HQ2 := hide (show ∀ j (hj : j < es.length), j < k + 1 → slotIs p es[j] = false from fun j hj hjk => by
          by_cases e : j = k
          · subst e; exact HQ.out
          · exact HA.out j hj (by omega))
        clear HQ
        generalize es[k] = e at u0 u1 HC
        go_wp2_with (go_at_call 29; refine HC.out.mono ?_; rintro r w3 ⟨rfl, hb3⟩)
        go_roundw
        case rel => exact ⟨k + 1, by omega, by go_num, hbr.trans (hb3.mono hbr.size), HQ2.out⟩
        case measure => simp [intOf]; omega
    · have HI := hide (slotAt_miss (p := p) (fun j hj => HA.out j hj (by omega)))
      go_wp2
      go_ret
      exact ⟨by rw [HI.out]; first | rfl | simp, hbr⟩
end Go.Proofs.Ytnmlmbbacicojaa
namespace Go.Proofs.Ytnmlmbbacicojaa
set_option linter.unusedVariables false
set_option linter.unusedSimpArgs false

abbrev Bytes8 := List UInt8
def bs (l : Bytes8) : ByteArray := ⟨l.toArray⟩
@[simp] theorem bs_data (l : Bytes8) : (bs l).data.toList = l := rfl
@[simp] theorem bs_of (s : ByteArray) : bs s.data.toList = s := by cases s; rfl
theorem bs_size (l : Bytes8) : (bs l).size = l.length := by simp [bs, ByteArray.size]
theorem size_toList (s : ByteArray) : s.size = s.data.toList.length := by cases s; rfl
theorem bs_inj {a b : Bytes8} (h : bs a = bs b) : a = b := by have := congrArg (fun s => s.data.toList) h; simpa using this
theorem ba_ext {a b : ByteArray} (h : a.data.toList = b.data.toList) : a = b := by rw [← bs_of a, ← bs_of b, h]

/-- the place of a byte, or none -/
theorem idx_cases (l : Bytes8) (c : UInt8) : (Lib.indexByte l c = -1 ∧ c ∉ l) ∨ ∃ a b, l = a ++ c :: b ∧ c ∉ a ∧ Lib.indexByte l c = (a.length : Int) := by
  induction l with
  | nil => exact .inl ⟨rfl, by simp⟩
  | cons x l ih =>
    by_cases e : x = c
    · subst e
      exact .inr ⟨[], l, rfl, by simp, by simp [Lib.indexByte]⟩
    · rcases ih with ⟨h1, h2⟩ | ⟨a, b, rfl, h2, h3⟩
      · exact .inl ⟨by simp [Lib.indexByte, e, h1], by simp [h2, Ne.symm e]⟩
      · refine .inr ⟨x :: a, b, rfl, by simp [h2, Ne.symm e], ?_⟩
        have : ¬ ((a.length : Int) = -1) := by omega
        simp [Lib.indexByte, e, h3, this]
theorem idx_neg (l : Bytes8) (c : UInt8) : decide (Lib.indexByte l c < 0) = !(l.contains c) := by
  rcases idx_cases l c with ⟨h1, h2⟩ | ⟨a, b, rfl, h2, h3⟩
  · rw [h1]; simp [h2]
  · rw [h3]; simp

/-- what stands between the slashes -/
def partsL : Bytes8 → List Bytes8
  | [] => [[]]
  | c :: l => if c = 47 then [] :: partsL l else match partsL l with | [] => [[c]] | p :: ps => (c :: p) :: ps
theorem partsL_ne (l : Bytes8) : partsL l ≠ [] := by
  induction l with
  | nil => simp [partsL]
  | cons c l ih => unfold partsL; split; · simp
                   · split <;> simp
theorem partsL_one {l : Bytes8} (h : (47 : UInt8) ∉ l) : partsL l = [l] := by
  induction l with
  | nil => rfl
  | cons c l ih =>
    have hc : ¬ c = 47 := fun e => h (by simp [e])
    unfold partsL
    rw [if_neg hc, ih (fun e => h (by simp [e]))]
theorem partsL_cut {a b : Bytes8} (h : (47 : UInt8) ∉ a) : partsL (a ++ 47 :: b) = a :: partsL b := by
  induction a with
  | nil => simp [partsL]
  | cons c a ih =>
    have hc : ¬ c = 47 := fun e => h (by simp [e])
    rw [List.cons_append]
    conv => lhs; unfold partsL
    rw [if_neg hc, ih (fun e => h (by simp [e]))]
theorem partsL_noslash (l : Bytes8) : ∀ p ∈ partsL l, (47 : UInt8) ∉ p := by
  induction l with
  | nil => simp [partsL]
  | cons c l ih =>
    unfold partsL
    split
    · intro p hp
      rcases List.mem_cons.1 hp with rfl | hp
      · simp
      · exact ih p hp
    · rename_i hc
      split
      · intro p hp; simp at hp; subst hp; simp [Ne.symm hc]
      · rename_i q qs hq
        intro p hp
        rw [hq] at ih
        rcases List.mem_cons.1 hp with rfl | hp
        · have := ih q (by simp)
          simp [Ne.symm hc, this]
        · exact ih p (by simp [hp])
/-- the slashes put back -/
def joinL : List Bytes8 → Bytes8
  | [] => []
  | [p] => p
  | p :: q :: ps => p ++ 47 :: joinL (q :: ps)
theorem joinL_cons (p : Bytes8) {ps : List Bytes8} (h : ps ≠ []) : joinL (p :: ps) = p ++ 47 :: joinL ps := by
  cases ps with
  | nil => exact absurd rfl h
  | cons q ps => rfl
theorem joinL_partsL (l : Bytes8) : joinL (partsL l) = l := by
  induction l with
  | nil => rfl
  | cons c l ih =>
    unfold partsL
    split
    · rename_i e
      rw [joinL_cons _ (partsL_ne l), ih, e]; rfl
    · split
      · rename_i h; exact absurd h (partsL_ne l)
      · rename_i p ps h
        rw [h] at ih
        cases ps with
        | nil => simp [joinL] at ih ⊢; exact ih
        | cons q ps => simp [joinL] at ih ⊢; exact ih
theorem partsL_joinL : ∀ {ps : List Bytes8}, ps ≠ [] → (∀ p ∈ ps, (47 : UInt8) ∉ p) → partsL (joinL ps) = ps
  | [], h, _ => absurd rfl h
  | [p], _, h => partsL_one (h p (by simp))
  | p :: q :: ps, _, h => by
    show partsL (p ++ 47 :: joinL (q :: ps)) = _
    rw [partsL_cut (h p (by simp)), partsL_joinL (ps := q :: ps) (by simp) (fun x hx => h x (by simp [hx]))]
/-- may an entry have this name? -/
def nameL (l : Bytes8) : Bool := !l.isEmpty && decide (l.length ≤ 27) && !l.contains 0 && !l.contains 47
def okP (l : Bytes8) : Bool := nameL l && !(l == [46]) && !(l == [46, 46])
/-- a path's parts -/
def splitL : Bytes8 → Option (List Bytes8)
  | [] => none
  | c :: t => if c ≠ 47 ∨ 500 < t.length + 1 then none else if t = [] then some [] else if (partsL t).all okP then some (partsL t) else none
theorem splitL_cons (c : UInt8) (t : Bytes8) : splitL (c :: t) = if c ≠ 47 ∨ 500 < t.length + 1 then none else if t = [] then some [] else if (partsL t).all okP then some (partsL t) else none := rfl
theorem okP_noslash {p : Bytes8} (h : okP p = true) : (47 : UInt8) ∉ p := by
  simp [okP, nameL] at h; exact h.1.1.2
theorem okP_ne {p : Bytes8} (h : okP p = true) : p ≠ [] := by
  simp [okP, nameL] at h; exact h.1.1.1.1.1
end Go.Proofs.Ytnmlmbbacicojaa
namespace Go.Proofs
open Go.Shelf
def Try.lays137_ren : Go.Shelf.Ren := ⟨fun | 137 => 50 | 217 => 53 | 266 => 55 | n => n, fun | 9 => 9 | 5 => 5 | 3 => 3 | n => n, fun | n => n⟩
theorem Try.lays137 : Go.Proofs.Lays.n137 Try.prog Try.lays137_ren := {
  mixed := by kernel_rfl
  f137 := Try.func50.trans (congrArg some (by kernel_rfl))
  f217 := Try.func53.trans (congrArg some (by kernel_rfl))
  f266 := Try.func55.trans (congrArg some (by kernel_rfl))
  t3 := Try.underlying3
  a3 := Try.isAgg3
  z3 := Try.sizeOf3
  v3 := Try.zeroValue3
  t5 := Try.underlying5
  a5 := Try.isAgg5
  z5 := Try.sizeOf5
  v5 := Try.zeroValue5
  t9 := Try.underlying9
  a9 := Try.isAgg9
  z9 := Try.sizeOf9
  v9 := Try.zeroValue9 }
open Go.RowKit in
/-- strings.IndexByte: "IndexByte returns the index of the first instance of c in s, or -1 if c is not present in s.": IT RETURNS 'Lib.indexByte s c'; the world is as it was. (LAID: no walk: one application.) -/
theorem Try.strings_IndexByte (s : ByteArray) (c : Int) (w : World) :
    Calls Try.prog 50 #[.string s, .int .u8 c] w fun e w' => e = .returned (.int .i64 (Lib.indexByte s.data.toList c.toNat.toUInt8)) ∧ w' = w := Any.strings_IndexByte Try.lays137 s c w
def Try.lays210_ren : Go.Shelf.Ren := ⟨fun | 210 => 47 | 206 => 51 | n => n, fun | 9 => 9 | 4 => 4 | 3 => 3 | n => n, fun | n => n⟩
theorem Try.lays210 : Go.Proofs.Lays.n210 Try.prog Try.lays210_ren := {
  mixed := by kernel_rfl
  f206 := Try.func51.trans (congrArg some (by kernel_rfl))
  f210 := Try.func47.trans (congrArg some (by kernel_rfl))
  t3 := Try.underlying3
  a3 := Try.isAgg3
  z3 := Try.sizeOf3
  v3 := Try.zeroValue3
  t4 := Try.underlying4
  a4 := Try.isAgg4
  z4 := Try.sizeOf4
  v4 := Try.zeroValue4
  t9 := Try.underlying9
  a9 := Try.isAgg9
  z9 := Try.sizeOf9
  v9 := Try.zeroValue9 }
open Go.RowKit in
/-- internal/stringslite.CutPrefix (what strings.CutPrefix calls). (LAID: no walk: one application.) -/
theorem Try.stringslite_CutPrefix (s p : ByteArray) (w : World) :
    Calls Try.prog 47 #[.string s, .string p] w fun e w' => e = .returned (.tuple #[.string ⟨(Lib.trimPrefix s.data.toList p.data.toList).toArray⟩, .bool (Lib.hasPrefix s.data.toList p.data.toList)]) ∧ w' = w := Any.stringslite_CutPrefix Try.lays210 s p w
def Try.lays103_ren : Go.Shelf.Ren := ⟨fun | 103 => 39 | 210 => 47 | 206 => 51 | n => n, fun | 9 => 9 | 4 => 4 | 24 => 77 | 3 => 3 | n => n, fun | n => n⟩
theorem Try.lays103 : Go.Proofs.Lays.n103 Try.prog Try.lays103_ren := {
  mixed := by kernel_rfl
  f103 := Try.func39.trans (congrArg some (by kernel_rfl))
  f206 := Try.func51.trans (congrArg some (by kernel_rfl))
  f210 := Try.func47.trans (congrArg some (by kernel_rfl))
  t3 := Try.underlying3
  a3 := Try.isAgg3
  z3 := Try.sizeOf3
  v3 := Try.zeroValue3
  t4 := Try.underlying4
  a4 := Try.isAgg4
  z4 := Try.sizeOf4
  v4 := Try.zeroValue4
  t9 := Try.underlying9
  a9 := Try.isAgg9
  z9 := Try.sizeOf9
  v9 := Try.zeroValue9
  t24 := Try.underlying77
  a24 := Try.isAgg77
  z24 := Try.sizeOf77
  v24 := Try.zeroValue77 }
open Go.RowKit in
/-- strings.CutPrefix: "CutPrefix returns s without the provided leading prefix string and reports whether it found the prefix. If s doesn't start with prefix, CutPrefix returns s, false. If prefix is the empty string, CutPrefix returns s, true.": IT RETURNS '(Lib.trimPrefix s p, Lib.hasPrefix s p)'; the world is as it was. (LAID: no walk: one application.) -/
theorem Try.strings_CutPrefix (s p : ByteArray) (w : World) :
    Calls Try.prog 39 #[.string s, .string p] w fun e w' => e = .returned (.tuple #[.string ⟨(Lib.trimPrefix s.data.toList p.data.toList).toArray⟩, .bool (Lib.hasPrefix s.data.toList p.data.toList)]) ∧ w' = w := Any.strings_CutPrefix Try.lays103 s p w
def Try.lays217_ren : Go.Shelf.Ren := ⟨fun | 217 => 53 | 266 => 55 | n => n, fun | 9 => 9 | 5 => 5 | 3 => 3 | n => n, fun | n => n⟩
theorem Try.lays217 : Go.Proofs.Lays.n217 Try.prog Try.lays217_ren := {
  mixed := by kernel_rfl
  f217 := Try.func53.trans (congrArg some (by kernel_rfl))
  f266 := Try.func55.trans (congrArg some (by kernel_rfl))
  t3 := Try.underlying3
  a3 := Try.isAgg3
  z3 := Try.sizeOf3
  v3 := Try.zeroValue3
  t5 := Try.underlying5
  a5 := Try.isAgg5
  z5 := Try.sizeOf5
  v5 := Try.zeroValue5
  t9 := Try.underlying9
  a9 := Try.isAgg9
  z9 := Try.sizeOf9
  v9 := Try.zeroValue9 }
open Go.RowKit Go.Lib in
/-- internal/stringslite.IndexByte (what strings.IndexByte calls): IT RETURNS 'Lib.indexByte s c'; the world is as it was. (LAID: no walk: one application.) -/
theorem Try.stringslite_IndexByte (s : ByteArray) (c : Int) (w : World) :
    Calls Try.prog 53 #[.string s, .int .u8 c] w fun e w' => e = .returned (.int .i64 (Lib.indexByte s.data.toList c.toNat.toUInt8)) ∧ w' = w := Any.stringslite_IndexByte Try.lays217 s c w
def Try.lays224_ren : Go.Shelf.Ren := ⟨fun | 224 => 57 | n => n, fun | 3 => 3 | n => n, fun | n => n⟩
theorem Try.lays224 : Go.Proofs.Lays.n224 Try.prog Try.lays224_ren := {
  mixed := by kernel_rfl
  f224 := Try.func57.trans (congrArg some (by kernel_rfl))
  t3 := Try.underlying3
  a3 := Try.isAgg3
  z3 := Try.sizeOf3
  v3 := Try.zeroValue3 }
open Go.RowKit Go.Lib in
/-- internal/bytealg.Cutover: "Cutover reports the number of failures of IndexByte we should tolerate before switching over to Index. n is the number of bytes processed so far.": on amd64: (n + 16) / 8. (LAID: no walk: one application.) -/
theorem Try.bytealg_Cutover (n : Int) (h0 : 0 ≤ n) (h1 : n < 4611686018427387904) (w : World) :
    Calls Try.prog 57 #[.int .i64 n] w fun e w' => e = .returned (.int .i64 ((n + 16) / 8)) ∧ w' = w := Any.bytealg_Cutover Try.lays224 n h0 h1 w
def Try.lays314_ren : Go.Shelf.Ren := ⟨fun | 314 => 59 | n => n, fun | 9 => 9 | 51 => 94 | 3 => 3 | 4 => 4 | 5 => 5 | 46 => 93 | n => n, fun | n => n⟩
theorem Try.lays314 : Go.Proofs.Lays.n314 Try.prog Try.lays314_ren := {
  mixed := by kernel_rfl
  f314 := Try.func59.trans (congrArg some (by kernel_rfl))
  t3 := Try.underlying3
  a3 := Try.isAgg3
  z3 := Try.sizeOf3
  v3 := Try.zeroValue3
  t4 := Try.underlying4
  a4 := Try.isAgg4
  z4 := Try.sizeOf4
  v4 := Try.zeroValue4
  t5 := Try.underlying5
  a5 := Try.isAgg5
  z5 := Try.sizeOf5
  v5 := Try.zeroValue5
  t9 := Try.underlying9
  a9 := Try.isAgg9
  z9 := Try.sizeOf9
  v9 := Try.zeroValue9
  t46 := Try.underlying93
  a46 := Try.isAgg93
  z46 := Try.sizeOf93
  v46 := Try.zeroValue93
  t51 := Try.underlying94
  a51 := Try.isAgg94
  z51 := Try.sizeOf94
  v51 := Try.zeroValue94 }
open Go.RowKit Go.Lib in
/-- hashStr: "returns the hash and the appropriate multiplicative factor for use in Rabin-Karp algorithm": THE HASH OF ALL OF sep, AND 16777619 ^ len(sep), both in uint32. (LAID: no walk: one application.) -/
theorem Try.bytealg_hashStr (sep : ByteArray) (hs : sep.size < 4294967281) (w : World) :
    Calls Try.prog 59 #[.string sep] w fun e w' => e = .returned (.tuple #[.int .u32 (RK.H sep.data.toList % 4294967296), .int .u32 (16777619 ^ sep.size % 4294967296)]) ∧ w' = w := Any.bytealg_hashStr Try.lays314 sep hs w
def Try.lays267_ren : Go.Shelf.Ren := ⟨fun | 267 => 58 | 314 => 59 | n => n, fun | 9 => 9 | 3 => 3 | 146 => 95 | 51 => 94 | 4 => 4 | 5 => 5 | 46 => 93 | n => n, fun | n => n⟩
theorem Try.lays267 : Go.Proofs.Lays.n267 Try.prog Try.lays267_ren := {
  mixed := by kernel_rfl
  f267 := Try.func58.trans (congrArg some (by kernel_rfl))
  f314 := Try.func59.trans (congrArg some (by kernel_rfl))
  t3 := Try.underlying3
  a3 := Try.isAgg3
  z3 := Try.sizeOf3
  v3 := Try.zeroValue3
  t4 := Try.underlying4
  a4 := Try.isAgg4
  z4 := Try.sizeOf4
  v4 := Try.zeroValue4
  t5 := Try.underlying5
  a5 := Try.isAgg5
  z5 := Try.sizeOf5
  v5 := Try.zeroValue5
  t9 := Try.underlying9
  a9 := Try.isAgg9
  z9 := Try.sizeOf9
  v9 := Try.zeroValue9
  t46 := Try.underlying93
  a46 := Try.isAgg93
  z46 := Try.sizeOf93
  v46 := Try.zeroValue93
  t51 := Try.underlying94
  a51 := Try.isAgg94
  z51 := Try.sizeOf94
  v51 := Try.zeroValue94
  t146 := Try.underlying95
  a146 := Try.isAgg95
  z146 := Try.sizeOf95
  v146 := Try.zeroValue95 }
open Go.RowKit Go.Lib in
theorem Try.bytealg_IndexRabinKarp (s sep : ByteArray) (h1 : 1 ≤ sep.size) (h2 : sep.size ≤ s.size) (hs : s.size < 4294967281) (w : World) :
    Calls Try.prog 58 #[.string s, .string sep] w fun e w' => e = .returned (.int .i64 (Lib.index s.data.toList sep.data.toList)) ∧ w' = w := Any.bytealg_IndexRabinKarp Try.lays267 s sep h1 h2 hs w
def Try.lays219_ren : Go.Shelf.Ren := ⟨fun | 219 => 54 | 217 => 53 | 225 => 56 | 224 => 57 | 267 => 58 | 266 => 55 | 314 => 59 | n => n, fun | 9 => 9 | 3 => 3 | 4 => 4 | 5 => 5 | 46 => 93 | 146 => 95 | 51 => 94 | n => n, fun | 1 => 0 | n => n⟩
theorem Try.lays219 : Go.Proofs.Lays.n219 Try.prog Try.lays219_ren := {
  mixed := by kernel_rfl
  f217 := Try.func53.trans (congrArg some (by kernel_rfl))
  f219 := Try.func54.trans (congrArg some (by kernel_rfl))
  f224 := Try.func57.trans (congrArg some (by kernel_rfl))
  f225 := Try.func56.trans (congrArg some (by kernel_rfl))
  f266 := Try.func55.trans (congrArg some (by kernel_rfl))
  f267 := Try.func58.trans (congrArg some (by kernel_rfl))
  f314 := Try.func59.trans (congrArg some (by kernel_rfl))
  t3 := Try.underlying3
  a3 := Try.isAgg3
  z3 := Try.sizeOf3
  v3 := Try.zeroValue3
  t4 := Try.underlying4
  a4 := Try.isAgg4
  z4 := Try.sizeOf4
  v4 := Try.zeroValue4
  t5 := Try.underlying5
  a5 := Try.isAgg5
  z5 := Try.sizeOf5
  v5 := Try.zeroValue5
  t9 := Try.underlying9
  a9 := Try.isAgg9
  z9 := Try.sizeOf9
  v9 := Try.zeroValue9
  t46 := Try.underlying93
  a46 := Try.isAgg93
  z46 := Try.sizeOf93
  v46 := Try.zeroValue93
  t51 := Try.underlying94
  a51 := Try.isAgg94
  z51 := Try.sizeOf94
  v51 := Try.zeroValue94
  t146 := Try.underlying95
  a146 := Try.isAgg95
  z146 := Try.sizeOf95
  v146 := Try.zeroValue95
  g1 := by kernel_rfl }
open Go.RowKit Go.Lib in
/-- internal/stringslite.Index (what strings.Index calls) AT A substr OF ONE BYTE c: IT RETURNS 'Lib.indexByte s c'; the world is as it was. (LAID: no walk: one application.) -/
theorem Try.stringslite_Index_one (s : ByteArray) (c : UInt8) (w : World) :
    Calls Try.prog 54 #[.string s, .string ⟨#[c]⟩] w fun e w' => e = .returned (.int .i64 (Lib.indexByte s.data.toList c)) ∧ w' = w := Any.stringslite_Index_one Try.lays219 s c w
open Go.RowKit Go.Lib in
/-- internal/stringslite.Index (what strings.Index calls) AT A substr OF WHATEVER LENGTH: IT RETURNS 'Lib.index s substr'; the world is as it was. 'm': what internal/bytealg.MaxLen holds: whatever. (LAID: no walk: one application.) -/
theorem Try.stringslite_Index (s sub : ByteArray) (m : Int) (w : World) (hs : s.size < 4294967281) (hm : w.cell? ⟨0, 0, none⟩ = some (.int .i64 m)) :
    Calls Try.prog 54 #[.string s, .string sub] w fun e w' => e = .returned (.int .i64 (Lib.index s.data.toList sub.data.toList)) ∧ w' = w := Any.stringslite_Index Try.lays219 s sub m w hs hm
def Try.lays220_ren : Go.Shelf.Ren := ⟨fun | 220 => 52 | 219 => 54 | 217 => 53 | 225 => 56 | 224 => 57 | 267 => 58 | 266 => 55 | 314 => 59 | n => n, fun | 9 => 9 | 4 => 4 | 3 => 3 | 5 => 5 | 46 => 93 | 146 => 95 | 51 => 94 | n => n, fun | 1 => 0 | n => n⟩
theorem Try.lays220 : Go.Proofs.Lays.n220 Try.prog Try.lays220_ren := {
  mixed := by kernel_rfl
  f217 := Try.func53.trans (congrArg some (by kernel_rfl))
  f219 := Try.func54.trans (congrArg some (by kernel_rfl))
  f220 := Try.func52.trans (congrArg some (by kernel_rfl))
  f224 := Try.func57.trans (congrArg some (by kernel_rfl))
  f225 := Try.func56.trans (congrArg some (by kernel_rfl))
  f266 := Try.func55.trans (congrArg some (by kernel_rfl))
  f267 := Try.func58.trans (congrArg some (by kernel_rfl))
  f314 := Try.func59.trans (congrArg some (by kernel_rfl))
  t3 := Try.underlying3
  a3 := Try.isAgg3
  z3 := Try.sizeOf3
  v3 := Try.zeroValue3
  t4 := Try.underlying4
  a4 := Try.isAgg4
  z4 := Try.sizeOf4
  v4 := Try.zeroValue4
  t5 := Try.underlying5
  a5 := Try.isAgg5
  z5 := Try.sizeOf5
  v5 := Try.zeroValue5
  t9 := Try.underlying9
  a9 := Try.isAgg9
  z9 := Try.sizeOf9
  v9 := Try.zeroValue9
  t46 := Try.underlying93
  a46 := Try.isAgg93
  z46 := Try.sizeOf93
  v46 := Try.zeroValue93
  t51 := Try.underlying94
  a51 := Try.isAgg94
  z51 := Try.sizeOf94
  v51 := Try.zeroValue94
  t146 := Try.underlying95
  a146 := Try.isAgg95
  z146 := Try.sizeOf95
  v146 := Try.zeroValue95
  g1 := by kernel_rfl }
open Go.RowKit Go.Lib in
/-- internal/stringslite.Cut (what strings.Cut calls): IT RETURNS 'Lib.cut s sep'; the world is as it was but for the count of draws. (LAID: no walk: one application.) -/
theorem Try.stringslite_Cut (s sep : ByteArray) (m : Int) (w : World) (hs : s.size < 4294967281) (hm : w.cell? ⟨0, 0, none⟩ = some (.int .i64 m)) :
    Calls Try.prog 52 #[.string s, .string sep] w fun e w' => e = .returned (.tuple #[.string ⟨(Lib.cut s.data.toList sep.data.toList).1.toArray⟩, .string ⟨(Lib.cut s.data.toList sep.data.toList).2.1.toArray⟩, .bool (Lib.cut s.data.toList sep.data.toList).2.2]) ∧ ∃ n, w' = w.drewN n := Any.stringslite_Cut Try.lays220 s sep m w hs hm
def Try.lays145_ren : Go.Shelf.Ren := ⟨fun | 145 => 49 | 220 => 52 | 219 => 54 | 217 => 53 | 225 => 56 | 224 => 57 | 267 => 58 | 266 => 55 | 314 => 59 | n => n, fun | 9 => 9 | 4 => 4 | 59 => 87 | 3 => 3 | 5 => 5 | 46 => 93 | 146 => 95 | 51 => 94 | n => n, fun | 1 => 0 | n => n⟩
theorem Try.lays145 : Go.Proofs.Lays.n145 Try.prog Try.lays145_ren := {
  mixed := by kernel_rfl
  f145 := Try.func49.trans (congrArg some (by kernel_rfl))
  f217 := Try.func53.trans (congrArg some (by kernel_rfl))
  f219 := Try.func54.trans (congrArg some (by kernel_rfl))
  f220 := Try.func52.trans (congrArg some (by kernel_rfl))
  f224 := Try.func57.trans (congrArg some (by kernel_rfl))
  f225 := Try.func56.trans (congrArg some (by kernel_rfl))
  f266 := Try.func55.trans (congrArg some (by kernel_rfl))
  f267 := Try.func58.trans (congrArg some (by kernel_rfl))
  f314 := Try.func59.trans (congrArg some (by kernel_rfl))
  t3 := Try.underlying3
  a3 := Try.isAgg3
  z3 := Try.sizeOf3
  v3 := Try.zeroValue3
  t4 := Try.underlying4
  a4 := Try.isAgg4
  z4 := Try.sizeOf4
  v4 := Try.zeroValue4
  t5 := Try.underlying5
  a5 := Try.isAgg5
  z5 := Try.sizeOf5
  v5 := Try.zeroValue5
  t9 := Try.underlying9
  a9 := Try.isAgg9
  z9 := Try.sizeOf9
  v9 := Try.zeroValue9
  t46 := Try.underlying93
  a46 := Try.isAgg93
  z46 := Try.sizeOf93
  v46 := Try.zeroValue93
  t51 := Try.underlying94
  a51 := Try.isAgg94
  z51 := Try.sizeOf94
  v51 := Try.zeroValue94
  t59 := Try.underlying87
  a59 := Try.isAgg87
  z59 := Try.sizeOf87
  v59 := Try.zeroValue87
  t146 := Try.underlying95
  a146 := Try.isAgg95
  z146 := Try.sizeOf95
  v146 := Try.zeroValue95
  g1 := by kernel_rfl }
open Go.RowKit Go.Lib in
/-- strings.Cut: "Cut slices s around the first instance of sep, returning the text before and after sep. The found result reports whether sep appears in s. If sep does not appear in s, cut returns s, "", false.": IT RETURNS 'Lib.cut s sep'; the world is as it was but for the count of draws. (LAID: no walk: one application.) -/
theorem Try.strings_Cut (s sep : ByteArray) (m : Int) (w : World) (hs : s.size < 4294967281) (hm : w.cell? ⟨0, 0, none⟩ = some (.int .i64 m)) :
    Calls Try.prog 49 #[.string s, .string sep] w fun e w' => e = .returned (.tuple #[.string ⟨(Lib.cut s.data.toList sep.data.toList).1.toArray⟩, .string ⟨(Lib.cut s.data.toList sep.data.toList).2.1.toArray⟩, .bool (Lib.cut s.data.toList sep.data.toList).2.2]) ∧ ∃ n, w' = w.drewN n := Any.strings_Cut Try.lays145 s sep m w hs hm
def Try.laysM219_ren : Go.Shelf.Ren := ⟨fun | 219 => 54 | 217 => 53 | 225 => 56 | 224 => 57 | 267 => 58 | 266 => 55 | 314 => 59 | n => n, fun | 9 => 9 | 3 => 3 | 4 => 4 | 5 => 5 | 46 => 93 | 146 => 95 | 51 => 94 | n => n, fun | 1 => 0 | n => n⟩
theorem Try.laysM219 : Go.Proofs.LaysM.n219 Try.prog Try.laysM219_ren := {
  mixed := by kernel_rfl
  f217 := Try.func53.trans (congrArg some (by kernel_rfl))
  f219 := Try.func54.trans (congrArg some (by kernel_rfl))
  f224 := Try.func57.trans (congrArg some (by kernel_rfl))
  f225 := Try.func56.trans (congrArg some (by kernel_rfl))
  f266 := Try.func55.trans (congrArg some (by kernel_rfl))
  f267 := Try.func58.trans (congrArg some (by kernel_rfl))
  f314 := Try.func59.trans (congrArg some (by kernel_rfl))
  t3 := Try.underlying3
  a3 := Try.isAgg3
  z3 := Try.sizeOf3
  v3 := Try.zeroValue3
  t4 := Try.underlying4
  a4 := Try.isAgg4
  z4 := Try.sizeOf4
  v4 := Try.zeroValue4
  t5 := Try.underlying5
  a5 := Try.isAgg5
  z5 := Try.sizeOf5
  v5 := Try.zeroValue5
  t9 := Try.underlying9
  a9 := Try.isAgg9
  z9 := Try.sizeOf9
  v9 := Try.zeroValue9
  t46 := Try.underlying93
  a46 := Try.isAgg93
  z46 := Try.sizeOf93
  v46 := Try.zeroValue93
  t51 := Try.underlying94
  a51 := Try.isAgg94
  z51 := Try.sizeOf94
  v51 := Try.zeroValue94
  t146 := Try.underlying95
  a146 := Try.isAgg95
  z146 := Try.sizeOf95
  v146 := Try.zeroValue95
  g1 := by kernel_rfl
  i3 := by kernel_rfl
  i4 := by kernel_rfl
  i5 := by kernel_rfl
  i9 := by kernel_rfl
  i46 := by kernel_rfl
  i51 := by kernel_rfl
  i146 := by kernel_rfl
  m1 := by kernel_rfl
  s1_3 := fun w h => Go.Proofs.cell_of_shapedOpen_int (zero := #[.int .i64 0]) (t := 3) h (of_decide_eq_true (by kernel_rfl)) (by kernel_rfl) rfl (by kernel_rfl) (by kernel_rfl) Try.underlying3 }
open Go.RowKit Go.Lib in
theorem Try.stringslite_Index_shaped (s sub : ByteArray) (w : World) (h : w.ShapedOpen Try.prog) (hs : s.size < 4294967281) :
    Calls Try.prog 54 #[.string s, .string sub] w fun e w' => e = .returned (.int .i64 (Lib.index s.data.toList sub.data.toList)) ∧ w' = w := Any.stringslite_Index_shaped Try.laysM219 s sub w h hs
def Try.laysM220_ren : Go.Shelf.Ren := ⟨fun | 220 => 52 | 219 => 54 | 217 => 53 | 225 => 56 | 224 => 57 | 267 => 58 | 266 => 55 | 314 => 59 | n => n, fun | 9 => 9 | 4 => 4 | 3 => 3 | 5 => 5 | 46 => 93 | 146 => 95 | 51 => 94 | n => n, fun | 1 => 0 | n => n⟩
theorem Try.laysM220 : Go.Proofs.LaysM.n220 Try.prog Try.laysM220_ren := {
  mixed := by kernel_rfl
  f217 := Try.func53.trans (congrArg some (by kernel_rfl))
  f219 := Try.func54.trans (congrArg some (by kernel_rfl))
  f220 := Try.func52.trans (congrArg some (by kernel_rfl))
  f224 := Try.func57.trans (congrArg some (by kernel_rfl))
  f225 := Try.func56.trans (congrArg some (by kernel_rfl))
  f266 := Try.func55.trans (congrArg some (by kernel_rfl))
  f267 := Try.func58.trans (congrArg some (by kernel_rfl))
  f314 := Try.func59.trans (congrArg some (by kernel_rfl))
  t3 := Try.underlying3
  a3 := Try.isAgg3
  z3 := Try.sizeOf3
  v3 := Try.zeroValue3
  t4 := Try.underlying4
  a4 := Try.isAgg4
  z4 := Try.sizeOf4
  v4 := Try.zeroValue4
  t5 := Try.underlying5
  a5 := Try.isAgg5
  z5 := Try.sizeOf5
  v5 := Try.zeroValue5
  t9 := Try.underlying9
  a9 := Try.isAgg9
  z9 := Try.sizeOf9
  v9 := Try.zeroValue9
  t46 := Try.underlying93
  a46 := Try.isAgg93
  z46 := Try.sizeOf93
  v46 := Try.zeroValue93
  t51 := Try.underlying94
  a51 := Try.isAgg94
  z51 := Try.sizeOf94
  v51 := Try.zeroValue94
  t146 := Try.underlying95
  a146 := Try.isAgg95
  z146 := Try.sizeOf95
  v146 := Try.zeroValue95
  g1 := by kernel_rfl
  i3 := by kernel_rfl
  i4 := by kernel_rfl
  i5 := by kernel_rfl
  i9 := by kernel_rfl
  i46 := by kernel_rfl
  i51 := by kernel_rfl
  i146 := by kernel_rfl
  m1 := by kernel_rfl
  s1_3 := fun w h => Go.Proofs.cell_of_shapedOpen_int (zero := #[.int .i64 0]) (t := 3) h (of_decide_eq_true (by kernel_rfl)) (by kernel_rfl) rfl (by kernel_rfl) (by kernel_rfl) Try.underlying3 }
open Go.RowKit Go.Lib in
theorem Try.stringslite_Cut_shaped (s sep : ByteArray) (w : World) (h : w.ShapedOpen Try.prog) (hs : s.size < 4294967281) :
    Calls Try.prog 52 #[.string s, .string sep] w fun e w' => e = .returned (.tuple #[.string ⟨(Lib.cut s.data.toList sep.data.toList).1.toArray⟩, .string ⟨(Lib.cut s.data.toList sep.data.toList).2.1.toArray⟩, .bool (Lib.cut s.data.toList sep.data.toList).2.2]) ∧ ∃ n, w' = w.drewN n := Any.stringslite_Cut_shaped Try.laysM220 s sep w h hs
def Try.laysM145_ren : Go.Shelf.Ren := ⟨fun | 145 => 49 | 220 => 52 | 219 => 54 | 217 => 53 | 225 => 56 | 224 => 57 | 267 => 58 | 266 => 55 | 314 => 59 | n => n, fun | 9 => 9 | 4 => 4 | 59 => 87 | 3 => 3 | 5 => 5 | 46 => 93 | 146 => 95 | 51 => 94 | n => n, fun | 1 => 0 | n => n⟩
theorem Try.laysM145 : Go.Proofs.LaysM.n145 Try.prog Try.laysM145_ren := {
  mixed := by kernel_rfl
  f145 := Try.func49.trans (congrArg some (by kernel_rfl))
  f217 := Try.func53.trans (congrArg some (by kernel_rfl))
  f219 := Try.func54.trans (congrArg some (by kernel_rfl))
  f220 := Try.func52.trans (congrArg some (by kernel_rfl))
  f224 := Try.func57.trans (congrArg some (by kernel_rfl))
  f225 := Try.func56.trans (congrArg some (by kernel_rfl))
  f266 := Try.func55.trans (congrArg some (by kernel_rfl))
  f267 := Try.func58.trans (congrArg some (by kernel_rfl))
  f314 := Try.func59.trans (congrArg some (by kernel_rfl))
  t3 := Try.underlying3
  a3 := Try.isAgg3
  z3 := Try.sizeOf3
  v3 := Try.zeroValue3
  t4 := Try.underlying4
  a4 := Try.isAgg4
  z4 := Try.sizeOf4
  v4 := Try.zeroValue4
  t5 := Try.underlying5
  a5 := Try.isAgg5
  z5 := Try.sizeOf5
  v5 := Try.zeroValue5
  t9 := Try.underlying9
  a9 := Try.isAgg9
  z9 := Try.sizeOf9
  v9 := Try.zeroValue9
  t46 := Try.underlying93
  a46 := Try.isAgg93
  z46 := Try.sizeOf93
  v46 := Try.zeroValue93
  t51 := Try.underlying94
  a51 := Try.isAgg94
  z51 := Try.sizeOf94
  v51 := Try.zeroValue94
  t59 := Try.underlying87
  a59 := Try.isAgg87
  z59 := Try.sizeOf87
  v59 := Try.zeroValue87
  t146 := Try.underlying95
  a146 := Try.isAgg95
  z146 := Try.sizeOf95
  v146 := Try.zeroValue95
  g1 := by kernel_rfl
  i3 := by kernel_rfl
  i4 := by kernel_rfl
  i5 := by kernel_rfl
  i9 := by kernel_rfl
  i46 := by kernel_rfl
  i51 := by kernel_rfl
  i59 := by kernel_rfl
  i146 := by kernel_rfl
  m1 := by kernel_rfl
  s1_3 := fun w h => Go.Proofs.cell_of_shapedOpen_int (zero := #[.int .i64 0]) (t := 3) h (of_decide_eq_true (by kernel_rfl)) (by kernel_rfl) rfl (by kernel_rfl) (by kernel_rfl) Try.underlying3 }
open Go.RowKit Go.Lib in
theorem Try.strings_Cut_shaped (s sep : ByteArray) (w : World) (h : w.ShapedOpen Try.prog) (hs : s.size < 4294967281) :
    Calls Try.prog 49 #[.string s, .string sep] w fun e w' => e = .returned (.tuple #[.string ⟨(Lib.cut s.data.toList sep.data.toList).1.toArray⟩, .string ⟨(Lib.cut s.data.toList sep.data.toList).2.1.toArray⟩, .bool (Lib.cut s.data.toList sep.data.toList).2.2]) ∧ ∃ n, w' = w.drewN n := Any.strings_Cut_shaped Try.laysM145 s sep w h hs
def Try.lays206_ren : Go.Shelf.Ren := ⟨fun | 206 => 51 | n => n, fun | 9 => 9 | 4 => 4 | 3 => 3 | n => n, fun | n => n⟩
theorem Try.lays206 : Go.Proofs.Lays.n206 Try.prog Try.lays206_ren := {
  mixed := by kernel_rfl
  f206 := Try.func51.trans (congrArg some (by kernel_rfl))
  t3 := Try.underlying3
  a3 := Try.isAgg3
  z3 := Try.sizeOf3
  v3 := Try.zeroValue3
  t4 := Try.underlying4
  a4 := Try.isAgg4
  z4 := Try.sizeOf4
  v4 := Try.zeroValue4
  t9 := Try.underlying9
  a9 := Try.isAgg9
  z9 := Try.sizeOf9
  v9 := Try.zeroValue9 }
open Go.RowKit Go.Lib in
/-- internal/stringslite.HasPrefix (what strings.HasPrefix calls). (LAID: no walk: one application.) -/
theorem Try.stringslite_HasPrefix (s p : ByteArray) (w : World) :
    Calls Try.prog 51 #[.string s, .string p] w fun e w' => e = .returned (.bool (Lib.hasPrefix s.data.toList p.data.toList)) ∧ w' = w := Any.stringslite_HasPrefix Try.lays206 s p w
def Try.lays115_ren : Go.Shelf.Ren := ⟨fun | 115 => 36 | n => n, fun | 37 => 33 | 4 => 4 | 9 => 9 | 5 => 5 | n => n, fun | n => n⟩
theorem Try.lays115 : Go.Proofs.Lays.n115 Try.prog Try.lays115_ren := {
  mixed := by kernel_rfl
  f115 := Try.func36.trans (congrArg some (by kernel_rfl))
  t4 := Try.underlying4
  a4 := Try.isAgg4
  z4 := Try.sizeOf4
  v4 := Try.zeroValue4
  t9 := Try.underlying9
  a9 := Try.isAgg9
  z9 := Try.sizeOf9
  v9 := Try.zeroValue9
  t37 := Try.underlying33
  a37 := Try.isAgg33
  z37 := Try.sizeOf33
  v37 := Try.zeroValue33 }
open Go.Proofs Go.RowKit Go.Lib in
/-- bytes.Equal, each argument with what 'string(..)' of it gives. (LAID: no walk: one application.) -/
theorem Try.bytes_Equal_strs (v1 v2 : Value) (t1 t2 : ByteArray) (w : World) (h1 : (convert 33 9 v1).run Try.prog w = .ok (.string t1) w) (h2 : (convert 33 9 v2).run Try.prog w = .ok (.string t2) w) :
    Calls Try.prog 36 #[v1, v2] w fun e w' => e = .returned (.bool (t1.toList == t2.toList)) ∧ w' = w := Any.bytes_Equal_strs Try.lays115 v1 v2 t1 t2 w h1 h2
def Try.laysnb115_ren : Go.Shelf.Ren := ⟨fun | 115 => 36 | n => n, fun | 37 => 33 | 4 => 4 | 9 => 9 | 5 => 5 | n => n, fun | n => n⟩
theorem Try.laysnb115 : Go.Proofs.Lays.nb115 Try.prog Try.laysnb115_ren := {
  mixed := by kernel_rfl
  f115 := Try.func36.trans (congrArg some (by kernel_rfl))
  t4 := Try.underlying4
  a4 := Try.isAgg4
  z4 := Try.sizeOf4
  v4 := Try.zeroValue4
  t9 := Try.underlying9
  a9 := Try.isAgg9
  z9 := Try.sizeOf9
  v9 := Try.zeroValue9
  t37 := Try.underlying33
  a37 := Try.isAgg33
  z37 := Try.sizeOf33
  v37 := Try.zeroValue33
  t5 := Try.underlying5
  a5 := Try.isAgg5
  z5 := Try.sizeOf5
  v5 := Try.zeroValue5 }
/-- bytes.Equal: WHOLE. (LAID: no walk: one application.) -/
theorem Try.bytes_Equal_all (p1 p2 : Option Addr) (n c m d : Nat) (xs ys : List Int) (w : World) (hx : xs.length = n) (hy : ys.length = m) (h1 : Lib.BytesIn w p1 n xs) (h2 : Lib.BytesIn w p2 m ys) :
    Calls Try.prog 36 #[.slice p1 n c, .slice p2 m d] w fun e w' => e = .returned (.bool (Lib.bytesOf xs == Lib.bytesOf ys)) ∧ w' = w := Any.bytes_Equal_all Try.laysnb115 p1 p2 n c m d xs ys w hx hy h1 h2
/-- bytes.Equal: "Equal reports whether a and b are the same length and contain the same bytes. A nil argument is equivalent to an empty slice.": IT RETURNS 'the bytes of the one == the bytes of the other'; the world is as it was. THE TWO ARGUMENTS COME AS WHATEVER VALUES, each with the one fact that the walk wants of it: what 'string(..)' of it gives: for a slice whose cells you know: 'run_convert_bytes_arg' (Derived/Laws/BytesArg.lean) hands that fact; for a nil one: 'run_convert_bytes_nil' (with xs := []). (LAID: no walk: one application.) -/
theorem Try.bytes_Equal (v1 v2 : Value) (xs ys : List Int) (w : World) (h1 : (convert 33 9 v1).run Try.prog w = .ok (.string (strOfNums xs)) w) (h2 : (convert 33 9 v2).run Try.prog w = .ok (.string (strOfNums ys)) w) :
    Calls Try.prog 36 #[v1, v2] w fun e w' => e = .returned (.bool (Lib.bytesOf xs == Lib.bytesOf ys)) ∧ w' = w := Any.bytes_Equal Try.lays115 v1 v2 xs ys w h1 h2
end Go.Proofs
namespace Go.Proofs.Ytnmlmbbacicojaa
set_option linter.unusedVariables false
set_option linter.unusedSimpArgs false
open Go.RowKit

def slash : ByteArray := ⟨#[47]⟩
theorem cut_c (s : ByteArray) (w : World) (hs : s.size ≤ 140737488355328) :
    Calls Try.prog 52 #[.string s, .string ⟨#[47]⟩] w fun e w' => ∃ a b f, e = .returned (.tuple #[.string (bs a), .string (bs b), .bool f]) ∧ (∃ n, w' = w.drewN n) ∧
      ((f = false ∧ a = s.data.toList ∧ b = [] ∧ (47 : UInt8) ∉ a) ∨ (f = true ∧ s.data.toList = a ++ 47 :: b ∧ (47 : UInt8) ∉ a)) := by
  rcases idx_cases s.data.toList 47 with ⟨h1, h2⟩ | ⟨a, b, hab, h2, h3⟩
  · have E := hide h1
    clear h1
    go_enter Try.func52, Try.ntmps52
    go_wp2_with (go_at_call 54; refine (Try.stringslite_Index_one s 47 _).mono ?_; rintro e w' ⟨rfl, rfl⟩; rw [E.out])
    go_ret3
    exact ⟨s.data.toList, [], false, by rw [bs_of]; rfl, ⟨0, rfl⟩, .inl ⟨rfl, rfl, rfl, h2⟩⟩
  · have E := hide h3
    have hl : s.size = a.length + (b.length + 1) := by rw [size_toList, hab]; simp
    have HA := hide (show s.extract 0 a.length = bs a from ba_ext (by rw [Lib.extract_data, hab]; simp))
    have HB := hide (show s.extract (a.length + 1) s.size = bs b from ba_ext (by rw [Lib.extract_to_end, hab]; simp))
    have HX := hide hab
    clear h3 hab
    have c1 : (0 : Int) ≤ ↑a.length := by omega
    have c2 : (↑a.length : Int) ≤ ↑s.size := by omega
    have c3 : (0 : Int) ≤ ↑a.length + 1 := by omega
    have c4 : (↑a.length + 1 : Int) ≤ ↑s.size := by omega
    clear hl
    go_enter Try.func52, Try.ntmps52
    go_wp2_with (go_at_call 54; refine (Try.stringslite_Index_one s 47 _).mono ?_; rintro e w' ⟨rfl, rfl⟩; rw [E.out])
    go_quiet (fail)
    go_wp2
    go_ret3
    exact ⟨a, b, true, by first | rfl | (simp [HA.out, HB.out]), ⟨_, rfl⟩, .inr ⟨rfl, HX.out, h2⟩⟩
/-- strings.Cut at a slash -/
theorem strCut_c (s : ByteArray) (w : World) (hs : s.size ≤ 140737488355328) :
    Calls Try.prog 49 #[.string s, .string ⟨#[47]⟩] w fun e w' => ∃ a b f, e = .returned (.tuple #[.string (bs a), .string (bs b), .bool f]) ∧ (∃ n, w' = w.drewN n) ∧
      ((f = false ∧ a = s.data.toList ∧ b = [] ∧ (47 : UInt8) ∉ a) ∨ (f = true ∧ s.data.toList = a ++ 47 :: b ∧ (47 : UInt8) ∉ a)) := by
  go_enter Try.func49, Try.ntmps49
  go_wp2_with (go_at_call 52; refine (cut_c s _ hs).mono ?_; rintro e w' ⟨a, b, f, rfl, ⟨n, rfl⟩, hc⟩; have HC := hide hc; clear hc)
  go_ret3
  exact ⟨a, b, f, rfl, ⟨_, rfl⟩, HC.out⟩
theorem nameL_nil {l : Bytes8} (h : l = []) : nameL l = false := by subst h; rfl
theorem nameL_long {l : Bytes8} (h : 27 < l.length) : nameL l = false := by
  have : ¬ l.length ≤ 27 := by omega
  simp [nameL, this]
theorem nameL_mid {l : Bytes8} (h0 : l ≠ []) (h : l.length ≤ 27) : nameL l = (!(l.contains 0) && !(l.contains 47)) := by
  have : l.isEmpty = false := by simpa using h0
  simp [nameL, this, h]
theorem name_c (s : ByteArray) (w : World) :
    Calls Try.prog 41 #[.string s] w fun e w' => e = .returned (.bool (nameL s.data.toList)) ∧ w = w' := by
  have E0 := hide (idx_neg s.data.toList 0)
  have E1 := hide (idx_neg s.data.toList 47)
  have hsz := size_toList s
  by_cases h0 : s.data.toList = []
  · have F := hide (nameL_nil h0)
    have e0 : s.toList.isEmpty = true := by rw [ByteArray.toList_eq, h0]; rfl
    have e1 : s.toList = [] := by rw [ByteArray.toList_eq, h0]
    clear h0 hsz
    go_enter Try.func41, Try.ntmps41
    go_wp2
    go_ret
    exact ⟨by rw [F.out]; simp, rfl⟩
  · have e0 : s.toList.isEmpty = false := by rw [ByteArray.toList_eq]; simpa using h0
    by_cases h1 : 27 < s.data.toList.length
    · have F := hide (nameL_long h1)
      have h1' : (27 : Int) < (s.size : Int) := by omega
      clear h0 hsz h1
      go_enter Try.func41, Try.ntmps41
      go_wp2
      go_ret
      exact ⟨by rw [F.out]; simp, rfl⟩
    · have F := hide (nameL_mid h0 (by omega))
      have h1' : (s.size : Int) ≤ (27 : Int) := by omega
      clear h0 hsz h1
      obtain ⟨i0, hi0⟩ : ∃ i, Lib.indexByte s.data.toList 0 = i := ⟨_, rfl⟩
      obtain ⟨i1, hi1⟩ : ∃ i, Lib.indexByte s.data.toList 47 = i := ⟨_, rfl⟩
      have I0 := hide (show Lib.indexByte s.data.toList ((0 : Int).toNat.toUInt8) = i0 from hi0)
      have I1 := hide (show Lib.indexByte s.data.toList ((47 : Int).toNat.toUInt8) = i1 from hi1)
      have E0' := E0.out
      have E1' := E1.out
      rw [hi0] at E0'
      rw [hi1] at E1'
      have G := hide (show (decide (i0 < 0) && decide (i1 < 0)) = (!(s.data.toList.contains 0) && !(s.data.toList.contains 47)) by rw [E0', E1'])
      clear hi0 hi1 E0 E1 E0' E1'
      by_cases a0 : i0 < 0
      · by_cases a1 : i1 < 0
        · go_enter Try.func41, Try.ntmps41
          go_wp2_with (first | (go_at_call_of 50 (Value.int IntKind.u8 0); refine (Try.strings_IndexByte s 0 _).mono ?_; rintro e w' ⟨rfl, rfl⟩; rw [I0.out]) | (go_at_call_of 50 (Value.int IntKind.u8 47); refine (Try.strings_IndexByte s 47 _).mono ?_; rintro e w' ⟨rfl, rfl⟩; rw [I1.out]))
          go_ret
          exact ⟨by rw [F.out, ← G.out]; simp [a0, a1], rfl⟩
        · go_enter Try.func41, Try.ntmps41
          go_wp2_with (first | (go_at_call_of 50 (Value.int IntKind.u8 0); refine (Try.strings_IndexByte s 0 _).mono ?_; rintro e w' ⟨rfl, rfl⟩; rw [I0.out]) | (go_at_call_of 50 (Value.int IntKind.u8 47); refine (Try.strings_IndexByte s 47 _).mono ?_; rintro e w' ⟨rfl, rfl⟩; rw [I1.out]))
          go_ret
          exact ⟨by rw [F.out, ← G.out]; simp only [Ending.returned.injEq, Value.bool.injEq]; first | rfl | (simp; omega), rfl⟩
      · go_enter Try.func41, Try.ntmps41
        go_wp2_with (first | (go_at_call_of 50 (Value.int IntKind.u8 0); refine (Try.strings_IndexByte s 0 _).mono ?_; rintro e w' ⟨rfl, rfl⟩; rw [I0.out]) | (go_at_call_of 50 (Value.int IntKind.u8 47); refine (Try.strings_IndexByte s 47 _).mono ?_; rintro e w' ⟨rfl, rfl⟩; rw [I1.out]))
        go_ret
        exact ⟨by rw [F.out, ← G.out]; simp only [Ending.returned.injEq, Value.bool.injEq]; first | rfl | (simp; omega), rfl⟩
end Go.Proofs.Ytnmlmbbacicojaa
namespace Go.Proofs.Ytnmlmbbacicojaa
set_option linter.unusedVariables false
set_option linter.unusedSimpArgs false
open Go.RowKit Go.Shelf
attribute [local go_sem] Oper.semAt_some

def strs (ps : List Bytes8) : List Value := ps.map fun p => Value.string (bs p)
/-- v owns, from block n₀ on, a row of these strings -/
def OwnS (w : World) (n₀ : Nat) (v : Value) (ps : List Bytes8) : Prop := w.ownsRow n₀ 9 1 v ps.length (strs ps)
theorem info9 : (Try.prog.info? 9).map (fun i => (i.zero, i.size, i.bytes)) = some (some (.string ⟨#[]⟩), 1, 16) := by kernel_rfl

theorem parts_c (s : ByteArray) (w : World) : Calls Try.prog 40 #[.string s] w fun e w' => e = .returned (.func (.func 48) #[] #[.pointer (some ⟨w.heap.size, 0, none⟩)]) ∧ w' = w.alloc (.cells #[.string s] 9) := by
  have hmf : ∀ (fn : Fn) (first cap : Array Value) (w : World), (Instr.makeFunc fn first cap).run Try.prog w = .ok (.func fn first cap) w := fun _ _ _ _ => rfl
  go_enter Try.func40, Try.ntmps40
  go_wp2
  go_ret
  exact ⟨rfl, rfl⟩

theorem cutPrefix_c (s t : ByteArray) (b : Bool) (hp : Lib.hasPrefix s.data.toList [47] = b) (ht : (⟨(Lib.trimPrefix s.data.toList [47]).toArray⟩ : ByteArray) = t) (w : World) :
    Calls Try.prog 39 #[.string s, .string ⟨#[47]⟩] w fun e w' => e = .returned (.tuple #[.string t, .bool b]) ∧ w' = w := by
  have := Try.strings_CutPrefix s ⟨#[47]⟩ w
  subst hp
  subst ht
  exact this
theorem results8 {tmps : Array Value} {w : World} {a b : Addr} {x : Value} {y : Int} (h2 : tmps[2]?.getD undef = .pointer (some a)) (h3 : tmps[3]?.getD undef = .pointer (some b)) (ha : w.cell? a = some x) (hb : w.cell? b = some (.int .i64 y)) :
    (results Try.f26 tmps).run Try.prog w = .ok (.tuple #[x, .int .i64 y]) w := by
  simp [results, Try.results8, go_sem, h2, h3, ha, hb]
theorem name_b (p : Bytes8) (b : Bool) (h : nameL p = b) (w : World) :
    Calls Try.prog 41 #[.string (bs p)] w fun e w' => e = .returned (.bool b) ∧ w = w' := by subst h; exact name_c (bs p) w
theorem partsL_len (l : Bytes8) : (partsL l).length ≤ l.length + 1 := by
  induction l with
  | nil => simp [partsL]
  | cons c l ih =>
    unfold partsL
    split
    · simp; exact ih
    · split
      · simp
      · rename_i q qs hq; rw [hq] at ih; simp at ih ⊢; omega
/-- how long the rest is, while there is one -/
noncomputable def boxLen (B : Nat) (ag : Value) (W : World) : Nat :=
  match ag, W.cell? ⟨B, 0, none⟩ with
  | .bool true, some (.string s) => s.size + 1
  | _, _ => 0
theorem boxLen_true {B : Nat} {W : World} {b : Bytes8} {t : TypeId} (h : Boxed W B t (.string (bs b))) : boxLen B (.bool true) W = b.length + 1 := by
  unfold boxLen; rw [h.cell]; simp [bs_size]
theorem boxLen_false {B : Nat} {W : World} : boxLen B (.bool false) W = 0 := by
  unfold boxLen; cases W.cell? ⟨B, 0, none⟩ <;> rfl
theorem split_none (s : ByteArray) (w : World) (t : ByteArray) (b : Bool) (hs : s.size ≤ 140737488355328) (hp : Lib.hasPrefix s.data.toList [47] = b) (ht : (⟨(Lib.trimPrefix s.data.toList [47]).toArray⟩ : ByteArray) = t) (hb : b = false ∨ 500 < s.size) :
    Calls Try.prog 26 #[.string s] w fun e w' => e = .returned (.tuple #[.slice none 0 0, .int .i64 15]) ∧ Below w.heap.size w w' := by
  have HP := hide hp
  have HT := hide ht
  clear hp ht
  have fin : Below w.heap.size w ((w.alloc (.cells #[.slice none 0 0] 44)).alloc (.cells #[.int .i64 15] 38)) := ((Below.refl _ _).alloc (Nat.le_refl _) _).alloc (by simp) _
  rcases hb with rfl | hb
  · go_enter Try.func26, Try.ntmps26
    go_wp2_with (go_at_call 39; refine (cutPrefix_c s _ _ HP.out HT.out _).mono ?_; rintro e w' ⟨rfl, rfl⟩)
    exact bodyPost_ret (results8 rfl rfl (by simp) (by simp)) rfl ⟨rfl, fin⟩
  · have hb' : (500 : Int) < (s.size : Int) := by omega
    clear hb
    cases b
    · go_enter Try.func26, Try.ntmps26
      go_wp2_with (go_at_call 39; refine (cutPrefix_c s _ _ HP.out HT.out _).mono ?_; rintro e w' ⟨rfl, rfl⟩)
      exact bodyPost_ret (results8 rfl rfl (by simp) (by simp)) rfl ⟨rfl, fin⟩
    · go_enter Try.func26, Try.ntmps26
      go_wp2_with (go_at_call 39; refine (cutPrefix_c s _ _ HP.out HT.out _).mono ?_; rintro e w' ⟨rfl, rfl⟩)
      exact bodyPost_ret (results8 rfl rfl (by simp) (by simp)) rfl ⟨rfl, fin⟩
theorem split_root (s : ByteArray) (w : World) (hs : (s.size : Int) ≤ 500) (hp : Lib.hasPrefix s.data.toList [47] = true) (ht : (⟨(Lib.trimPrefix s.data.toList [47]).toArray⟩ : ByteArray) = ⟨#[]⟩) :
    Calls Try.prog 26 #[.string s] w fun e w' => e = .returned (.tuple #[.slice none 0 0, .int .i64 0]) ∧ Below w.heap.size w w' := by
  have HP := hide hp
  have HT := hide ht
  clear hp ht
  have fin : Below w.heap.size w ((w.alloc (.cells #[.slice none 0 0] 44)).alloc (.cells #[.int .i64 0] 38)) := ((Below.refl _ _).alloc (Nat.le_refl _) _).alloc (by simp) _
  go_enter Try.func26, Try.ntmps26
  go_wp2_with (go_at_call 39; refine (cutPrefix_c s _ _ HP.out HT.out _).mono ?_; rintro e w' ⟨rfl, rfl⟩)
  exact bodyPost_ret (results8 rfl rfl (by simp) (by simp)) rfl ⟨rfl, fin⟩

/-- what the loop over the parts has made: the results' cells, the gathered parts -/
def Common (n : Nat) (w W : World) (done : List Bytes8) : Prop :=
  (∃ v, Boxed W (n + 1 + 1) 44 v ∧ OwnS W (n + 1 + 1 + 1 + 1) v done) ∧ Boxed W n 44 (.slice none 0 0) ∧ Boxed W (n + 1) 38 (.int .i64 0) ∧ Below n w W
def InS (n : Nat) (w : World) (t : Bytes8) (s : List Bytes8 × Bytes8 × Bytes8) (W : World) : Prop :=
  Common n w W s.1 ∧ Boxed W (n + 1 + 1 + 1) 9 (.string (bs s.2.2)) ∧ s.2.1 ∈ partsL t ∧ s.1.length ≤ 500
def JnS (n : Nat) (w : World) (s : List Bytes8 × Bytes8 × Bytes8) (W : World) : Prop :=
  okP s.2.1 = true ∧ Common n w W (s.1 ++ [s.2.1]) ∧ Boxed W (n + 1 + 1 + 1) 9 (.string (bs s.2.2))
def JxS (n : Nat) (w : World) (t : Bytes8) (s : List Bytes8 × Bytes8 × Bytes8) (c : Code) (W : World) : Prop :=
  c = .ret ∧ okP s.2.1 = false ∧ s.2.1 ∈ partsL t ∧ Boxed W n 44 (.slice none 0 0) ∧ Boxed W (n + 1) 38 (.int .i64 15) ∧ Below n w W
def DoneS (n : Nat) (w : World) (t : Bytes8) (W : World) : Prop := (partsL t).all okP = true ∧ Common n w W (partsL t)
theorem Common.turn {n : Nat} {w W : World} {done : List Bytes8} {l : Nat} {o : Obj} (o' : Obj) (h : Common n w W done) (hl : W.heap[l]? = some o) (ho : o.isCells = false) (hn : n ≤ l) : Common n w (W.putObj l o') done := by
  obtain ⟨⟨v, h1, h2⟩, h3, h4, h5⟩ := h
  exact ⟨⟨v, boxed_putLoop _ h1 hl ho, ownsRow_putObj h2 _ hl ho⟩, boxed_putLoop _ h3 hl ho, boxed_putLoop _ h4 hl ho, below_putObj _ h5 hn (Array.getElem?_eq_some_iff.1 hl).1⟩

def SplitPost (t : ByteArray) (w : World) (e : Ending) (w' : World) : Prop := ∃ v, e = .returned (.tuple #[v, .int .i64 (if (partsL t.data.toList).all okP then 0 else 15)]) ∧ OwnS w' w.heap.size v (if (partsL t.data.toList).all okP then partsL t.data.toList else []) ∧ Below w.heap.size w w'
theorem own_base {w : World} {base base' : Nat} {e : TypeId} {size n : Nat} {v : Value} {xs : List Value} (h : w.ownsRow base e size v n xs) (hb : base' ≤ base) : w.ownsRow base' e size v n xs := by
  refine ⟨h.1, h.2.imp id ?_⟩
  rintro ⟨g, cap, cur, h1, h2, h3⟩
  exact ⟨g, cap, cur, h1, Nat.le_trans hb h2, h3⟩
abbrev CutFact (b a b' : Bytes8) (f : Bool) : Prop := (f = false ∧ a = (bs b).data.toList ∧ b' = [] ∧ (47 : UInt8) ∉ a) ∨ (f = true ∧ (bs b).data.toList = a ++ 47 :: b' ∧ (47 : UInt8) ∉ a)
theorem parts_of {b a b' : Bytes8} {f : Bool} (h : CutFact b a b' f) : (f = false ∧ partsL b = [a]) ∨ (f = true ∧ partsL b = a :: partsL b') := by
  rcases h with ⟨h1, h2, _, h4⟩ | ⟨h1, h2, h3⟩
  · rw [bs_data] at h2; subst h2; exact .inl ⟨h1, partsL_one h4⟩
  · rw [bs_data] at h2; exact .inr ⟨h1, by rw [h2]; exact partsL_cut h3⟩
theorem mem_of {l : Bytes8} {done : List Bytes8} {b a b' : Bytes8} {f : Bool} (h : partsL l = done ++ partsL b) (k : CutFact b a b' f) : a ∈ partsL l := by
  rw [h]; rcases parts_of k with ⟨_, e⟩ | ⟨_, e⟩ <;> rw [e] <;> simp
theorem len_of {l : Bytes8} {done : List Bytes8} {b : Bytes8} (h : partsL l = done ++ partsL b) (hl : l.length ≤ 500) : done.length ≤ 500 := by
  have h1 := partsL_len l
  rw [h, List.length_append] at h1
  have h2 : 0 < (partsL b).length := List.length_pos_iff.2 (partsL_ne b)
  omega
theorem step_of {l : Bytes8} {done : List Bytes8} {b a b' : Bytes8} {f : Bool} (h : partsL l = done ++ partsL b) (hd : done.all okP = true) (ha : okP a = true) (k : CutFact b a b' f) :
    (f = true → partsL l = (done ++ [a]) ++ partsL b') ∧ (f = false → partsL l = done ++ [a]) ∧ (done ++ [a]).all okP = true := by
  refine ⟨fun e => ?_, fun e => ?_, by simp [ha]; simpa using hd⟩
  · rcases parts_of k with ⟨e1, _⟩ | ⟨_, e2⟩
    · rw [e] at e1; cases e1
    · rw [h, e2]; simp
  · rcases parts_of k with ⟨_, e2⟩ | ⟨e1, _⟩
    · rw [h, e2]
    · rw [e] at e1; cases e1
theorem rest_of {b a b' : Bytes8} {f : Bool} (k : CutFact b a b' f) (h : b.length ≤ 500) : b'.length ≤ 500 := by
  rcases k with ⟨_, _, e, _⟩ | ⟨_, e, _⟩
  · subst e; simp
  · rw [bs_data] at e; rw [e] at h; simp at h; omega
theorem meas_of {B : Nat} {W W' : World} {b a b' : Bytes8} {f : Bool} {t : TypeId} (h : Boxed W B t (.string (bs b))) (h' : Boxed W' B t (.string (bs b'))) (k : CutFact b a b' f) :
    boxLen B (.bool f) W' < boxLen B (.bool true) W := by
  rw [boxLen_true h]
  rcases k with ⟨rfl, _⟩ | ⟨rfl, e, _⟩
  · rw [boxLen_false]; omega
  · rw [boxLen_true h']; rw [bs_data] at e; rw [e]; simp; omega
theorem Common.box3 {n : Nat} {w W : World} {done : List Bytes8} (h : Common n w W done) (k : Nat) (u : Value) : Common n w ((W.drewN k).setCell ⟨n + 1 + 1 + 1, 0, none⟩ u) done := by
  obtain ⟨⟨v, h1, h2⟩, h3, h4, h5⟩ := h
  have hb : Below n w (W.drewN k) := ⟨h5.os, h5.tape, h5.output, h5.size, h5.block⟩
  exact ⟨⟨v, boxed_other _ (show Boxed (W.drewN k) _ _ _ from h1) (by simp), ownsRow_far (show (W.drewN k).ownsRow _ _ _ _ _ _ from h2) (by simp) _⟩, boxed_other _ (show Boxed (W.drewN k) _ _ _ from h3) (by simp; try omega), boxed_other _ (show Boxed (W.drewN k) _ _ _ from h4) (by simp), hb.setCell (p := ⟨n + 1 + 1 + 1, 0, none⟩) (by simp; omega) _⟩
set_option maxHeartbeats 1000000 in
set_option maxRecDepth 100000 in
theorem split_main (s t : ByteArray) (w : World) (hs : (s.size : Int) ≤ 500) (hts : t.size ≤ 500) (hp : Lib.hasPrefix s.data.toList [47] = true) (ht : (⟨(Lib.trimPrefix s.data.toList [47]).toArray⟩ : ByteArray) = t) (hne : t.data.toList ≠ []) :
    Calls Try.prog 26 #[.string s] w (SplitPost t w) := by
  have HP := hide hp
  have HT := hide ht
  have e0 : t.toList.isEmpty = false := by rw [ByteArray.toList_eq]; simpa using hne
  clear hp ht hne
  refine (callsIn_wide (n := 0)).1 ?_
  refine callsIn_of_wp_marks Try.func26 rfl trivial ?_
  simp only [Try.ntmps26, List.size_toArray, List.length_cons, List.length_nil, Nat.reduceAdd, Nat.reduceSub, Array.replicate_succ, Array.replicate_zero, List.push_toArray, List.append_toArray, List.nil_append, List.cons_append]
  gi_wp2_with (first | (with_reducible refine wide_calls ?_; go_at_call 39; refine (cutPrefix_c s _ _ HP.out HT.out _).mono ?_; rintro e w' ⟨rfl, rfl⟩) | (with_reducible refine wide_calls ?_; go_at_call 40; refine (parts_c t _).mono ?_; rintro e w' ⟨rfl, rfl⟩))
  have bx0 : Boxed ((((w.alloc (.cells #[.slice none 0 0] 44)).alloc (.cells #[.int .i64 0] 38)).alloc (.cells #[.slice none 0 0] 44)).alloc (.cells #[.string t] 9)) w.heap.size 44 (.slice none 0 0) := (((Boxed.new w 44 _).alloc _).alloc _).alloc _
  have bx1 : Boxed ((((w.alloc (.cells #[.slice none 0 0] 44)).alloc (.cells #[.int .i64 0] 38)).alloc (.cells #[.slice none 0 0] 44)).alloc (.cells #[.string t] 9)) (w.heap.size + 1) 38 (.int .i64 0) := by
    have := Boxed.new (w.alloc (.cells #[.slice none 0 0] 44)) 38 (.int .i64 0)
    rw [World.size_alloc] at this
    exact (this.alloc _).alloc _
  have bx2 : Boxed ((((w.alloc (.cells #[.slice none 0 0] 44)).alloc (.cells #[.int .i64 0] 38)).alloc (.cells #[.slice none 0 0] 44)).alloc (.cells #[.string t] 9)) (w.heap.size + 1 + 1) 44 (.slice none 0 0) := by
    have := Boxed.new ((w.alloc (.cells #[.slice none 0 0] 44)).alloc (.cells #[.int .i64 0] 38)) 44 (.slice none 0 0)
    rw [World.size_alloc, World.size_alloc] at this
    exact this.alloc _
  have bx3 : Boxed ((((w.alloc (.cells #[.slice none 0 0] 44)).alloc (.cells #[.int .i64 0] 38)).alloc (.cells #[.slice none 0 0] 44)).alloc (.cells #[.string t] 9)) (w.heap.size + 1 + 1 + 1) 9 (.string t) := by
    have := Boxed.new (((w.alloc (.cells #[.slice none 0 0] 44)).alloc (.cells #[.int .i64 0] 38)).alloc (.cells #[.slice none 0 0] 44)) 9 (.string t)
    rw [World.size_alloc, World.size_alloc, World.size_alloc] at this
    exact this
  have hbl : Below w.heap.size w ((((w.alloc (.cells #[.slice none 0 0] 44)).alloc (.cells #[.int .i64 0] 38)).alloc (.cells #[.slice none 0 0] 44)).alloc (.cells #[.string t] 9)) := ((((Below.refl _ _).alloc (Nat.le_refl _) _).alloc (by simp) _).alloc (by simp; omega) _).alloc (by simp; omega) _
  have hsz : ((((w.alloc (.cells #[.slice none 0 0] 44)).alloc (.cells #[.int .i64 0] 38)).alloc (.cells #[.slice none 0 0] 44)).alloc (.cells #[.string t] 9)).heap.size ≥ w.heap.size + 1 + 1 + 1 + 1 := by simp
  generalize (((w.alloc (.cells #[.slice none 0 0] 44)).alloc (.cells #[.int .i64 0] 38)).alloc (.cells #[.slice none 0 0] 44)).alloc (.cells #[.string t] 9) = W4 at bx0 bx1 bx2 bx3 hbl hsz ⊢
  have hcom : Common w.heap.size w W4 [] := ⟨⟨_, bx2, World.ownsRow_nil _ _ _ _⟩, bx0, bx1, hbl⟩
  clear bx0 bx1 bx2 hbl
  refine wpIn_rangeFunc_dir (σ := List Bytes8 × Bytes8 × Bytes8) (gf := 48) (lb := #[.pointer (some ⟨w.heap.size + 1 + 1 + 1, 0, none⟩)]) rfl (enters_of Try.func48 (by kernel_rfl) rfl)
    (InS w.heap.size w t.data.toList) (JnS w.heap.size w) (JxS w.heap.size w t.data.toList) (fun s' a₁ W => InS w.heap.size w t.data.toList s' W ∧ a₁ = (fun x : Bytes8 => ({ tmps := #[.string s, undef, .pointer (some ⟨w.heap.size, 0, none⟩), .pointer (some ⟨w.heap.size + 1, 0, none⟩), .string t, .bool true, .pointer (some ⟨w.heap.size + 1 + 1, 0, none⟩), .string (bs x), .tuple #[.string t, .bool true], .string s, .tuple #[.string t, .bool true], .string t, .bool true, .bool true, .bool false, .bool false, .string s, .int .i64 s.size, .bool (decide (500 < (s.size : Int))), .bool (decide (500 < (s.size : Int))), .string t, .bool false, .string t, .func (.func 48) #[] #[.pointer (some ⟨w.heap.size + 1 + 1 + 1, 0, none⟩)], .string (bs x), undef, undef, undef, undef, undef, undef, undef, undef, undef, undef, undef, undef, undef, undef, undef, undef], defers := [] } : Act)) s'.2.1) (DoneS w.heap.size w t.data.toList) (fun s' => #[.string (bs s'.2.1)])
    ?hI ?hJ ?hJx ?hMid ?hDone (fun _ => rfl) ?assign ?body ?iter ?done ?stop
  case hI => exact fun s' W r o' ⟨h1, h2, h3, h4⟩ hl => ⟨h1.turn _ hl rfl (by omega), boxed_putLoop _ h2 hl rfl, h3, h4⟩
  case hJ => exact fun s' W r o' ⟨h1, h2, h3⟩ hl => ⟨h1, h2.turn _ hl rfl (by omega), boxed_putLoop _ h3 hl rfl⟩
  case hJx => exact fun s' c W r o' ⟨h1, h2, h3, h4, h5, h6⟩ hl => ⟨h1, h2, h3, boxed_putLoop _ h4 hl rfl, boxed_putLoop _ h5 hl rfl, below_putObj _ h6 (by omega) (Array.getElem?_eq_some_iff.1 hl).1⟩
  case hMid => exact fun s' a₁ W r o' ⟨⟨h1, h2, h3, h4⟩, h5⟩ hl => ⟨⟨h1.turn _ hl rfl (by omega), boxed_putLoop _ h2 hl rfl, h3, h4⟩, h5⟩
  case hDone => exact fun W r o' ⟨h1, h2⟩ hl => ⟨h1, h2.turn _ hl rfl (by omega)⟩
  case assign =>
    intro l s' W hi hl
    have HI := hide hi
    clear hi
    gi_wp2
    exact ⟨Keeps2.refl _ _, HI.out, by first | rfl | trivial⟩
  case body =>
    rintro l ⟨done, p, b⟩ a₁ W hl ⟨⟨⟨⟨v, hv, hown⟩, hr0, hr1, hb⟩, hbox3, hmem, hlen⟩, rfl⟩
    simp only at hmem hlen hbox3 hown
    have c2 := hv.cell
    have c0 := hr0.cell
    have c1 := hr1.cell
    have f0 := hr0.frozen
    have f1 := hr1.frozen
    have hWs : w.heap.size + 1 + 1 + 1 + 1 ≤ W.heap.size := by have := hbox3.lt; omega
    have HM := hide hmem
    have HB := hide hb
    clear hmem hb
    by_cases hbad : okP p = false
    · have fin : ∀ W', W' = ((W.setCell ⟨w.heap.size, 0, none⟩ (.slice none 0 0)).setCell ⟨w.heap.size + 1, 0, none⟩ (.int .i64 15)) → Keeps2 W4.heap.size W W' ∧ JxS w.heap.size w t.data.toList (done, p, b) .ret W' := by
        rintro W' rfl
        refine ⟨(Keeps2.setCell _ _ _ _).trans (Keeps2.setCell _ _ _ _), rfl, hbad, HM.out, boxed_other _ (hr0.set _) (by simp), (boxed_other _ hr1 (by simp)).set _, ?_⟩
        exact (HB.out.setCell (p := ⟨w.heap.size, 0, none⟩) (Nat.le_refl _) _).setCell (p := ⟨w.heap.size + 1, 0, none⟩) (by simp) _
      by_cases hn : nameL p = false
      · have HN := hide hn
        clear hn hbad
        gi_wp2_with (with_reducible refine wide_callsR ?_; go_at_call 41; refine (name_b p _ HN.out _).mono ?_; rintro e w' ⟨rfl, rfl⟩)
        exact fin _ rfl
      · have HN := hide (show nameL p = true by simpa using hn)
        have hd : p = [46] ∨ p = [46, 46] := by
          have : nameL p = true := HN.out
          simp [okP, this] at hbad
          by_cases e : p = [46]
          · exact .inl e
          · exact .inr (hbad e)
        clear hn hbad
        rcases hd with rfl | rfl
        · have t1 : ((bs [46]).toList == [46]) = true := by rw [ByteArray.toList_eq, bs_data]; rfl
          gi_wp2_with (with_reducible refine wide_callsR ?_; go_at_call 41; refine (name_b _ _ HN.out _).mono ?_; rintro e w' ⟨rfl, rfl⟩)
          exact fin _ rfl
        · have t1 : ((bs [46, 46]).toList == [46]) = false := by rw [ByteArray.toList_eq, bs_data]; rfl
          have t2 : ((bs [46, 46]).toList == [46, 46]) = true := by rw [ByteArray.toList_eq, bs_data]; rfl
          gi_wp2_with (with_reducible refine wide_callsR ?_; go_at_call 41; refine (name_b _ _ HN.out _).mono ?_; rintro e w' ⟨rfl, rfl⟩)
          exact fin _ rfl
    · have hok : okP p = true := by simpa using hbad
      have HO := hide hok
      have HN := hide (show nameL p = true by simp [okP] at hok; exact hok.1.1)
      have t1 : ((bs p).toList == [46]) = false := by
        rw [ByteArray.toList_eq, bs_data]; simp [okP] at hok; simpa using hok.1.2
      have t2 : ((bs p).toList == [46, 46]) = false := by
        rw [ByteArray.toList_eq, bs_data]; simp [okP] at hok; simpa using hok.2
      clear hok hbad
      obtain ⟨i0, hi, hz0, hz1, hz2⟩ := info_parts info9
      gi_wp2_with (first | (with_reducible refine wide_callsR ?_; go_at_call 41; refine (name_b p _ HN.out _).mono ?_; rintro e w' ⟨rfl, rfl⟩) | (gi_at_builtin; go_must (refine wpListIn_append_own _ rfl _ _ 44 rfl (w.heap.size + 1 + 1 + 1 + 1) 9 i0 (.string ⟨#[]⟩) 1 16 Try.underlying44 hi hz0 hz1 hz2 rfl (by decide) _ _ _ rfl (hown.alloc _) ⟨W.heap.size, 0, none⟩ 1 1 [.string (bs p)] rfl rfl (cell_one_new _ _ _) (by simp [Value.oneCell']) (by unfold maxLen; omega) (by omega) (by simp; omega) ?_); intro v' w1 hown' hgrow _; obtain ⟨g', cap', rfl⟩ := ownsRow_succ hown'; obtain ⟨hbox, hko⟩ := appended_box hv hown (by omega) hgrow; have hv1 := hbox _ _ _ (by omega) hv; have hc1 := hv1.cell; have hf1 := hv1.frozen))
      obtain ⟨st1, st2, st3, st4⟩ := stored_box hv1 hown' (by omega)
      refine ⟨(Keeps2.of_others hko).trans (Keeps2.of_others st4), HO.out, ⟨⟨_, st2, ?_⟩, st1 _ _ _ (by omega) (hbox _ _ _ (by omega) hr0), st1 _ _ _ (by omega) (hbox _ _ _ (by omega) hr1), ?_⟩, st1 _ _ _ (by omega) (hbox _ _ _ (by omega) hbox3)⟩
      · simpa [OwnS, strs] using st3
      · exact ((HB.out.alloc (by omega) _).grown hgrow (by simp; omega) (fun k hk => by have := (hown.lt k hk).1; omega)).setCell (p := ⟨w.heap.size + 1 + 1, 0, none⟩) (by simp; omega) _
  case iter =>
    rintro rec W1 hW1 hrdy hY
    have hcom1 : Common w.heap.size w W1 [] := by
      obtain ⟨⟨v, h1, h2⟩, h3, h4, h5⟩ := hcom
      subst hW1
      exact ⟨⟨v, (h1.alloc _).alloc _, (h2.alloc _).alloc _⟩, (h3.alloc _).alloc _, (h4.alloc _).alloc _, (h5.alloc (by omega) _).alloc (by simp; omega) _⟩
    have hbx3 : Boxed W1 (w.heap.size + 1 + 1 + 1) 9 (.string (bs t.data.toList)) := by rw [bs_of]; subst hW1; exact (bx3.alloc _).alloc _
    have HY := hide hY
    clear hY hW1 hcom bx3
    refine callsIn_of_wp Try.func48 rfl trivial ?_ rfl
    simp only [Try.ntmps48, List.size_toArray, List.length_cons, List.length_nil, Nat.reduceAdd, Nat.reduceSub, Array.replicate_succ, Array.replicate_zero, List.push_toArray, List.append_toArray, List.nil_append, List.cons_append]
    gi_wp2
    gi_loopw [3] (fun ag wr => ∃ (done : List Bytes8) (b : Bytes8) (f : Bool), ag = .bool f ∧ Hid ((f = true → partsL t.data.toList = done ++ partsL b) ∧ (f = false → partsL t.data.toList = done) ∧ done.all okP = true) ∧ b.length ≤ 500 ∧ Common w.heap.size w wr done ∧ Boxed wr (w.heap.size + 1 + 1 + 1) 9 (.string (bs b)) ∧ Ready W4.heap.size rec wr)
      (fun ag wr => boxLen (w.heap.size + 1 + 1 + 1) ag wr)
    case atStart => exact ⟨[], t.data.toList, true, rfl, ⟨fun _ => rfl, fun h => (by cases h), rfl⟩, by rw [← size_toList]; exact hts, hcom1, hbx3, hrdy⟩
    case round =>
      obtain ⟨done, b, f, rfl, HF, hbl, hcm, hbx, hrd⟩ := hrel
      cases f with
      | false =>
        have HG := hide (show DoneS w.heap.size w t.data.toList wr from ⟨by rw [HF.out.2.1 rfl]; exact HF.out.2.2, by rw [HF.out.2.1 rfl]; exact hcm⟩)
        gi_wp2
        go_end0
        exact ⟨⟨_, rfl⟩, .inl ⟨HG.out, hrd⟩⟩
      | true =>
        have HF1 := hide (HF.out.1 rfl)
        have HF2 := hide HF.out.2.2
        clear HF
        have hbs : (bs b).size ≤ 140737488355328 := by rw [bs_size]; omega
        have cb := hbx.cell
        have fb := hbx.frozen
        gi_wp2_with (with_reducible refine wide_calls ?_; go_at_call 49; refine (strCut_c (bs b) _ hbs).mono ?_; rintro e w' ⟨a, b', f', rfl, ⟨nq, rfl⟩, hc⟩; have HC := hide hc; clear hc)
        obtain ⟨fn, tmps, assign, body, hy, hR⟩ := HY.out (done, a, b') ((wr.drewN nq).setCell ⟨w.heap.size + 1 + 1 + 1, 0, none⟩ (.string (bs b')))
          ⟨hcm.box3 nq _, (show Boxed (wr.drewN nq) (w.heap.size + 1 + 1 + 1) 9 (.string (bs b)) from hbx).set _, mem_of HF1.out HC.out, len_of HF1.out (by rw [← size_toList]; exact hts)⟩
          (hrd.keeps (Keeps2.setCell _ (wr.drewN nq) _ _))
        dsimp only at hy
        clear HY
        rw [hy, Oper.uponIn_round]
        refine ⟨fun h => by simp [Fence.wide] at h, ?_⟩
        refine hR.mono ?_
        rintro e W3 (⟨rfl, ⟨hok3, hcm3, hbx3'⟩, hrd3⟩ | ⟨rfl, c, hJx, hst⟩)
        · have G := hide (step_of HF1.out HF2.out hok3 HC.out)
          have M := hide (meas_of hbx hbx3' HC.out)
          have B3 := hide (rest_of HC.out hbl)
          clear HF1 HF2 HC hok3
          gi_wp2
          go_roundw
          case rel => exact ⟨done ++ [a], b', f', rfl, G, B3.out, hcm3, hbx3', hrd3⟩
          case measure => exact M.out
        · gi_wp2
          refine bodyPost_ret (results_none rfl _ _ _) rfl ?_
          exact ⟨⟨_, rfl⟩, .inr ⟨_, c, hJx, hst⟩⟩
  case done =>
    rintro W ⟨hok, ⟨v, hv, hown⟩, hr0, hr1, hb⟩ hD
    obtain ⟨A, c, rfl⟩ := own_slice hown
    have cv := hv.cell
    have c0 := hr0.cell
    have c1 := hr1.cell
    have f0 := hr0.frozen
    have f1 := hr1.frozen
    have hD2 := (Keeps2.setCell W4.heap.size W ⟨w.heap.size, 0, none⟩ (.slice A (partsL t.data.toList).length c)).trans (Keeps2.setCell W4.heap.size _ ⟨w.heap.size + 1, 0, none⟩ (.int .i64 0)) _ _ (.inl rfl) hD rfl
    have b0 := boxed_other (a := ⟨w.heap.size + 1, 0, none⟩) (.int .i64 0) (hr0.set (.slice A (partsL t.data.toList).length c)) (by simp)
    have b1 := (boxed_other (a := ⟨w.heap.size, 0, none⟩) (.slice A (partsL t.data.toList).length c) hr1 (by simp)).set (.int .i64 0)
    have hb2 := (hb.setCell (p := ⟨w.heap.size, 0, none⟩) (Nat.le_refl _) (.slice A (partsL t.data.toList).length c)).setCell (p := ⟨w.heap.size + 1, 0, none⟩) (by simp) (.int .i64 0)
    have ho2 := ownsRow_far (a := ⟨w.heap.size + 1, 0, none⟩) (ownsRow_far (a := ⟨w.heap.size, 0, none⟩) hown (by simp; try omega) (.slice A (partsL t.data.toList).length c)) (by simp; try omega) (.int .i64 0)
    have H := hide (And.intro hD2 (And.intro b0 (And.intro b1 (And.intro hb2 (And.intro ho2 hok)))))
    clear hD2 b0 b1 hb2 ho2 hok hD hown hv hr0 hr1 hb
    gi_wp2
    obtain ⟨hD2, b0, b1, hb2, ho2, hok⟩ := H.out
    refine ⟨by simp, .inl ⟨_, _, rfl, run_takeDeferred hD2, ?_⟩⟩
    have hok' : (partsL t.data.toList).all okP = true := hok
    refine ⟨_, results8 rfl rfl (boxed_putLoop _ b0 hD2 rfl).cell (boxed_putLoop _ b1 hD2 rfl).cell, .slice A (partsL t.data.toList).length c, by rw [if_pos hok'], ?_, below_putObj _ hb2 (by omega) (Array.getElem?_eq_some_iff.1 hD2).1⟩
    try rw [if_pos hok']
    exact own_base (ownsRow_putObj ho2 _ hD2 rfl) (by omega)
  case stop =>
    rintro s' c W ⟨rfl, hbad, hmem, h0, h1, hb⟩ hD
    have hok' : ¬ (partsL t.data.toList).all okP = true := fun h => by
      have := List.all_eq_true.1 h _ hmem
      rw [hbad] at this; cases this
    gi_wp2
    refine ⟨by simp, .inl ⟨_, _, rfl, run_takeDeferred hD, ?_⟩⟩
    refine ⟨_, results8 rfl rfl (boxed_putLoop _ h0 hD rfl).cell (boxed_putLoop _ h1 hD rfl).cell, .slice none 0 0, by rw [if_neg hok'], ?_, below_putObj _ hb (by omega) (Array.getElem?_eq_some_iff.1 hD).1⟩
    try rw [if_neg hok']
    exact World.ownsRow_nil _ _ _ _
/-- path.Split -/
theorem split_c (s : ByteArray) (w : World) (hs : s.size ≤ 140737488355328) :
    Calls Try.prog 26 #[.string s] w fun e w' => ∃ v, e = .returned (.tuple #[v, .int .i64 (if (splitL s.data.toList).isSome then 0 else 15)]) ∧ OwnS w' w.heap.size v ((splitL s.data.toList).getD []) ∧ Below w.heap.size w w' := by
  have hsz := size_toList s
  have none_case : splitL s.data.toList = none → Calls Try.prog 26 #[.string s] w (fun e w' => e = .returned (.tuple #[.slice none 0 0, .int .i64 15]) ∧ Below w.heap.size w w') →
      Calls Try.prog 26 #[.string s] w fun e w' => ∃ v, e = .returned (.tuple #[v, .int .i64 (if (splitL s.data.toList).isSome then 0 else 15)]) ∧ OwnS w' w.heap.size v ((splitL s.data.toList).getD []) ∧ Below w.heap.size w w' := fun h k =>
    k.mono fun e w' ⟨h1, h2⟩ => ⟨.slice none 0 0, by subst h1; rw [h]; rfl, by rw [h]; exact World.ownsRow_nil _ _ _ _, h2⟩
  cases hl : s.data.toList with
  | nil => rw [← hl]; exact none_case (by rw [hl]; rfl) (split_none s w _ false hs (by rw [hl]; rfl) rfl (.inl rfl))
  | cons c l =>
    by_cases hc : c = 47
    · subst hc
      have hpre : Lib.hasPrefix s.data.toList [47] = true := by rw [hl]; simp [Lib.hasPrefix]
      have htr : (⟨(Lib.trimPrefix s.data.toList [47]).toArray⟩ : ByteArray) = bs l := by
        have : Lib.trimPrefix s.data.toList [47] = l := by unfold Lib.trimPrefix; rw [hpre, hl]; rfl
        rw [this]; rfl
      rw [hl] at hsz
      by_cases hlong : 500 < s.size
      · rw [← hl]
        exact none_case (by rw [hl]; rw [splitL_cons, if_pos (.inr (by simp at hsz; omega))]) (split_none s w _ true hs hpre htr (.inr hlong))
      · have hlen : l.length + 1 ≤ 500 := by simp at hsz; omega
        have hne : ¬ ((47 : UInt8) ≠ 47 ∨ 500 < l.length + 1) := by simp; omega
        by_cases hnil : l = []
        · subst hnil
          have e : splitL [47] = some [] := rfl
          rw [e]
          exact (split_root s w (by omega) hpre htr).mono fun e w' ⟨h1, h2⟩ => ⟨_, h1, World.ownsRow_nil _ _ _ _, h2⟩
        · have e : splitL (47 :: l) = if (partsL l).all okP then some (partsL l) else none := by
            rw [splitL_cons, if_neg hne, if_neg hnil]
          rw [e]
          refine (split_main s (bs l) w (by omega) (by rw [bs_size]; omega) hpre htr (by simpa using hnil)).mono fun e w' ⟨v, h1, h2, h3⟩ => ⟨v, ?_, ?_, h3⟩
          · rw [h1, bs_data]
            by_cases ha : (partsL l).all okP = true
            · rw [if_pos ha, if_pos ha]; rfl
            · rw [if_neg ha, if_neg ha]; rfl
          · rw [bs_data] at h2
            by_cases ha : (partsL l).all okP = true
            · rw [if_pos ha] at h2 ⊢; exact h2
            · rw [if_neg ha] at h2 ⊢; exact h2
    · rw [← hl]
      have hpre : Lib.hasPrefix s.data.toList [47] = false := by rw [hl]; unfold Lib.hasPrefix; simp only [List.isPrefixOf]; simp [Ne.symm hc]
      exact none_case (by rw [hl]; rw [splitL_cons, if_pos (.inl hc)]) (split_none s w _ false hs hpre rfl (.inl rfl))
end Go.Proofs.Ytnmlmbbacicojaa
namespace Go.Proofs.Ytnmlmbbacicojaa
set_option linter.unusedVariables false
set_option linter.unusedSimpArgs false
open Go.RowKit Go.Maps Go.Proofs.YtnmlmbbacicojaaW.PrintWords Go.Proofs.YtnmlmbbacicojaaW.PrintLast Go.Proofs.YtnmlmbbacicojaaW.PrintMore Go.Proofs.Ytnmlmbbacicojaa.PWalkSame

/-- from a node on, down these names: (place, errno) -/
def findGo (l : List S30) : Nat → List ByteArray → Int × Int
  | k, [] => ((k : Int), 0)
  | k, p :: ps => if (l.getD k z30).f1 ≠ 2 then (0, 12) else if slotAt p (l.getD k z30).f5 < 0 then (0, 10) else match atF l ((l.getD k z30).f5.getD (slotAt p (l.getD k z30).f5).toNat z32).f0 with
    | none => (0, 10)
    | some n => findGo l n.toNat ps
def findF (l : List S30) (s : ByteArray) : Int × Int := match splitL s.data.toList with
  | none => (0, 15)
  | some ps => match atF l 1 with
    | none => (0, 10)
    | some k => findGo l k.toNat (ps.map bs)
theorem slotAt_lt {p : ByteArray} {es : List S32} (h : 0 ≤ slotAt p es) : ∃ i : Nat, slotAt p es = (i : Int) ∧ i < es.length := by
  unfold slotAt at h ⊢
  cases hq : es.findIdx? (slotIs p) with
  | none => rw [hq] at h; simp at h
  | some i =>
    obtain ⟨h1, _⟩ := List.findIdx?_eq_some_iff_getElem.1 hq
    exact ⟨i, rfl, h1⟩

theorem split_len {l : Bytes8} {ps : List Bytes8} (h : splitL l = some ps) : ps.length ≤ 501 := by
  cases l with
  | nil => simp [splitL] at h
  | cons c t =>
    rw [splitL_cons] at h
    split at h
    · cases h
    · rename_i h1
      split at h
      · injection h with h; subst h; simp
      · split at h
        · injection h with h
          have := partsL_len t
          rw [← h]
          have h2 : ¬ 500 < t.length + 1 := fun e => h1 (.inr e)
          omega
        · cases h
theorem findGo_cons (l : List S30) (k : Nat) (hk : k < l.length) (p : ByteArray) (ps : List ByteArray) : findGo l k (p :: ps) = if (l[k]).f1 ≠ 2 then (0, 12) else if slotAt p (l[k]).f5 < 0 then (0, 10) else match atF l ((l[k]).f5.getD (slotAt p (l[k]).f5).toNat z32).f0 with
    | none => (0, 10)
    | some n => findGo l n.toNat ps := by
  have hgd : l.getD k z30 = l[k] := by simp [hk]
  conv => lhs; unfold findGo
  rw [hgd]
set_option maxHeartbeats 4000000 in
set_option maxRecDepth 100000 in
theorem find_c (l : List S30) (A : Option Addr) (N c : Nat) (s : ByteArray) (w : World) (hN : l.length = N) (hNc : N ≤ c) (hok : NodesOk l) (hC : Kd.C k30 w A N l) (hs : s.size ≤ 140737488355328) :
    Calls Try.prog 16 #[.slice A N c, .string s] w fun e w' => e = .returned (.tuple #[.int .i64 (findF l s).1, .int .i64 (findF l s).2]) ∧ Below w.heap.size w w' := by
  have hr47 := reach47
  have hll : l.length ≤ 140737488355328 := by have := hok.2; omega
  subst hN
  have HI := hide (fun (V : World) (hb : Below w.heap.size w V) => index_c A l.length c l V rfl (Kd.C_below hC hb) hNc (by omega) (fun x hx => (hok.1 x hx).1))
  have HC := hide hC
  have HOK := hide hok
  clear hC hok
  cases hq : splitL s.data.toList with
  | none =>
    have HS := hide (split_c s w hs)
    have HF := hide (show findF l s = (0, 15) by unfold findF; rw [hq])
    rw [hq] at HS
    simp only [Option.isSome_none, Option.getD_none] at HS
    clear hq
    go_enter Try.func16, Try.ntmps16
    go_wp2_with (go_at_call 26; refine HS.out.mono ?_; rintro e w1 ⟨v, rfl, hv, hb1⟩)
    refine bodyPost_ret (results_tmp2 rfl _ _ _) rfl ?_
    rw [HF.out]
    exact ⟨by first | rfl | simp, hb1⟩
  | some ps =>
    have HS := hide (split_c s w hs)
    rw [hq] at HS
    simp only [Option.isSome_some, Option.getD_some, ↓reduceIte] at HS
    cases h1 : atF l 1 with
    | none =>
      have HF := hide (show findF l s = (0, 10) by unfold findF; rw [hq]; simp only []; rw [h1])
      clear hq
      go_enter Try.func16, Try.ntmps16
      go_upto_region 5 with (first | (go_at_call 26; refine HS.out.mono ?_; rintro e w1 ⟨v, rfl, hv, hb1⟩) | (go_at_call 27; refine (HI.out _ hb1).mono ?_; rintro e w2 ⟨ba, m, rfl, hba, hii, hm, hb2⟩))
      have hlk := hii.look Try.underlying3 Try.underlying3 Try.underlying56 (zero3 _) 1 (by decide)
      rw [h1] at hlk
      simp only [Option.getD_none, Option.isSome_none] at hlk
      clear h1
      go_wp2
      refine bodyPost_ret (results_tmp2 rfl _ _ _) rfl ?_
      rw [HF.out]
      exact ⟨by first | rfl | simp, hb1.trans (hb2.mono hb1.size)⟩
    | some kk =>
      obtain ⟨k0, rfl, hk0, _⟩ := atF_lt h1
      have HF := hide (show findF l s = findGo l k0 (ps.map bs) by unfold findF; rw [hq]; simp only []; rw [h1]; rfl)
      have hpl : ps.length ≤ 501 := split_len hq
      clear hq
      go_enter Try.func16, Try.ntmps16
      go_upto_region 5 with (first | (go_at_call 26; refine HS.out.mono ?_; rintro e w1 ⟨v, rfl, hv, hb1⟩; obtain ⟨A1, c1, rfl⟩ := own_slice hv; have HV := hide hv; clear hv) | (go_at_call 27; refine (HI.out _ hb1).mono ?_; rintro e w2 ⟨ba, m, rfl, hba, hii, hm, hb2⟩))
      have hlk := hii.look Try.underlying3 Try.underlying3 Try.underlying56 (zero3 _) 1 (by decide)
      rw [h1] at hlk
      simp only [Option.getD_some, Option.isSome_some] at hlk
      have HII := hide hii
      clear h1 hii
      go_upto_region 9 with (fail)
      have hb12 := hb1.trans (hb2.mono hb1.size)
      have hsz12 := hb2.size
      have HB12 := hide hb12
      have HL2 := hide hb2
      clear hlk hb12 hb1
      go_loopw [9, 33] (fun k9 i wr => ∃ (i' k : Nat), i' ≤ ps.length ∧ i = .int .i64 i' ∧ k9 = .int .i64 k ∧ k < l.length ∧ Hid (findGo l k ((ps.map bs).drop i') = findF l s) ∧ Below w2.heap.size w2 wr) (fun _ i _ => ps.length - (intOf i).toNat)
      case atStart => exact ⟨0, k0, by omega, rfl, rfl, hk0, hide (by rw [HF.out, List.drop_zero]), Below.refl _ _⟩
      case round =>
        obtain ⟨i, k, hi, rfl, rfl, hk, HT, hbr⟩ := hrel
        have hszr := hbr.size
        by_cases hlt : i < ps.length
        · obtain ⟨g, cap, hv, _, hg⟩ := (show w1.ownsRow _ 9 1 (.slice A1 ps.length c1) ps.length (strs ps) from HV.out).form (by omega)
          injection hv with hA _ hc
          subst hA
          subst hc
          have hcell := (show w1.ownsRow _ 9 1 (.slice (some ⟨g, 0, none⟩) ps.length c1) ps.length (strs ps) from HV.out).cellAt i (by omega)
          have hcell2 : w1.cell? ⟨g, i, none⟩ = some (.string (bs ps[i])) := by rw [hcell]; simp [strs, hlt]
          replace hcell2 := ((HL2.out.trans (hbr.mono hsz12)).cell (World.block_lt_of_cell? w1 _ hcell2)).trans hcell2
          have hdr : (ps.map bs).drop i = bs ps[i] :: (ps.map bs).drop (i + 1) := by rw [List.drop_eq_getElem_cons (by simpa using hlt)]; simp
          have HG := hide (show findGo l k (bs ps[i] :: (ps.map bs).drop (i + 1)) = findF l s by rw [← hdr]; exact HT.out)
          rw [findGo_cons l k hk] at HG
          generalize bs ps[i] = p at hcell2 HG
          clear hcell hdr HT
          obtain ⟨ad, A4, c4, A5, c5, e5, x0, x1, x2, x3, x4, x5, l4, g4, l5, g5⟩ := at_T30 HC.out (k : Int) (by omega) (by omega)
          rw [rd30 hk] at x1 x5 l5 g5
          rw [Int.toNat_natCast] at x1 x5
          subst e5
          have hx := HOK.out.1 _ (List.getElem_mem hk)
          have hE5 := hx.2.2.2.2.2
          generalize l[k] = y at x1 x5 l5 g5 HG hE5
          have hl5 : y.f5.length ≤ 140737488355328 := by have := hE5.2; omega
          have HE5 := hide hE5.1
          have G5 := hide g5
          have hbW : Below w.heap.size w (wr.alloc (.cells #[.string p] 9)) := (HB12.out.trans (hbr.mono (by have := HB12.out.size; omega))).alloc (by have := HB12.out.size; omega) _
          have X5 := hide x5
          replace x1 := (hbW.cell (World.block_lt_of_cell? w _ x1)).trans x1
          replace x5 := (hbW.cell (World.block_lt_of_cell? w _ x5)).trans x5
          have HBW := hide hbW
          have o1 : (0 : Int) ≤ (k : Int) := by omega
          have o2 : (k : Int) < (l.length : Int) := by omega
          have o3 : (0 : Int) ≤ (i : Int) := by omega
          have o4 : (i : Int) < (ps.length : Int) := by omega
          have HCB := hide (show (wr.alloc (.cells #[.string p] 9)).cell? ⟨wr.heap.size, 0, none⟩ = some (.string p) from cell_one_new _ _ _ 0 _ rfl)
          clear x0 x2 x3 x4 l4 g4 g5 hx hE5 hbW
          by_cases hkind : y.f1 = 2
          · rw [if_neg (by simp [hkind])] at HG
            rw [hkind] at x1
            have HIF := hide (indexFunc_c A5 c5 wr.heap.size y.f5 p (wr.alloc (.cells #[.string p] 9)) (Kd.C_below G5.out HBW.out) l5 HCB.out hl5)
            clear hkind
            by_cases hneg : slotAt p y.f5 < 0
            · rw [if_pos hneg] at HG
              have HG2 := hide HG.out
              clear HG
              generalize slotAt p y.f5 = sl at HIF hneg
              go_wp2_with (go_at_call 28; refine HIF.out.mono ?_; rintro r w4 ⟨rfl, hb4⟩)
              refine bodyPost_ret (results_tmp2 rfl _ _ _) rfl ?_
              rw [← HG2.out]
              exact ⟨by first | rfl | simp, HBW.out.trans (hb4.mono HBW.out.size)⟩
            · obtain ⟨j, hj, hjl⟩ := slotAt_lt (Int.not_lt.1 hneg)
              rw [if_neg hneg, hj] at HG
              rw [hj] at HIF
              clear hneg hj
              obtain ⟨ae, e6, u0, u1⟩ := at_T32 G5.out (j : Int) (by omega) (by omega)
              rw [rd32 hjl] at u0 u1
              rw [Int.toNat_natCast] at u0 u1 HG
              have hgd : y.f5.getD j z32 = y.f5[j] := by simp [hjl]
              rw [hgd] at HG
              have he := HE5.out _ (List.getElem_mem hjl)
              have hwf := he.1
              generalize (y.f5[j]).f0 = ino at u0 HG hwf
              subst e6
              have U0 := hide u0
              have HWF := hide hwf
              have p1 : (0 : Int) ≤ (j : Int) := by omega
              have p2 : (j : Int) < (y.f5.length : Int) := by omega
              clear u0 u1 hgd he hwf
              go_upto_region 16 with (go_at_call 28; refine HIF.out.mono ?_; rintro r w4 ⟨rfl, hb4⟩)
              have hb24 : Below w2.heap.size w2 w4 := (hbr.alloc hszr (.cells #[.string p] 9)).trans (hb4.mono (by simp; omega))
              have HBF := hide (HBW.out.trans (hb4.mono HBW.out.size))
              have v5 := (HBF.out.cell (World.block_lt_of_cell? w _ X5.out)).trans X5.out
              have v0 := (HBF.out.cell (World.block_lt_of_cell? w _ U0.out)).trans U0.out
              have hii4 := HII.out.same (hb24.block ba HII.out.lt)
              have hlk := hii4.look Try.underlying3 Try.underlying3 Try.underlying56 (zero3 _) ino HWF.out
              have HB24 := hide hb24
              clear hb24 hii4 x1 x5
              cases hq : atF l ino with
              | none =>
                rw [hq] at HG hlk
                simp only [Option.getD_none, Option.isSome_none] at hlk
                have HG2 := hide HG.out
                clear HG hq
                go_wp2
                refine bodyPost_ret (results_tmp2 rfl _ _ _) rfl ?_
                rw [← HG2.out]
                exact ⟨by first | rfl | simp, HBF.out⟩
              | some v =>
                obtain ⟨k2, rfl, hk2, _⟩ := atF_lt hq
                rw [hq] at HG hlk
                simp only [Option.getD_some, Option.isSome_some] at hlk
                have HG2 := hide (show findGo l k2 ((ps.map bs).drop (i + 1)) = findF l s from HG.out)
                clear HG hq
                go_wp2
                go_roundw
                case rel => exact ⟨i + 1, k2, by omega, by go_num, rfl, hk2, HG2, HB24.out⟩
                case measure => simp [intOf]; omega
          · have n1 := (show (y.f1 == 2) = false ∧ (y.f1 != 2) = true by simp [hkind])
            rw [if_pos hkind] at HG
            have HG2 := hide HG.out
            clear hkind HG
            go_wp2
            refine bodyPost_ret (results_tmp2 rfl _ _ _) rfl ?_
            rw [← HG2.out]
            exact ⟨by first | rfl | simp, HBW.out⟩
        · have hie : i = ps.length := by omega
          subst hie
          have HG := hide (show findF l s = ((k : Int), 0) by rw [← HT.out, List.drop_of_length_le (by simp)]; rfl)
          clear hlt hi HT
          go_wp2
          refine bodyPost_ret (results_tmp2 rfl _ _ _) rfl ?_
          rw [HG.out]
          exact ⟨by first | rfl | simp, HB12.out.trans (hbr.mono (by have := HB12.out.size; omega))⟩
end Go.Proofs.Ytnmlmbbacicojaa
namespace Go.Proofs.Ytnmlmbbacicojaa
set_option linter.unusedVariables false
set_option linter.unusedSimpArgs false
open Go.RowKit Go.Maps Go.Proofs.YtnmlmbbacicojaaW.PrintWords Go.Proofs.YtnmlmbbacicojaaW.PrintLast Go.Proofs.YtnmlmbbacicojaaW.PrintMore Go.Proofs.Ytnmlmbbacicojaa.PWalkSame

theorem atF_hit {l : List S30} {x : Int} {k : Nat} (hk : k < l.length) (h : (l[k]).f0 = x) (hb : ∀ j (hj : j < l.length), j < k → (l[j]).f0 ≠ x) : atF l x = some (k : Int) := by
  unfold atF
  rw [List.findIdx?_eq_some_iff_getElem.2 ⟨hk, by simpa using h, fun j hj => by simpa using hb j (by omega) hj⟩]
  rfl
theorem atF_miss {l : List S30} {x : Int} (h : ∀ j (hj : j < l.length), (l[j]).f0 ≠ x) : atF l x = none := by
  unfold atF
  rw [List.findIdx?_eq_none_iff.2 (fun y hy => by obtain ⟨j, hj, rfl⟩ := List.getElem_of_mem hy; simpa using h j hj)]
  rfl
set_option maxHeartbeats 1000000 in
theorem refAt_c (l : List S30) (A : Option Addr) (N c : Nat) (x : Int) (w : World) (hN : l.length = N) (hNc : N ≤ c) (hll : N ≤ 140737488355328) (hC : Kd.C k30 w A N l) :
    Calls Try.prog 15 #[.slice A N c, .int .i64 x] w fun e w' => e = .returned (.int .i64 ((atF l x).getD (-1))) ∧ ∃ q, w' = w.drewN q := by
  subst hN
  have HC := hide hC
  clear hC
  go_enter Try.func15, Try.ntmps15
  go_wp2
  go_loopw [5] (fun i wr => ∃ k : Nat, k ≤ l.length ∧ i = .int .i64 k ∧ wr = w ∧ ∀ j (hj : j < l.length), j < k → (l[j]).f0 ≠ x) (fun i _ => l.length - (intOf i).toNat)
  case atStart => exact ⟨0, by omega, rfl, rfl, fun j _ h => absurd h (by omega)⟩
  case round =>
    obtain ⟨k, hk, rfl, rfl, hall⟩ := hrel
    have HA := hide hall
    clear hall
    by_cases hlt : k < l.length
    · obtain ⟨ad, A4, c4, A5, c5, e5, x0, x1, x2, x3, x4, x5, l4, g4, l5, g5⟩ := at_T30 HC.out (k : Int) (by omega) (by omega)
      rw [rd30 hlt] at x0
      rw [Int.toNat_natCast] at x0
      subst e5
      clear x1 x2 x3 x4 x5 l4 g4 l5 g5
      have o1 : (0 : Int) ≤ (k : Int) := by omega
      have o2 : (k : Int) < (l.length : Int) := by omega
      by_cases he : (l[k]).f0 = x
      · have HE := hide (show atF l x = some (k : Int) from atF_hit hlt he HA.out)
        have e1 := (show ((l[k]).f0 == x) = true by simpa using he)
        generalize (l[k]).f0 = y at x0 e1
        clear he
        go_wp2
        go_ret
        exact ⟨by rw [HE.out]; first | rfl | simp, 0, rfl⟩
      · have HE := hide (show ∀ j (hj : j < l.length), j < k + 1 → (l[j]).f0 ≠ x from fun j hj hjk => by
          by_cases e : j = k
          · subst e; exact he
          · exact HA.out j hj (by omega))
        have e1 := (show ((l[k]).f0 == x) = false by simpa using he)
        generalize (l[k]).f0 = y at x0 e1
        clear he
        go_wp2
        go_roundw
        case rel => exact ⟨k + 1, by omega, by go_num, by first | rfl | trivial, HE.out⟩
        case measure => simp [intOf]; omega
    · have HE := hide (show atF l x = none from atF_miss (fun j hj => HA.out j hj (by omega)))
      go_wp2
      go_ret
      exact ⟨by rw [HE.out]; first | rfl | simp, 0, rfl⟩
end Go.Proofs.Ytnmlmbbacicojaa
namespace Go.Proofs.Ytnmlmbbacicojaa
open Go.RowKit
set_option linter.unusedVariables false

/-- block b holds the cells cs of elements of type t -/
def Blk (W : World) (b : Nat) (cs : Array Value) (t : TypeId) : Prop := W.heap[b]? = some (.cells cs t (0, 0))
section
variable {W W' : World} {b : Nat} {cs : Array Value} {t : TypeId}
theorem Blk.lt (h : Blk W b cs t) : b < W.heap.size := (Array.getElem?_eq_some_iff.1 h).1
theorem Blk.cell (h : Blk W b cs t) (i : Nat) : W.cell? ⟨b, i, none⟩ = cs[i]? := by simp [World.cell?, show W.heap[b]? = _ from h]
theorem Blk.frozen (h : Blk W b cs t) (i : Nat) : W.frozen? ⟨b, i, none⟩ = false := by simp [World.frozen?, show W.heap[b]? = _ from h]
theorem Blk.same (h : Blk W b cs t) (e : W'.heap[b]? = W.heap[b]?) : Blk W' b cs t := e.trans h
theorem Blk.kept {row : Option Nat} (h : Blk W b cs t) (hg : W.grownBy W' row) (hne : some b ≠ row) : Blk W' b cs t := (hg.block b h.lt hne).trans h
theorem Blk.alloc (h : Blk W b cs t) (o : Obj) : Blk (W.alloc o) b cs t := h.kept (World.grownBy_alloc W o none) (by simp)
theorem Blk.below {B : Nat} (h : Blk W b cs t) (hb : Below B W W') (hB : b < B) : Blk W' b cs t := (hb.block b hB).trans h
theorem Blk.other (h : Blk W b cs t) {a : Addr} (hne : b ≠ a.block) (u : Value) : Blk (W.setCell a u) b cs t := (Below.heap_setCell W a u b hne).trans h
theorem Blk.set (h : Blk W b cs t) (i : Nat) (u : Value) : Blk (W.setCell ⟨b, i, none⟩ u) b (cs.setIfInBounds i u) t := by
  obtain ⟨hlt, hk⟩ := Array.getElem?_eq_some_iff.1 h
  show (W.heap.modify b _)[b]? = _
  rw [Array.getElem?_eq_getElem (by rw [Array.size_modify]; exact hlt), Array.getElem_modify_self, hk]
  rfl
theorem Blk.new (W : World) (cs : Array Value) (t : TypeId) : Blk (W.alloc (.cells cs t)) W.heap.size cs t := World.alloc_heap_new W _
end
/-- blocks of other element types are no rows of one -/
theorem Blk.not_row {W : World} {b : Nat} {cs : Array Value} {t e : TypeId} (h : Blk W b cs t) (hte : t ≠ e) {base size k : Nat} {v : Value} {xs : List Value} (hr : W.ownsRow base e size v k xs) : some b ≠ v.ownBlock := by
  rcases hr.2 with ⟨rfl, _⟩ | ⟨g, cap, cur, rfl, _, hgb, _⟩
  · simp [Value.ownBlock]
  · intro e'
    obtain rfl : b = g := by simpa [Value.ownBlock] using e'
    rw [show W.heap[b]? = _ from h] at hgb
    injection hgb with hgb
    injection hgb with _ h2 _
    exact hte h2
theorem Below.heap_cell_alloc (w : World) (o : Obj) (a : Addr) (h : a.block < w.heap.size) : (w.alloc o).cell? a = w.cell? a := World.cell?_of_block (Below.heap_alloc w o a.block h)
theorem results_nil {fn : Func} (h : fn.results = #[]) (tmps : Array Value) (P : Program) (w : World) : (results fn tmps).run P w = .ok (.tuple #[]) w := by simp [results, h]
theorem below_drewN' {B : Nat} {w W : World} (h : Below B w W) (q : Nat) : Below B w (W.drewN q) := ⟨h.os, h.tape, h.output, h.size, h.block⟩
theorem own_drewN {W : World} {base : Nat} {e : TypeId} {size n : Nat} {v : Value} {xs : List Value} (h : W.ownsRow base e size v n xs) (q : Nat) : (W.drewN q).ownsRow base e size v n xs := h
end Go.Proofs.Ytnmlmbbacicojaa
