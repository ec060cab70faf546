/-
  The walks of list, some, Next and Blocked. Conditions: the graph's numbers are in their bounds.
-/
import Derived.Test.YtlpdhmkcbdhelaaC
import Derived.Maps.OwnIn
namespace Go.Proofs.Ytlpdhmkcbdhelaa
set_option linter.unusedVariables false
set_option linter.unusedSimpArgs false
open Go.RowKit Go.Shelf Go.Maps
attribute [local go_sem] Oper.semAt_some

theorem info3 : (Try.prog.info? 3).map (fun i => (i.zero, i.size, i.bytes)) = some (some (.int .i64 0), 1, 8) := by kernel_rfl
section
variable {n b1 b2 b3 g : Nat} {w : World} {F ps : List Atom} {st : St}
set_option maxHeartbeats 4000000 in
set_option maxRecDepth 100000 in
theorem list_c (hg : IsG g st ps) (hf : Fit st) (buf : Int) (may : Bool) (hw : (Lit.int .i64 buf).wf = true) (W : World) (ho : Own n w W (kParts b1 b2 b3 g buf may ps F)) :
    Calls Try.prog 32 #[.func (.func 45) #[] #[.pointer (some ⟨b1, 0, none⟩), .pointer (some ⟨b2, 0, none⟩), .pointer (some ⟨b3, 0, none⟩)]] W fun e W' => ∃ v, e = .returned v ∧
      Own n w W' (rowA 3 1 v (someS st buf may).length (ints (someS st buf may)) :: kParts b1 b2 b3 g buf may ps F) := by
  have HO := hide ho
  have HG := hide hg
  have HF := hide hf
  clear ho hg hf
  refine (callsIn_wide (n := 0)).1 ?_
  refine callsIn_of_wp_marks Try.func32 rfl trivial ?_
  simp only [Try.ntmps32, List.size_toArray, List.length_cons, List.length_nil, Nat.reduceAdd, Nat.reduceSub, Array.replicate_succ, Array.replicate_zero, List.push_toArray, List.append_toArray, List.nil_append, List.cons_append]
  gi_wp2
  have hm : Own n w (W.alloc (.cells #[.slice none 0 0] 25)) (blkA W.heap.size #[.slice none 0 0] 25 :: rowA 3 1 (.slice none 0 0) 0 [] :: kParts b1 b2 b3 g buf may ps F) := (HO.out.nilRow 3 1).newBlk _ _
  generalize W.heap.size = bo at hm ⊢
  generalize W.alloc (.cells #[.slice none 0 0] 25) = W1 at hm ⊢
  have HM := hide hm
  clear hm
  refine wpIn_rangeFunc_dir (σ := Sg) (gf := 45) (lb := #[.pointer (some ⟨b1, 0, none⟩), .pointer (some ⟨b2, 0, none⟩), .pointer (some ⟨b3, 0, none⟩)]) rfl (enters_of Try.func45 (by kernel_rfl) rfl)
    (fun s W => InP n w W1.heap.size bo (kParts b1 b2 b3 g buf may ps F) s.1 s.2.2 W ∧ s.1.length < 1099511627776) (fun s W => InP n w W1.heap.size bo (kParts b1 b2 b3 g buf may ps F) (s.1 ++ [s.2.1]) s.2.2 W) (fun _ _ _ => False)
    (fun s a₁ W => (InP n w W1.heap.size bo (kParts b1 b2 b3 g buf may ps F) s.1 s.2.2 W ∧ s.1.length < 1099511627776) ∧ a₁ = (fun x : Int => ({ tmps := #[.func (.func 45) #[] #[.pointer (some ⟨b1, 0, none⟩), .pointer (some ⟨b2, 0, none⟩), .pointer (some ⟨b3, 0, none⟩)], undef, .slice none 0 0, .pointer (some ⟨bo, 0, none⟩), .int .i64 x, .func (.func 45) #[] #[.pointer (some ⟨b1, 0, none⟩), .pointer (some ⟨b2, 0, none⟩), .pointer (some ⟨b3, 0, none⟩)], .int .i64 x, undef, undef, undef, undef, undef], defers := [] } : Act)) s.2.1)
    (fun W => ∃ E, InP n w W1.heap.size bo (kParts b1 b2 b3 g buf may ps F) (someS st buf may) E W) (fun s => #[.int .i64 s.2.1])
    ?hI ?hJ ?hJx ?hMid ?hDone (fun _ => rfl) ?assign ?body ?iter ?done ?stop
  case hI => exact fun s W r o' h hl => ⟨h.1.putObj o', h.2⟩
  case hJ => exact fun s W r o' h hl => h.putObj o'
  case hJx => exact fun s c W r o' h hl => h
  case hMid => exact fun s a₁ W r o' h hl => ⟨⟨h.1.1.putObj o', h.1.2⟩, h.2⟩
  case hDone => exact fun W r o' ⟨E, h⟩ hl => ⟨E, h.putObj o'⟩
  case assign =>
    intro l s W hi hl
    have HI := hide hi
    clear hi
    gi_wp2
    first | exact ⟨Keeps2.refl _ _, HI.out⟩ | exact ⟨Keeps2.refl _ _, HI.out, rfl⟩ | exact ⟨Keeps2.refl _ _, HI.out, trivial⟩
  case body =>
    rintro l' ⟨out, x, E⟩ a₁ W hl ⟨⟨⟨v, hown⟩, hlen⟩, rfl⟩
    dsimp only at hown hlen
    have hr := hown.f3
    have hrow := hr.row
    obtain ⟨A5, c5, rfl⟩ := own_slice hrow
    have hn0 : (Value.slice A5 out.length c5).ownBlock ≠ some W1.heap.size := fun e => hr.far (a' := resA W1.heap.size) (by simp) _ e rfl
    have hn1 : (Value.slice A5 out.length c5).ownBlock ≠ some (W1.heap.size + 1) := fun e => hr.far (a' := resA (W1.heap.size + 1)) (by simp) _ e rfl
    have HN := hide (And.intro hn0 hn1)
    have hbk : Blk W bo #[.slice A5 out.length c5] 25 := hown.hold (blkA bo #[.slice A5 out.length c5] 25) (by simp)
    have hsz := hown.sz
    have HB0 := hide (show bo ≠ W1.heap.size ∧ bo ≠ W1.heap.size + 1 from ⟨fun e => hown.tail.far (a' := blkA bo #[.slice A5 out.length c5] 25) (by simp) bo (by rw [e]; rfl) rfl, fun e => hown.far (a' := blkA bo #[.slice A5 out.length c5] 25) (by simp) bo (by rw [e]; rfl) rfl⟩)
    have cv : W.cell? ⟨bo, 0, none⟩ = some (.slice A5 out.length c5) := hbk.cell 0
    have HOWN := hide hr
    obtain ⟨i0, hi, hz0, hz1, hz2⟩ := info_parts info3
    clear hown hr hbk hn0 hn1
    gi_wp2_with (gi_at_builtin; go_must (refine wpListIn_append_own_at _ rfl _ _ 25 rfl n 3 i0 (.int .i64 0) 1 8 Try.underlying25 hi hz0 hz1 hz2 rfl (by decide) _ _ _ rfl (hrow.alloc _) ⟨W.heap.size, 0, none⟩ 1 1 [.int .i64 x] rfl rfl (cell_one_new _ _ _) (by simp [Value.oneCell']) (by unfold maxLen; omega) (by omega) (by simp; omega) ?_); intro v' w1 hown' hgrow _ hat; obtain ⟨A6, c6, rfl⟩ := own_slice hown'; have h2 := hide ((HOWN.out.alloc _).growRow hown' hgrow hat); have h3 := hide h2.out.f3; have hc1 : w1.cell? ⟨bo, 0, none⟩ = some (.slice A5 out.length c5) := h3.out.head.cell 0; have hf1 := h3.out.head.frozen 0; have HK := hide (Keeps2.grown (L := W1.heap.size) hgrow HN.out.1 HN.out.2); clear hown' hgrow hat)
    have h4 := h3.out.setBlk 0 (.slice A6 (out.length + 1) c6)
    exact ⟨((Keeps2.alloc _ W _).trans HK.out).trans (Keeps2.setCell _ _ _ _), ⟨.slice A6 (out.length + 1) c6, by simpa [ints] using h4.f3.f3⟩⟩
  case iter =>
    rintro rec W2 hW2 hrdy hY
    have h1 := HM.out.new (.deferred (some [])) (resA W1.heap.size) rfl (show W1.heap.size < (W1.alloc _).heap.size by simp)
    have h2 := h1.new (.loop (rec .ready none)) (resA (W1.heap.size + 1)) (by simp [resA]) (show W1.heap.size + 1 < ((W1.alloc _).alloc _).heap.size by simp)
    rw [← hW2] at h2
    refine (some1_c HG.out HF.out buf may hw (fun s W hi hr => hY s W hi hr) W2 ⟨.slice none 0 0, by simpa [ints] using h2⟩ hrdy).mono ?_
    rintro e W' ⟨h3, h4, h5⟩
    exact ⟨h3, .inl ⟨h4, h5⟩⟩
  case done =>
    rintro W ⟨E, v, hown⟩ hD
    have cv : W.cell? ⟨bo, 0, none⟩ = some v := (hown.hold (blkA bo #[v] 25) (by simp)).cell 0
    have H := hide (And.intro hown hD)
    clear hown hD
    gi_wp2
    obtain ⟨hown, hD⟩ := H.out
    refine ⟨by simp, .inl ⟨_, _, rfl, run_takeDeferred hD, ?_⟩⟩
    refine ⟨_, results_tmp rfl _ _ _, v, rfl, ?_⟩
    exact (hown.f1.putObj _).f3.sub (.cons_cons _ (.cons _ (.cons _ (.cons _ (List.sublist_append_left _ E)))))
  case stop => exact fun s c W h hD => h.elim
theorem some_fn (W : World) (g : Nat) (b : Int) (m : Bool) (ho : Own n w W (ps ++ F)) :
    Calls Try.prog 33 #[.pointer (some ⟨g, 0, none⟩), .int .i64 b, .bool m] W fun e W' => ∃ b1 b2 b3, e = .returned (.func (.func 45) #[] #[.pointer (some ⟨b1, 0, none⟩), .pointer (some ⟨b2, 0, none⟩), .pointer (some ⟨b3, 0, none⟩)]) ∧ Own n w W' (kParts b1 b2 b3 g b m ps F) := by
  have HO := hide ho
  clear ho
  go_enter Try.func33, Try.ntmps33
  go_wp2
  go_ret
  have h1 := HO.out.newBlk #[.pointer (some ⟨g, 0, none⟩)] 23
  have h2 := h1.newBlk #[.int .i64 b] 3
  have h3 := h2.newBlk #[.bool m] 4
  exact ⟨_, _, _, rfl, by simpa [kParts] using h3.f1.f2⟩
theorem next_c (hg : IsG g st ps) (hf : Fit st) (buf : Int) (hw : (Lit.int .i64 buf).wf = true) (W : World) (ho : Own n w W (ps ++ F)) :
    Calls Try.prog 13 #[.pointer (some ⟨g, 0, none⟩), .int .i64 buf] W fun e W' => ∃ v, e = .returned v ∧ Own n w W' (rowA 3 1 v (nextS st buf).length (ints (nextS st buf)) :: (ps ++ F)) := by
  have HL := hide (fun W b1 b2 b3 ho => list_c (F := F) (b1 := b1) (b2 := b2) (b3 := b3) (n := n) (w := w) hg hf buf true hw W ho)
  have HO := hide (some_fn W g buf true ho)
  clear hg hf ho
  go_enter Try.func13, Try.ntmps13
  go_wp2_with (first | (go_at_call 33; refine HO.out.mono ?_; rintro e W1 ⟨b1, b2, b3, rfl, h1⟩; have H1 := hide h1; clear h1) | (go_at_call 32; refine (HL.out _ _ _ _ H1.out).mono ?_; rintro e W2 ⟨v, rfl, h2⟩; have H2 := hide h2; clear h2))
  go_ret
  exact ⟨v, rfl, H2.out.sub (.cons_cons _ (.cons _ (.cons _ (.cons _ (List.Sublist.refl _)))))⟩
theorem blocked_c (hg : IsG g st ps) (hf : Fit st) (buf : Int) (hw : (Lit.int .i64 buf).wf = true) (W : World) (ho : Own n w W (ps ++ F)) :
    Calls Try.prog 17 #[.pointer (some ⟨g, 0, none⟩), .int .i64 buf] W fun e W' => ∃ v, e = .returned v ∧ Own n w W' (rowA 3 1 v (blockedS st buf).length (ints (blockedS st buf)) :: (ps ++ F)) := by
  have HL := hide (fun W b1 b2 b3 ho => list_c (F := F) (b1 := b1) (b2 := b2) (b3 := b3) (n := n) (w := w) hg hf buf false hw W ho)
  have HO := hide (some_fn W g buf false ho)
  clear hg hf ho
  go_enter Try.func17, Try.ntmps17
  go_wp2_with (first | (go_at_call 33; refine HO.out.mono ?_; rintro e W1 ⟨b1, b2, b3, rfl, h1⟩; have H1 := hide h1; clear h1) | (go_at_call 32; refine (HL.out _ _ _ _ H1.out).mono ?_; rintro e W2 ⟨v, rfl, h2⟩; have H2 := hide h2; clear h2))
  go_ret
  exact ⟨v, rfl, H2.out.sub (.cons_cons _ (.cons _ (.cons _ (.cons _ (List.Sublist.refl _)))))⟩
end
end Go.Proofs.Ytlpdhmkcbdhelaa
