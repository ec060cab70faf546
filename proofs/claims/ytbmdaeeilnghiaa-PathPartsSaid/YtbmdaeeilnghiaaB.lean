/-
  The contract of path.Split: the parts of a path in new memory, or nil and the errno 15. Condition: a string's length is one.
-/
import Derived.Test.YtbmdaeeilnghiaaA
import Derived.Test.YtbmdaeeilnghiaaR
import Derived.Outline
namespace Go.Proofs.Ytbmdaeeilnghiaa
set_option linter.unusedVariables false
set_option linter.unusedSimpArgs false
open Go.RowKit Go.Shelf
attribute [local go_sem] Oper.semAt_some

def strs (ps : List Bytes8) : List Value := ps.map fun p => Value.string (bs p)
/-- v owns, from block n₀ on, a row of these strings -/
def OwnS (w : World) (n₀ : Nat) (v : Value) (ps : List Bytes8) : Prop := w.ownsRow n₀ 9 1 v ps.length (strs ps)
theorem info9 : (Try.prog.info? 9).map (fun i => (i.zero, i.size, i.bytes)) = some (some (.string ⟨#[]⟩), 1, 16) := by kernel_rfl

theorem parts_c (s : ByteArray) (w : World) : Calls Try.prog 15 #[.string s] w fun e w' => e = .returned (.func (.func 20) #[] #[.pointer (some ⟨w.heap.size, 0, none⟩)]) ∧ w' = w.alloc (.cells #[.string s] 9) := by
  have hmf : ∀ (fn : Fn) (first cap : Array Value) (w : World), (Instr.makeFunc fn first cap).run Try.prog w = .ok (.func fn first cap) w := fun _ _ _ _ => rfl
  go_enter Try.func15, Try.ntmps15
  go_wp2
  go_ret
  exact ⟨rfl, rfl⟩

theorem cutPrefix_c (s t : ByteArray) (b : Bool) (hp : Lib.hasPrefix s.data.toList [47] = b) (ht : (⟨(Lib.trimPrefix s.data.toList [47]).toArray⟩ : ByteArray) = t) (w : World) :
    Calls Try.prog 14 #[.string s, .string ⟨#[47]⟩] w fun e w' => e = .returned (.tuple #[.string t, .bool b]) ∧ w' = w := by
  have := Try.strings_CutPrefix s ⟨#[47]⟩ w
  subst hp
  subst ht
  exact this
theorem results8 {tmps : Array Value} {w : World} {a b : Addr} {x : Value} {y : Int} (h2 : tmps[2]?.getD undef = .pointer (some a)) (h3 : tmps[3]?.getD undef = .pointer (some b)) (ha : w.cell? a = some x) (hb : w.cell? b = some (.int .i64 y)) :
    (results Try.f8 tmps).run Try.prog w = .ok (.tuple #[x, .int .i64 y]) w := by
  simp [results, Try.results8, go_sem, h2, h3, ha, hb]
theorem name_b (p : Bytes8) (b : Bool) (h : nameL p = b) (w : World) :
    Calls Try.prog 16 #[.string (bs p)] w fun e w' => e = .returned (.bool b) ∧ w = w' := by subst h; exact name_c (bs p) w
theorem partsL_len (l : Bytes8) : (partsL l).length ≤ l.length + 1 := by
  induction l with
  | nil => simp [partsL]
  | cons c l ih =>
    unfold partsL
    split
    · simp; exact ih
    · split
      · simp
      · rename_i q qs hq; rw [hq] at ih; simp at ih ⊢; omega
/-- how long the rest is, while there is one -/
noncomputable def boxLen (B : Nat) (ag : Value) (W : World) : Nat :=
  match ag, W.cell? ⟨B, 0, none⟩ with
  | .bool true, some (.string s) => s.size + 1
  | _, _ => 0
theorem boxLen_true {B : Nat} {W : World} {b : Bytes8} {t : TypeId} (h : Boxed W B t (.string (bs b))) : boxLen B (.bool true) W = b.length + 1 := by
  unfold boxLen; rw [h.cell]; simp [bs_size]
theorem boxLen_false {B : Nat} {W : World} : boxLen B (.bool false) W = 0 := by
  unfold boxLen; cases W.cell? ⟨B, 0, none⟩ <;> rfl
theorem split_none (s : ByteArray) (w : World) (t : ByteArray) (b : Bool) (hs : s.size ≤ 140737488355328) (hp : Lib.hasPrefix s.data.toList [47] = b) (ht : (⟨(Lib.trimPrefix s.data.toList [47]).toArray⟩ : ByteArray) = t) (hb : b = false ∨ 500 < s.size) :
    Calls Try.prog 8 #[.string s] w fun e w' => e = .returned (.tuple #[.slice none 0 0, .int .i64 15]) ∧ Below w.heap.size w w' := by
  have HP := hide hp
  have HT := hide ht
  clear hp ht
  have fin : Below w.heap.size w ((w.alloc (.cells #[.slice none 0 0] 23)).alloc (.cells #[.int .i64 15] 24)) := ((Below.refl _ _).alloc (Nat.le_refl _) _).alloc (by simp) _
  rcases hb with rfl | hb
  · go_enter Try.func8, Try.ntmps8
    go_wp2_with (go_at_call 14; refine (cutPrefix_c s _ _ HP.out HT.out _).mono ?_; rintro e w' ⟨rfl, rfl⟩)
    exact bodyPost_ret (results8 rfl rfl (by simp) (by simp)) rfl ⟨rfl, fin⟩
  · have hb' : (500 : Int) < (s.size : Int) := by omega
    clear hb
    cases b
    · go_enter Try.func8, Try.ntmps8
      go_wp2_with (go_at_call 14; refine (cutPrefix_c s _ _ HP.out HT.out _).mono ?_; rintro e w' ⟨rfl, rfl⟩)
      exact bodyPost_ret (results8 rfl rfl (by simp) (by simp)) rfl ⟨rfl, fin⟩
    · go_enter Try.func8, Try.ntmps8
      go_wp2_with (go_at_call 14; refine (cutPrefix_c s _ _ HP.out HT.out _).mono ?_; rintro e w' ⟨rfl, rfl⟩)
      exact bodyPost_ret (results8 rfl rfl (by simp) (by simp)) rfl ⟨rfl, fin⟩
theorem split_root (s : ByteArray) (w : World) (hs : (s.size : Int) ≤ 500) (hp : Lib.hasPrefix s.data.toList [47] = true) (ht : (⟨(Lib.trimPrefix s.data.toList [47]).toArray⟩ : ByteArray) = ⟨#[]⟩) :
    Calls Try.prog 8 #[.string s] w fun e w' => e = .returned (.tuple #[.slice none 0 0, .int .i64 0]) ∧ Below w.heap.size w w' := by
  have HP := hide hp
  have HT := hide ht
  clear hp ht
  have fin : Below w.heap.size w ((w.alloc (.cells #[.slice none 0 0] 23)).alloc (.cells #[.int .i64 0] 24)) := ((Below.refl _ _).alloc (Nat.le_refl _) _).alloc (by simp) _
  go_enter Try.func8, Try.ntmps8
  go_wp2_with (go_at_call 14; refine (cutPrefix_c s _ _ HP.out HT.out _).mono ?_; rintro e w' ⟨rfl, rfl⟩)
  exact bodyPost_ret (results8 rfl rfl (by simp) (by simp)) rfl ⟨rfl, fin⟩

/-- what the loop over the parts has made: the results' cells, the gathered parts -/
def Common (n : Nat) (w W : World) (done : List Bytes8) : Prop :=
  (∃ v, Boxed W (n + 1 + 1) 23 v ∧ OwnS W (n + 1 + 1 + 1 + 1) v done) ∧ Boxed W n 23 (.slice none 0 0) ∧ Boxed W (n + 1) 24 (.int .i64 0) ∧ Below n w W
def InS (n : Nat) (w : World) (t : Bytes8) (s : List Bytes8 × Bytes8 × Bytes8) (W : World) : Prop :=
  Common n w W s.1 ∧ Boxed W (n + 1 + 1 + 1) 9 (.string (bs s.2.2)) ∧ s.2.1 ∈ partsL t ∧ s.1.length ≤ 500
def JnS (n : Nat) (w : World) (s : List Bytes8 × Bytes8 × Bytes8) (W : World) : Prop :=
  okP s.2.1 = true ∧ Common n w W (s.1 ++ [s.2.1]) ∧ Boxed W (n + 1 + 1 + 1) 9 (.string (bs s.2.2))
def JxS (n : Nat) (w : World) (t : Bytes8) (s : List Bytes8 × Bytes8 × Bytes8) (c : Code) (W : World) : Prop :=
  c = .ret ∧ okP s.2.1 = false ∧ s.2.1 ∈ partsL t ∧ Boxed W n 23 (.slice none 0 0) ∧ Boxed W (n + 1) 24 (.int .i64 15) ∧ Below n w W
def DoneS (n : Nat) (w : World) (t : Bytes8) (W : World) : Prop := (partsL t).all okP = true ∧ Common n w W (partsL t)
theorem Common.turn {n : Nat} {w W : World} {done : List Bytes8} {l : Nat} {o : Obj} (o' : Obj) (h : Common n w W done) (hl : W.heap[l]? = some o) (ho : o.isCells = false) (hn : n ≤ l) : Common n w (W.putObj l o') done := by
  obtain ⟨⟨v, h1, h2⟩, h3, h4, h5⟩ := h
  exact ⟨⟨v, boxed_putLoop _ h1 hl ho, ownsRow_putObj h2 _ hl ho⟩, boxed_putLoop _ h3 hl ho, boxed_putLoop _ h4 hl ho, below_putObj _ h5 hn (Array.getElem?_eq_some_iff.1 hl).1⟩

def SplitPost (t : ByteArray) (w : World) (e : Ending) (w' : World) : Prop := ∃ v, e = .returned (.tuple #[v, .int .i64 (if (partsL t.data.toList).all okP then 0 else 15)]) ∧ OwnS w' w.heap.size v (if (partsL t.data.toList).all okP then partsL t.data.toList else []) ∧ Below w.heap.size w w'
theorem own_base {w : World} {base base' : Nat} {e : TypeId} {size n : Nat} {v : Value} {xs : List Value} (h : w.ownsRow base e size v n xs) (hb : base' ≤ base) : w.ownsRow base' e size v n xs := by
  refine ⟨h.1, h.2.imp id ?_⟩
  rintro ⟨g, cap, cur, h1, h2, h3⟩
  exact ⟨g, cap, cur, h1, Nat.le_trans hb h2, h3⟩
abbrev CutFact (b a b' : Bytes8) (f : Bool) : Prop := (f = false ∧ a = (bs b).data.toList ∧ b' = [] ∧ (47 : UInt8) ∉ a) ∨ (f = true ∧ (bs b).data.toList = a ++ 47 :: b' ∧ (47 : UInt8) ∉ a)
theorem parts_of {b a b' : Bytes8} {f : Bool} (h : CutFact b a b' f) : (f = false ∧ partsL b = [a]) ∨ (f = true ∧ partsL b = a :: partsL b') := by
  rcases h with ⟨h1, h2, _, h4⟩ | ⟨h1, h2, h3⟩
  · rw [bs_data] at h2; subst h2; exact .inl ⟨h1, partsL_one h4⟩
  · rw [bs_data] at h2; exact .inr ⟨h1, by rw [h2]; exact partsL_cut h3⟩
theorem mem_of {l : Bytes8} {done : List Bytes8} {b a b' : Bytes8} {f : Bool} (h : partsL l = done ++ partsL b) (k : CutFact b a b' f) : a ∈ partsL l := by
  rw [h]; rcases parts_of k with ⟨_, e⟩ | ⟨_, e⟩ <;> rw [e] <;> simp
theorem len_of {l : Bytes8} {done : List Bytes8} {b : Bytes8} (h : partsL l = done ++ partsL b) (hl : l.length ≤ 500) : done.length ≤ 500 := by
  have h1 := partsL_len l
  rw [h, List.length_append] at h1
  have h2 : 0 < (partsL b).length := List.length_pos_iff.2 (partsL_ne b)
  omega
theorem step_of {l : Bytes8} {done : List Bytes8} {b a b' : Bytes8} {f : Bool} (h : partsL l = done ++ partsL b) (hd : done.all okP = true) (ha : okP a = true) (k : CutFact b a b' f) :
    (f = true → partsL l = (done ++ [a]) ++ partsL b') ∧ (f = false → partsL l = done ++ [a]) ∧ (done ++ [a]).all okP = true := by
  refine ⟨fun e => ?_, fun e => ?_, by simp [ha]; simpa using hd⟩
  · rcases parts_of k with ⟨e1, _⟩ | ⟨_, e2⟩
    · rw [e] at e1; cases e1
    · rw [h, e2]; simp
  · rcases parts_of k with ⟨_, e2⟩ | ⟨e1, _⟩
    · rw [h, e2]
    · rw [e] at e1; cases e1
theorem rest_of {b a b' : Bytes8} {f : Bool} (k : CutFact b a b' f) (h : b.length ≤ 500) : b'.length ≤ 500 := by
  rcases k with ⟨_, _, e, _⟩ | ⟨_, e, _⟩
  · subst e; simp
  · rw [bs_data] at e; rw [e] at h; simp at h; omega
theorem meas_of {B : Nat} {W W' : World} {b a b' : Bytes8} {f : Bool} {t : TypeId} (h : Boxed W B t (.string (bs b))) (h' : Boxed W' B t (.string (bs b'))) (k : CutFact b a b' f) :
    boxLen B (.bool f) W' < boxLen B (.bool true) W := by
  rw [boxLen_true h]
  rcases k with ⟨rfl, _⟩ | ⟨rfl, e, _⟩
  · rw [boxLen_false]; omega
  · rw [boxLen_true h']; rw [bs_data] at e; rw [e]; simp; omega
theorem Common.box3 {n : Nat} {w W : World} {done : List Bytes8} (h : Common n w W done) (k : Nat) (u : Value) : Common n w ((W.drewN k).setCell ⟨n + 1 + 1 + 1, 0, none⟩ u) done := by
  obtain ⟨⟨v, h1, h2⟩, h3, h4, h5⟩ := h
  have hb : Below n w (W.drewN k) := ⟨h5.os, h5.tape, h5.output, h5.size, h5.block⟩
  exact ⟨⟨v, boxed_other _ (show Boxed (W.drewN k) _ _ _ from h1) (by simp), ownsRow_far (show (W.drewN k).ownsRow _ _ _ _ _ _ from h2) (by simp) _⟩, boxed_other _ (show Boxed (W.drewN k) _ _ _ from h3) (by simp; try omega), boxed_other _ (show Boxed (W.drewN k) _ _ _ from h4) (by simp), hb.setCell (p := ⟨n + 1 + 1 + 1, 0, none⟩) (by simp; omega) _⟩
set_option maxHeartbeats 1000000 in
set_option maxRecDepth 100000 in
theorem split_main (s t : ByteArray) (w : World) (hs : (s.size : Int) ≤ 500) (hts : t.size ≤ 500) (hp : Lib.hasPrefix s.data.toList [47] = true) (ht : (⟨(Lib.trimPrefix s.data.toList [47]).toArray⟩ : ByteArray) = t) (hne : t.data.toList ≠ []) :
    Calls Try.prog 8 #[.string s] w (SplitPost t w) := by
  have HP := hide hp
  have HT := hide ht
  have e0 : t.toList.isEmpty = false := by rw [ByteArray.toList_eq]; simpa using hne
  clear hp ht hne
  refine (callsIn_wide (n := 0)).1 ?_
  refine callsIn_of_wp_marks Try.func8 rfl trivial ?_
  simp only [Try.ntmps8, List.size_toArray, List.length_cons, List.length_nil, Nat.reduceAdd, Nat.reduceSub, Array.replicate_succ, Array.replicate_zero, List.push_toArray, List.append_toArray, List.nil_append, List.cons_append]
  gi_wp2_with (first | (with_reducible refine wide_calls ?_; go_at_call 14; refine (cutPrefix_c s _ _ HP.out HT.out _).mono ?_; rintro e w' ⟨rfl, rfl⟩) | (with_reducible refine wide_calls ?_; go_at_call 15; refine (parts_c t _).mono ?_; rintro e w' ⟨rfl, rfl⟩))
  have bx0 : Boxed ((((w.alloc (.cells #[.slice none 0 0] 23)).alloc (.cells #[.int .i64 0] 24)).alloc (.cells #[.slice none 0 0] 23)).alloc (.cells #[.string t] 9)) w.heap.size 23 (.slice none 0 0) := (((Boxed.new w 23 _).alloc _).alloc _).alloc _
  have bx1 : Boxed ((((w.alloc (.cells #[.slice none 0 0] 23)).alloc (.cells #[.int .i64 0] 24)).alloc (.cells #[.slice none 0 0] 23)).alloc (.cells #[.string t] 9)) (w.heap.size + 1) 24 (.int .i64 0) := by
    have := Boxed.new (w.alloc (.cells #[.slice none 0 0] 23)) 24 (.int .i64 0)
    rw [World.size_alloc] at this
    exact (this.alloc _).alloc _
  have bx2 : Boxed ((((w.alloc (.cells #[.slice none 0 0] 23)).alloc (.cells #[.int .i64 0] 24)).alloc (.cells #[.slice none 0 0] 23)).alloc (.cells #[.string t] 9)) (w.heap.size + 1 + 1) 23 (.slice none 0 0) := by
    have := Boxed.new ((w.alloc (.cells #[.slice none 0 0] 23)).alloc (.cells #[.int .i64 0] 24)) 23 (.slice none 0 0)
    rw [World.size_alloc, World.size_alloc] at this
    exact this.alloc _
  have bx3 : Boxed ((((w.alloc (.cells #[.slice none 0 0] 23)).alloc (.cells #[.int .i64 0] 24)).alloc (.cells #[.slice none 0 0] 23)).alloc (.cells #[.string t] 9)) (w.heap.size + 1 + 1 + 1) 9 (.string t) := by
    have := Boxed.new (((w.alloc (.cells #[.slice none 0 0] 23)).alloc (.cells #[.int .i64 0] 24)).alloc (.cells #[.slice none 0 0] 23)) 9 (.string t)
    rw [World.size_alloc, World.size_alloc, World.size_alloc] at this
    exact this
  have hbl : Below w.heap.size w ((((w.alloc (.cells #[.slice none 0 0] 23)).alloc (.cells #[.int .i64 0] 24)).alloc (.cells #[.slice none 0 0] 23)).alloc (.cells #[.string t] 9)) := ((((Below.refl _ _).alloc (Nat.le_refl _) _).alloc (by simp) _).alloc (by simp; omega) _).alloc (by simp; omega) _
  have hsz : ((((w.alloc (.cells #[.slice none 0 0] 23)).alloc (.cells #[.int .i64 0] 24)).alloc (.cells #[.slice none 0 0] 23)).alloc (.cells #[.string t] 9)).heap.size ≥ w.heap.size + 1 + 1 + 1 + 1 := by simp
  generalize (((w.alloc (.cells #[.slice none 0 0] 23)).alloc (.cells #[.int .i64 0] 24)).alloc (.cells #[.slice none 0 0] 23)).alloc (.cells #[.string t] 9) = W4 at bx0 bx1 bx2 bx3 hbl hsz ⊢
  have hcom : Common w.heap.size w W4 [] := ⟨⟨_, bx2, World.ownsRow_nil _ _ _ _⟩, bx0, bx1, hbl⟩
  clear bx0 bx1 bx2 hbl
  refine wpIn_rangeFunc_dir (σ := List Bytes8 × Bytes8 × Bytes8) (gf := 20) (lb := #[.pointer (some ⟨w.heap.size + 1 + 1 + 1, 0, none⟩)]) rfl (enters_of Try.func20 (by kernel_rfl) rfl)
    (InS w.heap.size w t.data.toList) (JnS w.heap.size w) (JxS w.heap.size w t.data.toList) (fun s' a₁ W => InS w.heap.size w t.data.toList s' W ∧ a₁ = (fun x : Bytes8 => ({ tmps := #[.string s, undef, .pointer (some ⟨w.heap.size, 0, none⟩), .pointer (some ⟨w.heap.size + 1, 0, none⟩), .string t, .bool true, .pointer (some ⟨w.heap.size + 1 + 1, 0, none⟩), .string (bs x), .tuple #[.string t, .bool true], .string s, .tuple #[.string t, .bool true], .string t, .bool true, .bool true, .bool false, .bool false, .string s, .int .i64 s.size, .bool (decide (500 < (s.size : Int))), .bool (decide (500 < (s.size : Int))), .string t, .bool false, .string t, .func (.func 20) #[] #[.pointer (some ⟨w.heap.size + 1 + 1 + 1, 0, none⟩)], .string (bs x), undef, undef, undef, undef, undef, undef, undef, undef, undef, undef, undef, undef, undef, undef, undef, undef], defers := [] } : Act)) s'.2.1) (DoneS w.heap.size w t.data.toList) (fun s' => #[.string (bs s'.2.1)])
    ?hI ?hJ ?hJx ?hMid ?hDone (fun _ => rfl) ?assign ?body ?iter ?done ?stop
  case hI => exact fun s' W r o' ⟨h1, h2, h3, h4⟩ hl => ⟨h1.turn _ hl rfl (by omega), boxed_putLoop _ h2 hl rfl, h3, h4⟩
  case hJ => exact fun s' W r o' ⟨h1, h2, h3⟩ hl => ⟨h1, h2.turn _ hl rfl (by omega), boxed_putLoop _ h3 hl rfl⟩
  case hJx => exact fun s' c W r o' ⟨h1, h2, h3, h4, h5, h6⟩ hl => ⟨h1, h2, h3, boxed_putLoop _ h4 hl rfl, boxed_putLoop _ h5 hl rfl, below_putObj _ h6 (by omega) (Array.getElem?_eq_some_iff.1 hl).1⟩
  case hMid => exact fun s' a₁ W r o' ⟨⟨h1, h2, h3, h4⟩, h5⟩ hl => ⟨⟨h1.turn _ hl rfl (by omega), boxed_putLoop _ h2 hl rfl, h3, h4⟩, h5⟩
  case hDone => exact fun W r o' ⟨h1, h2⟩ hl => ⟨h1, h2.turn _ hl rfl (by omega)⟩
  case assign =>
    intro l s' W hi hl
    have HI := hide hi
    clear hi
    gi_wp2
    exact ⟨Keeps2.refl _ _, HI.out, by first | rfl | trivial⟩
  case body =>
    rintro l ⟨done, p, b⟩ a₁ W hl ⟨⟨⟨⟨v, hv, hown⟩, hr0, hr1, hb⟩, hbox3, hmem, hlen⟩, rfl⟩
    simp only at hmem hlen hbox3 hown
    have c2 := hv.cell
    have c0 := hr0.cell
    have c1 := hr1.cell
    have f0 := hr0.frozen
    have f1 := hr1.frozen
    have hWs : w.heap.size + 1 + 1 + 1 + 1 ≤ W.heap.size := by have := hbox3.lt; omega
    have HM := hide hmem
    have HB := hide hb
    clear hmem hb
    by_cases hbad : okP p = false
    · have fin : ∀ W', W' = ((W.setCell ⟨w.heap.size, 0, none⟩ (.slice none 0 0)).setCell ⟨w.heap.size + 1, 0, none⟩ (.int .i64 15)) → Keeps2 W4.heap.size W W' ∧ JxS w.heap.size w t.data.toList (done, p, b) .ret W' := by
        rintro W' rfl
        refine ⟨(Keeps2.setCell _ _ _ _).trans (Keeps2.setCell _ _ _ _), rfl, hbad, HM.out, boxed_other _ (hr0.set _) (by simp), (boxed_other _ hr1 (by simp)).set _, ?_⟩
        exact (HB.out.setCell (p := ⟨w.heap.size, 0, none⟩) (Nat.le_refl _) _).setCell (p := ⟨w.heap.size + 1, 0, none⟩) (by simp) _
      by_cases hn : nameL p = false
      · have HN := hide hn
        clear hn hbad
        gi_wp2_with (with_reducible refine wide_callsR ?_; go_at_call 16; refine (name_b p _ HN.out _).mono ?_; rintro e w' ⟨rfl, rfl⟩)
        exact fin _ rfl
      · have HN := hide (show nameL p = true by simpa using hn)
        have hd : p = [46] ∨ p = [46, 46] := by
          have : nameL p = true := HN.out
          simp [okP, this] at hbad
          by_cases e : p = [46]
          · exact .inl e
          · exact .inr (hbad e)
        clear hn hbad
        rcases hd with rfl | rfl
        · have t1 : ((bs [46]).toList == [46]) = true := by rw [ByteArray.toList_eq, bs_data]; rfl
          gi_wp2_with (with_reducible refine wide_callsR ?_; go_at_call 16; refine (name_b _ _ HN.out _).mono ?_; rintro e w' ⟨rfl, rfl⟩)
          exact fin _ rfl
        · have t1 : ((bs [46, 46]).toList == [46]) = false := by rw [ByteArray.toList_eq, bs_data]; rfl
          have t2 : ((bs [46, 46]).toList == [46, 46]) = true := by rw [ByteArray.toList_eq, bs_data]; rfl
          gi_wp2_with (with_reducible refine wide_callsR ?_; go_at_call 16; refine (name_b _ _ HN.out _).mono ?_; rintro e w' ⟨rfl, rfl⟩)
          exact fin _ rfl
    · have hok : okP p = true := by simpa using hbad
      have HO := hide hok
      have HN := hide (show nameL p = true by simp [okP] at hok; exact hok.1.1)
      have t1 : ((bs p).toList == [46]) = false := by
        rw [ByteArray.toList_eq, bs_data]; simp [okP] at hok; simpa using hok.1.2
      have t2 : ((bs p).toList == [46, 46]) = false := by
        rw [ByteArray.toList_eq, bs_data]; simp [okP] at hok; simpa using hok.2
      clear hok hbad
      obtain ⟨i0, hi, hz0, hz1, hz2⟩ := info_parts info9
      gi_wp2_with (first | (with_reducible refine wide_callsR ?_; go_at_call 16; refine (name_b p _ HN.out _).mono ?_; rintro e w' ⟨rfl, rfl⟩) | (gi_at_builtin; go_must (refine wpListIn_append_own _ rfl _ _ 23 rfl (w.heap.size + 1 + 1 + 1 + 1) 9 i0 (.string ⟨#[]⟩) 1 16 Try.underlying23 hi hz0 hz1 hz2 rfl (by decide) _ _ _ rfl (hown.alloc _) ⟨W.heap.size, 0, none⟩ 1 1 [.string (bs p)] rfl rfl (cell_one_new _ _ _) (by simp [Value.oneCell']) (by unfold maxLen; omega) (by omega) (by simp; omega) ?_); intro v' w1 hown' hgrow _; obtain ⟨g', cap', rfl⟩ := ownsRow_succ hown'; obtain ⟨hbox, hko⟩ := appended_box hv hown (by omega) hgrow; have hv1 := hbox _ _ _ (by omega) hv; have hc1 := hv1.cell; have hf1 := hv1.frozen))
      obtain ⟨st1, st2, st3, st4⟩ := stored_box hv1 hown' (by omega)
      refine ⟨(Keeps2.of_others hko).trans (Keeps2.of_others st4), HO.out, ⟨⟨_, st2, ?_⟩, st1 _ _ _ (by omega) (hbox _ _ _ (by omega) hr0), st1 _ _ _ (by omega) (hbox _ _ _ (by omega) hr1), ?_⟩, st1 _ _ _ (by omega) (hbox _ _ _ (by omega) hbox3)⟩
      · simpa [OwnS, strs] using st3
      · exact ((HB.out.alloc (by omega) _).grown hgrow (by simp; omega) (fun k hk => by have := (hown.lt k hk).1; omega)).setCell (p := ⟨w.heap.size + 1 + 1, 0, none⟩) (by simp; omega) _
  case iter =>
    rintro rec W1 hW1 hrdy hY
    have hcom1 : Common w.heap.size w W1 [] := by
      obtain ⟨⟨v, h1, h2⟩, h3, h4, h5⟩ := hcom
      subst hW1
      exact ⟨⟨v, (h1.alloc _).alloc _, (h2.alloc _).alloc _⟩, (h3.alloc _).alloc _, (h4.alloc _).alloc _, (h5.alloc (by omega) _).alloc (by simp; omega) _⟩
    have hbx3 : Boxed W1 (w.heap.size + 1 + 1 + 1) 9 (.string (bs t.data.toList)) := by rw [bs_of]; subst hW1; exact (bx3.alloc _).alloc _
    have HY := hide hY
    clear hY hW1 hcom bx3
    refine callsIn_of_wp Try.func20 rfl trivial ?_ rfl
    simp only [Try.ntmps20, List.size_toArray, List.length_cons, List.length_nil, Nat.reduceAdd, Nat.reduceSub, Array.replicate_succ, Array.replicate_zero, List.push_toArray, List.append_toArray, List.nil_append, List.cons_append]
    gi_wp2
    gi_loopw [3] (fun ag wr => ∃ (done : List Bytes8) (b : Bytes8) (f : Bool), ag = .bool f ∧ Hid ((f = true → partsL t.data.toList = done ++ partsL b) ∧ (f = false → partsL t.data.toList = done) ∧ done.all okP = true) ∧ b.length ≤ 500 ∧ Common w.heap.size w wr done ∧ Boxed wr (w.heap.size + 1 + 1 + 1) 9 (.string (bs b)) ∧ Ready W4.heap.size rec wr)
      (fun ag wr => boxLen (w.heap.size + 1 + 1 + 1) ag wr)
    case atStart => exact ⟨[], t.data.toList, true, rfl, ⟨fun _ => rfl, fun h => (by cases h), rfl⟩, by rw [← size_toList]; exact hts, hcom1, hbx3, hrdy⟩
    case round =>
      obtain ⟨done, b, f, rfl, HF, hbl, hcm, hbx, hrd⟩ := hrel
      cases f with
      | false =>
        have HG := hide (show DoneS w.heap.size w t.data.toList wr from ⟨by rw [HF.out.2.1 rfl]; exact HF.out.2.2, by rw [HF.out.2.1 rfl]; exact hcm⟩)
        gi_wp2
        go_end0
        exact ⟨⟨_, rfl⟩, .inl ⟨HG.out, hrd⟩⟩
      | true =>
        have HF1 := hide (HF.out.1 rfl)
        have HF2 := hide HF.out.2.2
        clear HF
        have hbs : (bs b).size ≤ 140737488355328 := by rw [bs_size]; omega
        have cb := hbx.cell
        have fb := hbx.frozen
        gi_wp2_with (with_reducible refine wide_calls ?_; go_at_call 21; refine (strCut_c (bs b) _ hbs).mono ?_; rintro e w' ⟨a, b', f', rfl, ⟨nq, rfl⟩, hc⟩; have HC := hide hc; clear hc)
        obtain ⟨fn, tmps, assign, body, hy, hR⟩ := HY.out (done, a, b') ((wr.drewN nq).setCell ⟨w.heap.size + 1 + 1 + 1, 0, none⟩ (.string (bs b')))
          ⟨hcm.box3 nq _, (show Boxed (wr.drewN nq) (w.heap.size + 1 + 1 + 1) 9 (.string (bs b)) from hbx).set _, mem_of HF1.out HC.out, len_of HF1.out (by rw [← size_toList]; exact hts)⟩
          (hrd.keeps (Keeps2.setCell _ (wr.drewN nq) _ _))
        dsimp only at hy
        clear HY
        rw [hy, Oper.uponIn_round]
        refine ⟨fun h => by simp [Fence.wide] at h, ?_⟩
        refine hR.mono ?_
        rintro e W3 (⟨rfl, ⟨hok3, hcm3, hbx3'⟩, hrd3⟩ | ⟨rfl, c, hJx, hst⟩)
        · have G := hide (step_of HF1.out HF2.out hok3 HC.out)
          have M := hide (meas_of hbx hbx3' HC.out)
          have B3 := hide (rest_of HC.out hbl)
          clear HF1 HF2 HC hok3
          gi_wp2
          go_roundw
          case rel => exact ⟨done ++ [a], b', f', rfl, G, B3.out, hcm3, hbx3', hrd3⟩
          case measure => exact M.out
        · gi_wp2
          refine bodyPost_ret (results_none rfl _ _ _) rfl ?_
          exact ⟨⟨_, rfl⟩, .inr ⟨_, c, hJx, hst⟩⟩
  case done =>
    rintro W ⟨hok, ⟨v, hv, hown⟩, hr0, hr1, hb⟩ hD
    obtain ⟨A, c, rfl⟩ := own_slice hown
    have cv := hv.cell
    have c0 := hr0.cell
    have c1 := hr1.cell
    have f0 := hr0.frozen
    have f1 := hr1.frozen
    have hD2 := (Keeps2.setCell W4.heap.size W ⟨w.heap.size, 0, none⟩ (.slice A (partsL t.data.toList).length c)).trans (Keeps2.setCell W4.heap.size _ ⟨w.heap.size + 1, 0, none⟩ (.int .i64 0)) _ _ (.inl rfl) hD rfl
    have b0 := boxed_other (a := ⟨w.heap.size + 1, 0, none⟩) (.int .i64 0) (hr0.set (.slice A (partsL t.data.toList).length c)) (by simp)
    have b1 := (boxed_other (a := ⟨w.heap.size, 0, none⟩) (.slice A (partsL t.data.toList).length c) hr1 (by simp)).set (.int .i64 0)
    have hb2 := (hb.setCell (p := ⟨w.heap.size, 0, none⟩) (Nat.le_refl _) (.slice A (partsL t.data.toList).length c)).setCell (p := ⟨w.heap.size + 1, 0, none⟩) (by simp) (.int .i64 0)
    have ho2 := ownsRow_far (a := ⟨w.heap.size + 1, 0, none⟩) (ownsRow_far (a := ⟨w.heap.size, 0, none⟩) hown (by simp; try omega) (.slice A (partsL t.data.toList).length c)) (by simp; try omega) (.int .i64 0)
    have H := hide (And.intro hD2 (And.intro b0 (And.intro b1 (And.intro hb2 (And.intro ho2 hok)))))
    clear hD2 b0 b1 hb2 ho2 hok hD hown hv hr0 hr1 hb
    gi_wp2
    obtain ⟨hD2, b0, b1, hb2, ho2, hok⟩ := H.out
    refine ⟨by simp, .inl ⟨_, _, rfl, run_takeDeferred hD2, ?_⟩⟩
    have hok' : (partsL t.data.toList).all okP = true := hok
    refine ⟨_, results8 rfl rfl (boxed_putLoop _ b0 hD2 rfl).cell (boxed_putLoop _ b1 hD2 rfl).cell, .slice A (partsL t.data.toList).length c, by rw [if_pos hok'], ?_, below_putObj _ hb2 (by omega) (Array.getElem?_eq_some_iff.1 hD2).1⟩
    try rw [if_pos hok']
    exact own_base (ownsRow_putObj ho2 _ hD2 rfl) (by omega)
  case stop =>
    rintro s' c W ⟨rfl, hbad, hmem, h0, h1, hb⟩ hD
    have hok' : ¬ (partsL t.data.toList).all okP = true := fun h => by
      have := List.all_eq_true.1 h _ hmem
      rw [hbad] at this; cases this
    gi_wp2
    refine ⟨by simp, .inl ⟨_, _, rfl, run_takeDeferred hD, ?_⟩⟩
    refine ⟨_, results8 rfl rfl (boxed_putLoop _ h0 hD rfl).cell (boxed_putLoop _ h1 hD rfl).cell, .slice none 0 0, by rw [if_neg hok'], ?_, below_putObj _ hb (by omega) (Array.getElem?_eq_some_iff.1 hD).1⟩
    try rw [if_neg hok']
    exact World.ownsRow_nil _ _ _ _
/-- path.Split -/
theorem split_c (s : ByteArray) (w : World) (hs : s.size ≤ 140737488355328) :
    Calls Try.prog 8 #[.string s] w fun e w' => ∃ v, e = .returned (.tuple #[v, .int .i64 (if (splitL s.data.toList).isSome then 0 else 15)]) ∧ OwnS w' w.heap.size v ((splitL s.data.toList).getD []) ∧ Below w.heap.size w w' := by
  have hsz := size_toList s
  have none_case : splitL s.data.toList = none → Calls Try.prog 8 #[.string s] w (fun e w' => e = .returned (.tuple #[.slice none 0 0, .int .i64 15]) ∧ Below w.heap.size w w') →
      Calls Try.prog 8 #[.string s] w fun e w' => ∃ v, e = .returned (.tuple #[v, .int .i64 (if (splitL s.data.toList).isSome then 0 else 15)]) ∧ OwnS w' w.heap.size v ((splitL s.data.toList).getD []) ∧ Below w.heap.size w w' := fun h k =>
    k.mono fun e w' ⟨h1, h2⟩ => ⟨.slice none 0 0, by subst h1; rw [h]; rfl, by rw [h]; exact World.ownsRow_nil _ _ _ _, h2⟩
  cases hl : s.data.toList with
  | nil => rw [← hl]; exact none_case (by rw [hl]; rfl) (split_none s w _ false hs (by rw [hl]; rfl) rfl (.inl rfl))
  | cons c l =>
    by_cases hc : c = 47
    · subst hc
      have hpre : Lib.hasPrefix s.data.toList [47] = true := by rw [hl]; simp [Lib.hasPrefix]
      have htr : (⟨(Lib.trimPrefix s.data.toList [47]).toArray⟩ : ByteArray) = bs l := by
        have : Lib.trimPrefix s.data.toList [47] = l := by unfold Lib.trimPrefix; rw [hpre, hl]; rfl
        rw [this]; rfl
      rw [hl] at hsz
      by_cases hlong : 500 < s.size
      · rw [← hl]
        exact none_case (by rw [hl]; rw [splitL_cons, if_pos (.inr (by simp at hsz; omega))]) (split_none s w _ true hs hpre htr (.inr hlong))
      · have hlen : l.length + 1 ≤ 500 := by simp at hsz; omega
        have hne : ¬ ((47 : UInt8) ≠ 47 ∨ 500 < l.length + 1) := by simp; omega
        by_cases hnil : l = []
        · subst hnil
          have e : splitL [47] = some [] := rfl
          rw [e]
          exact (split_root s w (by omega) hpre htr).mono fun e w' ⟨h1, h2⟩ => ⟨_, h1, World.ownsRow_nil _ _ _ _, h2⟩
        · have e : splitL (47 :: l) = if (partsL l).all okP then some (partsL l) else none := by
            rw [splitL_cons, if_neg hne, if_neg hnil]
          rw [e]
          refine (split_main s (bs l) w (by omega) (by rw [bs_size]; omega) hpre htr (by simpa using hnil)).mono fun e w' ⟨v, h1, h2, h3⟩ => ⟨v, ?_, ?_, h3⟩
          · rw [h1, bs_data]
            by_cases ha : (partsL l).all okP = true
            · rw [if_pos ha, if_pos ha]; rfl
            · rw [if_neg ha, if_neg ha]; rfl
          · rw [bs_data] at h2
            by_cases ha : (partsL l).all okP = true
            · rw [if_pos ha] at h2 ⊢; exact h2
            · rw [if_neg ha] at h2 ⊢; exact h2
    · rw [← hl]
      have hpre : Lib.hasPrefix s.data.toList [47] = false := by rw [hl]; unfold Lib.hasPrefix; simp only [List.isPrefixOf]; simp [Ne.symm hc]
      exact none_case (by rw [hl]; rw [splitL_cons, if_pos (.inl hc)]) (split_none s w _ false hs hpre rfl (.inl rfl))
end Go.Proofs.Ytbmdaeeilnghiaa
