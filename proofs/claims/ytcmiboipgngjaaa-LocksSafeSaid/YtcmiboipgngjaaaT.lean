/-
  A table that holds H and rows R: New, Ask, Release, Holds, Waits, Holders. Conditions: lengths.
-/
import Derived.Test.YtcmiboipgngjaaaU2
import Derived.Test.YtcmiboipgngjaaaQ
namespace Go.Proofs.Ytcmiboipgngjaaa
set_option linter.unusedVariables false
set_option linter.unusedSimpArgs false
open Go.RowKit Go.Maps

def Tied (l : List Tm) (H R : List Lk) : Prop := (l.map Tm.n).Nodup ∧ (∀ t ∈ l, t.h = onT t.n H ∧ t.w = onT t.n R) ∧ ∀ x, x ∈ H ∨ x ∈ R → ∃ t ∈ l, t.n = x.tg
def TB (g : Nat) (H R : List Lk) (q : Nat) (ps : List Atom) : Prop := ∃ bt bw l, ps = tParts g bt bw l (fW R) ∧ Tied l H R ∧ l.length ≤ q
structure Sm (H R : List Lk) (q : Nat) : Prop where
  ok : Ok H R
  len : H.length + R.length < 549755813888
  q : q < 549755813888
def askB (H R : List Lk) (x : Lk) : Bool := !waitsP R x.th && !holdsP H x.th x.tg && freeP H R x
def askH (H R : List Lk) (x : Lk) : List Lk := if askB H R x then H ++ [x] else H
def askR (H R : List Lk) (x : Lk) : List Lk := if !waitsP R x.th && !holdsP H x.th x.tg && !freeP H R x then R ++ [x] else R
theorem Ok.ask {H R : List Lk} (h : Ok H R) {x : Lk} (hw : (Lit.int .i64 x.th).wf = true ∧ (Lit.int .i64 x.tg).wf = true) : Ok (askH H R x) (askR H R x) := by
  unfold askH askR askB
  cases h1 : waitsP R x.th with
  | true => simpa using h
  | false =>
    cases h2 : holdsP H x.th x.tg with
    | true => simpa using h
    | false =>
      cases h3 : freeP H R x with
      | true => simpa using h.askYes hw h1 h2 h3
      | false => simpa using h.askRow hw h1 h2 h3
theorem ask_len (H R : List Lk) (x : Lk) : (askH H R x).length + (askR H R x).length ≤ H.length + R.length + 1 := by
  unfold askH askR askB
  cases waitsP R x.th <;> cases holdsP H x.th x.tg <;> cases freeP H R x <;> simp <;> omega
theorem rel_none {H R : List Lk} (h : Ok H R) {th k : Int} (hh : holdsP H th k = false) : gotP H R th k = [] ∧ relH H R th k = H ∧ relR H R th k = R := by
  have e1 : offT th k H = H := List.filter_eq_self.2 fun x hx => by
    have := List.any_eq_false.1 hh x hx
    cases hq : (x.th == th && x.tg == k) with
    | false => rfl
    | true => exact absurd hq this
  have e2 : gotP H R th k = [] := by
    unfold gotP
    rw [e1]
    cases hq : onT k R with
    | nil => rfl
    | cons x r => rw [grant_no (h.blocked k x r hq)]
  refine ⟨e2, by unfold relH; rw [e1, e2, List.append_nil], ?_⟩
  unfold relR
  rw [e2]
  exact List.filter_eq_self.2 fun x _ => rfl
theorem rel_le {H R : List Lk} (h : Ok H R) (th k : Int) : (relH H R th k).length + 2 * (relR H R th k).length ≤ H.length + 2 * R.length := by
  cases hh : holdsP H th k with
  | true => exact Nat.le_of_lt (rel_less h hh)
  | false => obtain ⟨_, e2, e3⟩ := rel_none h hh; rw [e2, e3]; exact Nat.le_refl _
section
variable {H R : List Lk} {l l1 l2 : List Tm} {t : Tm} {k : Int}
theorem Tied.find (h : Tied l H R) (k : Int) : (l.find? (fun t => t.n == k) = none ∧ onT k H = [] ∧ onT k R = []) ∨ ∃ t, l.find? (fun t => t.n == k) = some t ∧ t.n = k ∧ t.h = onT k H ∧ t.w = onT k R := by
  cases hf : l.find? (fun t => t.n == k) with
  | none =>
    refine .inl ⟨rfl, ?_, ?_⟩ <;> refine List.filter_eq_nil_iff.2 fun x hx e => ?_
    · obtain ⟨t, ht, e2⟩ := h.2.2 x (.inl hx)
      have := List.find?_eq_none.1 hf t ht
      rw [e2] at this; exact this e
    · obtain ⟨t, ht, e2⟩ := h.2.2 x (.inr hx)
      have := List.find?_eq_none.1 hf t ht
      rw [e2] at this; exact this e
  | some t =>
    have e : t.n = k := by have := List.find?_some hf; simpa using this
    have := h.2.1 t (List.mem_of_find?_eq_some hf)
    rw [e] at this
    exact .inr ⟨t, rfl, e, this.1, this.2⟩
theorem Tied.holdsT (h : Tied l H R) (k : Int) : holdsT l k = onT k H := by
  unfold Ytcmiboipgngjaaa.holdsT
  rcases h.find k with ⟨e, e1, -⟩ | ⟨t, e, -, e1, -⟩
  · rw [e, e1]
  · rw [e]; exact e1
theorem any_onT (H : List Lk) (th k : Int) : (onT k H).any (fun x => x.th == th) = holdsP H th k := by
  unfold onT holdsP
  rw [List.any_filter]
  congr 1
  funext x
  rw [Bool.and_comm]
theorem Tied.holdsL (h : Tied l H R) (k th : Int) : holdsL l k th = holdsP H th k := by
  unfold Ytcmiboipgngjaaa.holdsL
  rw [← any_onT]
  rcases h.find k with ⟨e, e1, -⟩ | ⟨t, e, -, e1, -⟩
  · rw [e, e1]; rfl
  · rw [e, ← e1]
theorem onT_len (k : Int) (l : List Lk) : (onT k l).length ≤ l.length := List.length_filter_le _ _
theorem Tied.lens (h : Tied l H R) {m : Nat} (hl : H.length + R.length < m) : ∀ t ∈ l, t.h.length < m ∧ t.w.length < m := fun t ht => by
  obtain ⟨e1, e2⟩ := h.2.1 t ht
  rw [e1, e2]
  have := onT_len t.n H
  have := onT_len t.n R
  omega
/-- one thing turns -/
theorem Tied.turn {t' : Tm} {H' R' : List Lk} (h : Tied (l1 ++ t :: l2) H R) (en : t'.n = t.n) (e1 : t'.h = onT t.n H') (e2 : t'.w = onT t.n R') (ho : ∀ n, n ≠ t.n → onT n H' = onT n H ∧ onT n R' = onT n R) : Tied (l1 ++ t' :: l2) H' R' := by
  obtain ⟨h1, h2, h3⟩ := h
  have hm : (l1 ++ t' :: l2).map Tm.n = (l1 ++ t :: l2).map Tm.n := by simp [en]
  have hne : ∀ u, u ∈ l1 ∨ u ∈ l2 → u.n ≠ t.n := fun u hu e => by
    rw [List.map_append, List.map_cons, List.nodup_append, List.nodup_cons] at h1
    rcases hu with hu | hu
    · exact h1.2.2 _ (List.mem_map.2 ⟨u, hu, rfl⟩) _ List.mem_cons_self e
    · exact h1.2.1.1 (List.mem_map.2 ⟨u, hu, e⟩)
  refine ⟨by rw [hm]; exact h1, fun u hu => ?_, fun x hx => ?_⟩
  · rcases List.mem_append.1 hu with hu | hu
    · obtain ⟨q1, q2⟩ := ho u.n (hne u (.inl hu))
      rw [q1, q2]; exact h2 u (by simp [hu])
    · rcases List.mem_cons.1 hu with rfl | hu
      · rw [en]; exact ⟨e1, e2⟩
      · obtain ⟨q1, q2⟩ := ho u.n (hne u (.inr hu))
        rw [q1, q2]; exact h2 u (by simp [hu])
  · by_cases e : x.tg = t.n
    · exact ⟨t', by simp, by rw [en, e]⟩
    · obtain ⟨q1, q2⟩ := ho x.tg e
      have hx2 : x ∈ H ∨ x ∈ R := by
        rcases hx with hx | hx
        · exact .inl (mem_onT.1 (q1 ▸ mem_onT.2 ⟨hx, rfl⟩ : x ∈ onT x.tg H)).1
        · exact .inr (mem_onT.1 (q2 ▸ mem_onT.2 ⟨hx, rfl⟩ : x ∈ onT x.tg R)).1
      obtain ⟨u, hu, e2⟩ := h3 x hx2
      have : u.n ∈ (l1 ++ t' :: l2).map Tm.n := by rw [hm]; exact List.mem_map.2 ⟨u, hu, rfl⟩
      obtain ⟨v, hv, e3⟩ := List.mem_map.1 this
      exact ⟨v, hv, e3.trans e2⟩
theorem OfR.tied {l' : List Tm} (h : Tied l H R) (ho : OfR l k l' t) : Tied l' H R ∧ l'.length ≤ l.length + 1 ∧ t.h = onT k H ∧ t.w = onT k R := by
  rcases ho with ⟨rfl, hf⟩ | ⟨hf, rfl, x, rfl⟩
  · rcases h.find k with ⟨e, -⟩ | ⟨u, e, e0, e1, e2⟩
    · rw [e] at hf; cases hf
    · rw [e] at hf; cases hf; exact ⟨h, Nat.le_succ _, e1, e2⟩
  · rcases h.find k with ⟨-, e1, e2⟩ | ⟨u, e, -⟩
    · refine ⟨⟨?_, fun u hu => ?_, fun y hy => ?_⟩, by simp, e1.symm, e2.symm⟩
      · rw [List.map_append, List.nodup_append]
        refine ⟨h.1, by simp, fun a ha b hb e => ?_⟩
        obtain ⟨u, hu, rfl⟩ := List.mem_map.1 ha
        rw [List.map_singleton, List.mem_singleton] at hb
        have := List.find?_eq_none.1 hf u hu
        simp [e, hb] at this
      · rcases List.mem_append.1 hu with hu | hu
        · exact h.2.1 u hu
        · rw [List.mem_singleton.1 hu]; exact ⟨e1.symm, e2.symm⟩
      · obtain ⟨u, hu, e⟩ := h.2.2 y hy
        exact ⟨u, by simp [hu], e⟩
    · rw [e] at hf; cases hf
end
section
variable {n g q : Nat} {w W : World} {F ps : List Atom} {H R : List Lk}
theorem tnew_c (h : Own n w W F) : Calls Try.prog 10 #[] W fun e W' => ∃ g ps, e = .returned (.pointer (some ⟨g, 0, none⟩)) ∧ TB g [] [] 0 ps ∧ Own n w W' (ps ++ F) :=
  (new_c h).mono fun e W' ⟨g, bt, bw, he, ho⟩ => ⟨g, _, he, ⟨bt, bw, [], rfl, ⟨by simp, by simp, by simp⟩, Nat.le_refl _⟩, by
    have e1 : fW [] = fun _ => none := by funext y; rfl
    rw [e1]; exact ho⟩
theorem tholds_c (hg : TB g H R q ps) (hs : Sm H R q) (ho : Own n w W (ps ++ F)) (th k : Int) (hw : (Lit.int .i64 k).wf = true) :
    Calls Try.prog 16 #[.pointer (some ⟨g, 0, none⟩), .int .i64 th, .int .i64 k] W fun e W' => e = .returned (.bool (holdsP H th k)) ∧ Own n w W' (ps ++ F) := by
  obtain ⟨bt, bw, l, rfl, ht, hl⟩ := hg
  refine (holds_c ho k th hw (fun t h => by have := (ht.lens hs.len t h).1; omega)).mono ?_
  rintro e W' ⟨rfl, hb⟩
  exact ⟨by rw [ht.holdsL], ho.above hb⟩
theorem twaits_c (hg : TB g H R q ps) (ho : Own n w W (ps ++ F)) (th : Int) (hw : (Lit.int .i64 th).wf = true) :
    Calls Try.prog 13 #[.pointer (some ⟨g, 0, none⟩), .int .i64 th] W fun e W' => e = .returned (.tuple #[((fW R th).getD zl).v, .bool (waitsP R th)]) ∧ Own n w W' (ps ++ F) := by
  obtain ⟨bt, bw, l, rfl, ht, hl⟩ := hg
  rw [← fW_isSome]
  exact waits_c ho th hw
theorem tholders_c (hg : TB g H R q ps) (hs : Sm H R q) (ho : Own n w W (ps ++ F)) (k : Int) (hw : (Lit.int .i64 k).wf = true) :
    Calls Try.prog 15 #[.pointer (some ⟨g, 0, none⟩), .int .i64 k] W fun e W' => ∃ v, e = .returned v ∧ Own n w W' (rowA 3 1 v (sortI ((onT k H).map Lk.th)).length (ints (sortI ((onT k H).map Lk.th))) :: (ps ++ F)) := by
  obtain ⟨bt, bw, l, rfl, ht, hl⟩ := hg
  rw [← ht.holdsT]
  exact holders_c ho k hw (fun t h => by have := (ht.lens hs.len t h).1; omega)
theorem task_c (hg : TB g H R q ps) (hs : Sm H R q) (ho : Own n w W (ps ++ F)) (x : Lk) (hw : (Lit.int .i64 x.th).wf = true ∧ (Lit.int .i64 x.tg).wf = true) :
    Calls Try.prog 11 #[.pointer (some ⟨g, 0, none⟩), x.v] W fun e W' => e = .returned (.bool (askB H R x)) ∧ ∃ ps', TB g (askH H R x) (askR H R x) (q + 1) ps' ∧ Own n w W' (ps' ++ F) := by
  obtain ⟨bt, bw, l, rfl, ht, hl⟩ := hg
  have hq := hs.q
  unfold askH askR askB
  cases h1 : waitsP R x.th with
  | true =>
    rw [← fW_isSome] at h1
    obtain ⟨y, hy⟩ := Option.isSome_iff_exists.1 h1
    refine (ask_wait ho x y hw.1 hy).mono ?_
    rintro e W' ⟨rfl, h2⟩
    exact ⟨by simp, _, ⟨bt, bw, l, rfl, by simpa using ht, by omega⟩, by simpa using h2⟩
  | false =>
    have hf := fW_none h1
    cases h2 : holdsP H x.th x.tg with
    | true =>
      refine (ask_held ho x hw.1 hw.2 hf (fun t h => by have := (ht.lens hs.len t h).1; omega) (by rw [ht.holdsL]; exact h2)).mono ?_
      rintro e W' ⟨rfl, h3⟩
      exact ⟨by simp, _, ⟨bt, bw, l, rfl, by simpa using ht, by omega⟩, by simpa using h3⟩
    | false =>
      refine (ask_go ho x hw.1 hw.2 hf (by omega) (fun t h => by have := ht.lens hs.len t h; omega) (by rw [ht.holdsL]; exact h2) (R.map Lk.th) (fun y hy => by
        rw [fW_isSome] at hy
        obtain ⟨z, hz, e⟩ := waitsP_mem.1 hy
        exact List.mem_map.2 ⟨z, hz, e⟩) (by rw [List.length_map]; have := hs.len; omega)).mono ?_
      rintro e W' ⟨l', t, l1, l2, hof, rfl, hgo⟩
      obtain ⟨ht2, hl2, eh, ew⟩ := OfR.tied ht hof
      have en := hof.split.1
      have hfr : freeP H R x = (t.w.isEmpty && besideL t.h x) := by unfold freeP; rw [eh, ew]
      rcases hgo with ⟨c1, c2, rfl, vh, h3⟩ | ⟨c1, rfl, vw, h3⟩
      · have hfy : freeP H R x = true := by rw [hfr, c1, c2]; rfl
        rw [hfy]
        refine ⟨by simp, _, ⟨bt, bw, l1 ++ ⟨t.n, t.x, vh, t.vw, t.h ++ [x], t.w⟩ :: l2, rfl, ?_, by simp at hl2 ⊢; omega⟩, by simpa using h3⟩
        simp only [Bool.not_false, Bool.and_self, Bool.and_true, if_true, Bool.not_true, Bool.and_false, Bool.false_eq_true, if_false]
        refine ht2.turn rfl ?_ ?_ (fun m hm => ⟨?_, rfl⟩)
        · show t.h ++ [x] = _
          rw [onT_append, eh, en, onT_one_eq]
        · show t.w = _
          rw [ew, en]
        · rw [onT_append, onT_one_ne (fun e => hm (by rw [en, e])), List.append_nil]
      · have hfn : freeP H R x = false := by
          rw [hfr]
          cases hq1 : t.w.isEmpty with
          | false => rfl
          | true =>
            cases hq2 : besideL t.h x with
            | false => rfl
            | true => exact absurd ⟨by simpa using hq1, hq2⟩ c1
        rw [hfn]
        refine ⟨by simp, _, ⟨bt, bw, l1 ++ ⟨t.n, t.x, t.vh, vw, t.h, t.w ++ [x]⟩ :: l2, rfl, ?_, by simp at hl2 ⊢; omega⟩, ?_⟩
        · simp only [Bool.not_false, Bool.and_self, Bool.and_true, if_true, Bool.not_true, Bool.and_false, Bool.false_eq_true, if_false]
          refine ht2.turn rfl ?_ ?_ (fun m hm => ⟨rfl, ?_⟩)
          · show t.h = _
            rw [eh, en]
          · show t.w ++ [x] = _
            rw [onT_append, ew, en, onT_one_eq]
          · rw [onT_append, onT_one_ne (fun e => hm (by rw [en, e])), List.append_nil]
        · simp only [Bool.not_false, Bool.and_self, Bool.and_true, if_true]
          rw [fW_snoc h1]; exact h3
/-- Release, over any part that holds the map of things -/
theorem mrel_c {M : (Int → Option Value) → Atom} {bt bw : Nat} {l : List Tm} (ht : Tied l H R) (hok : Ok H R) (hlen : H.length + R.length < 549755813888) (ho : Own n w W (tPartsM M g bt bw l (fW R) ++ F)) (th k : Int) (hw : (Lit.int .i64 k).wf = true) (hM : MapLike bt M) :
    Calls Try.prog 14 #[.pointer (some ⟨g, 0, none⟩), .int .i64 th, .int .i64 k] W fun e W' => ∃ v l', e = .returned v ∧ Tied l' (relH H R th k) (relR H R th k) ∧ l'.length = l.length ∧ locT l' = locT l ∧ Own n w W' (offA 3 v (gotP H R th k).length (cellsK (gotP H R th k)) :: (tPartsM M g bt bw l' (fW (relR H R th k)) ++ F)) := by
  cases hh : holdsP H th k with
  | false =>
    obtain ⟨e1, e2, e3⟩ := rel_none hok hh
    rw [e1, e2, e3]
    refine (release_no ho k th hw (fun t h => by have := (ht.lens hlen t h).1; omega) (by rw [ht.holdsL]; exact hh)).mono ?_
    rintro e W' ⟨rfl, h1⟩
    exact ⟨_, l, rfl, ht, rfl, rfl, h1.nilOff 3⟩
  | true =>
    rcases ht.find k with ⟨-, e1, -⟩ | ⟨t, hf, en, eh, ew⟩
    · rw [← any_onT, e1] at hh; cases hh
    · obtain ⟨-, l1, l2, rfl⟩ := find_split hf
      have hlk := onT_len k H
      have hlr := onT_len k R
      refine (release_go ho k th hw hf (fun u h => by have := (ht.lens hlen u h).1; omega) (by rw [eh, ew]; omega) (fun x hx => by rw [ew] at hx; exact (hok.wfs x (.inr (mem_onT.1 hx).1)).1) (by rw [eh, any_onT]; exact hh)).mono ?_
      rintro e W' ⟨v, vh, vw, rfl, h1⟩
      have eg : (grantL (t.h.filter (fun x => !(x.th == th))) t.w).1 = gotP H R th k := by rw [eh, ew, ← onT_off_eq]; rfl
      have er : (grantL (t.h.filter (fun x => !(x.th == th))) t.w).2 = onT k (relR H R th k) := by rw [eh, ew, ← onT_off_eq]; exact (onT_relR_eq hok.nd).symm
      rw [eg, er, ← fW_rel] at h1
      refine ⟨v, _, rfl, ht.turn (t' := ⟨t.n, t.x, vh, vw, t.h.filter (fun x => !(x.th == th)) ++ gotP H R th k, onT k (relR H R th k)⟩) rfl ?_ ?_ (fun m hm => ⟨?_, ?_⟩), by simp, locT_set rfl rfl, h1⟩
      · show t.h.filter _ ++ _ = _
        rw [en, onT_relH_eq, eh]
      · show onT k _ = _
        rw [en]
      · exact onT_relH_ne (by rw [← en]; exact hm)
      · exact onT_relR_ne hok.nd (by rw [← en]; exact hm)
theorem trel_c (hg : TB g H R q ps) (hs : Sm H R q) (ho : Own n w W (ps ++ F)) (th k : Int) (hw : (Lit.int .i64 k).wf = true) :
    Calls Try.prog 14 #[.pointer (some ⟨g, 0, none⟩), .int .i64 th, .int .i64 k] W fun e W' => ∃ v ps', e = .returned v ∧ TB g (relH H R th k) (relR H R th k) q ps' ∧ Own n w W' (offA 3 v (gotP H R th k).length (cellsK (gotP H R th k)) :: (ps' ++ F)) := by
  obtain ⟨bt, bw, l, rfl, ht, hl⟩ := hg
  refine (mrel_c ht hs.ok hs.len ho th k hw (mlike bt)).mono ?_
  rintro e W' ⟨v, l', rfl, h1, h2, -, h3⟩
  exact ⟨v, _, rfl, ⟨bt, bw, l', rfl, h1, by omega⟩, h3⟩
end
end Go.Proofs.Ytcmiboipgngjaaa
