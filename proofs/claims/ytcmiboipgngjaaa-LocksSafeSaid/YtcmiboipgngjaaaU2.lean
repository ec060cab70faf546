/-
  Releasing in plain words; who is stuck does not hang on the order. No program.
-/
import Derived.Test.YtcmiboipgngjaaaU
namespace Go.Proofs.Ytcmiboipgngjaaa
set_option linter.unusedVariables false
set_option linter.unusedSimpArgs false
open Go.RowKit

section
variable {H R : List Lk} {th k n : Int}
theorem onT_off_eq : onT k (offT th k H) = (onT k H).filter (fun x => !(x.th == th)) := by
  unfold onT offT
  rw [List.filter_filter, List.filter_filter]
  refine List.filter_congr fun x _ => ?_
  cases h1 : (x.tg == k) <;> cases h2 : (x.th == th) <;> simp [h1, h2]
theorem onT_off_ne (h : n ≠ k) : onT n (offT th k H) = onT n H := by
  unfold onT offT
  rw [List.filter_filter]
  refine List.filter_congr fun x _ => ?_
  by_cases e : x.tg = n
  · have : ¬ x.tg = k := fun q => h (e ▸ q)
    simp [e, this, h]
  · simp [e]
theorem len_filter_not {α : Type} (p : α → Bool) : ∀ l : List α, (l.filter p).length + (l.filter (fun x => !p x)).length = l.length
  | [] => rfl
  | x :: l => by
    have := len_filter_not p l
    cases h : p x <;> simp [h] <;> omega
theorem nodup_of_map {l : List Lk} (h : (l.map Lk.th).Nodup) : l.Nodup := (List.pairwise_map.1 h).imp fun hne e => hne (congrArg _ e)
theorem got_rest (H R : List Lk) (th k : Int) : gotP H R th k ++ (grantL (onT k (offT th k H)) (onT k R)).2 = onT k R := grant_split _ _
theorem got_mem {x : Lk} (h : x ∈ gotP H R th k) : x ∈ R ∧ x.tg = k := by
  have : x ∈ onT k R := by rw [← got_rest H R th k]; exact List.mem_append_left _ h
  exact mem_onT.1 this
theorem onT_got_eq : onT k (gotP H R th k) = gotP H R th k := List.filter_eq_self.2 fun x hx => by have := (got_mem hx).2; simp [this]
theorem onT_got_ne (h : n ≠ k) : onT n (gotP H R th k) = [] := List.filter_eq_nil_iff.2 fun x hx => by
  have e := (got_mem hx).2
  simp only [beq_iff_eq]
  intro q; exact h (q ▸ e)
theorem onT_relH_eq : onT k (relH H R th k) = (onT k H).filter (fun x => !(x.th == th)) ++ gotP H R th k := by unfold relH; rw [onT_append, onT_off_eq, onT_got_eq]
theorem onT_relH_ne (h : n ≠ k) : onT n (relH H R th k) = onT n H := by unfold relH; rw [onT_append, onT_off_ne h, onT_got_ne h, List.append_nil]
theorem onT_relR (n : Int) : onT n (relR H R th k) = (onT n R).filter (fun x => !(gotP H R th k).any (fun y => y.th == x.th)) := by
  unfold onT relR
  rw [List.filter_filter, List.filter_filter]
  refine List.filter_congr fun x _ => ?_
  rw [Bool.and_comm]
theorem nd_inj (hd : (R.map Lk.th).Nodup) {x y : Lk} (hx : x ∈ R) (hy : y ∈ R) (e : x.th = y.th) : x = y := by
  induction R with
  | nil => cases hx
  | cons a R ih =>
    rw [List.map_cons, List.nodup_cons] at hd
    rcases List.mem_cons.1 hx with q1 | q1 <;> rcases List.mem_cons.1 hy with q2 | q2
    · rw [q1, q2]
    · exact absurd (List.mem_map.2 ⟨y, q2, by rw [← e, q1]⟩) hd.1
    · exact absurd (List.mem_map.2 ⟨x, q1, by rw [e, q2]⟩) hd.1
    · exact ih hd.2 q1 q2
theorem any_got (hd : (R.map Lk.th).Nodup) {x : Lk} (hx : x ∈ R) : (gotP H R th k).any (fun y => y.th == x.th) = true ↔ x ∈ gotP H R th k := by
  rw [List.any_eq_true]
  constructor
  · rintro ⟨y, hy, e⟩
    rw [beq_iff_eq] at e
    rw [← nd_inj hd (got_mem hy).1 hx e]; exact hy
  · intro h; exact ⟨x, h, by simp⟩
theorem mem_relR (hd : (R.map Lk.th).Nodup) {x : Lk} : x ∈ relR H R th k ↔ x ∈ R ∧ x ∉ gotP H R th k := by
  unfold relR
  rw [List.mem_filter]
  constructor
  · rintro ⟨h1, h2⟩
    refine ⟨h1, fun h => ?_⟩
    rw [(any_got hd h1).2 h] at h2; cases h2
  · rintro ⟨h1, h2⟩
    refine ⟨h1, ?_⟩
    cases hq : (gotP H R th k).any (fun y => y.th == x.th) with
    | true => exact absurd ((any_got hd h1).1 hq) h2
    | false => rfl
theorem nd_onT (hd : (R.map Lk.th).Nodup) (n : Int) : ((onT n R).map Lk.th).Nodup := hd.sublist (List.filter_sublist.map _)
theorem onT_relR_eq (hd : (R.map Lk.th).Nodup) : onT k (relR H R th k) = (grantL (onT k (offT th k H)) (onT k R)).2 := by
  rw [onT_relR]
  have h1 := nd_onT hd k
  conv => lhs; arg 2; rw [← got_rest H R th k]
  rw [← got_rest H R th k, List.map_append, List.nodup_append] at h1
  rw [List.filter_append]
  have e1 : (gotP H R th k).filter (fun x => !(gotP H R th k).any (fun y => y.th == x.th)) = [] := List.filter_eq_nil_iff.2 fun x hx => by
    have : (gotP H R th k).any (fun y => y.th == x.th) = true := List.any_eq_true.2 ⟨x, hx, by simp⟩
    simp [this]
  rw [e1, List.nil_append]
  refine List.filter_eq_self.2 fun x hx => ?_
  have : (gotP H R th k).any (fun y => y.th == x.th) = false := List.any_eq_false.2 fun y hy e => by
    rw [beq_iff_eq] at e
    exact h1.2.2 _ (List.mem_map.2 ⟨y, hy, rfl⟩) _ (List.mem_map.2 ⟨x, hx, rfl⟩) e
  rw [this]; rfl
theorem onT_relR_ne (hd : (R.map Lk.th).Nodup) (h : n ≠ k) : onT n (relR H R th k) = onT n R := by
  rw [onT_relR]
  refine List.filter_eq_self.2 fun x hx => ?_
  obtain ⟨h1, h2⟩ := mem_onT.1 hx
  have : (gotP H R th k).any (fun y => y.th == x.th) = false := by
    cases hq : (gotP H R th k).any (fun y => y.th == x.th) with
    | false => rfl
    | true =>
      have := (got_mem ((any_got hd h1).1 hq)).2
      exact absurd (h2.symm.trans this) h
  rw [this]; rfl
theorem fW_rel (H R : List Lk) (th k : Int) : fW (relR H R th k) = delF (fW R) (gotP H R th k) := by
  funext y
  unfold fW relR delF
  rw [List.find?_filter]
  cases hq : (gotP H R th k).any (fun x => x.th == y) with
  | true =>
    rw [if_pos rfl]
    refine List.find?_eq_none.2 fun x hx => ?_
    by_cases e : x.th = y
    · rw [e, hq]; simp
    · simp [e]
  | false =>
    rw [if_neg (by simp)]
    congr 1
    funext x
    by_cases e : x.th = y
    · rw [e, hq]; simp
    · simp [e]
theorem grant_stop : ∀ (w h : List Lk) (y : Lk) (r : List Lk), (grantL h w).2 = y :: r → besideL (h ++ (grantL h w).1) y = false
  | [], h, y, r, e => by rw [grantL] at e; cases e
  | x :: w, h, y, r, e => by
    cases hb : besideL h x with
    | true =>
      rw [grant_yes hb] at e ⊢
      have := grant_stop w (h ++ [x]) y r e
      rw [List.append_assoc] at this
      exact this
    | false =>
      rw [grant_no hb] at e ⊢
      cases e
      rw [List.append_nil]; exact hb
theorem grant_mem : ∀ (w h g1 : List Lk) (y : Lk) (g2 : List Lk), (grantL h w).1 = g1 ++ y :: g2 → besideL (h ++ g1) y = true
  | [], h, g1, y, g2, e => by rw [grantL] at e; simp at e
  | x :: w, h, g1, y, g2, e => by
    cases hb : besideL h x with
    | true =>
      rw [grant_yes hb] at e
      cases g1 with
      | nil => rw [List.nil_append] at e; cases e; rw [List.append_nil]; exact hb
      | cons a g1 =>
        rw [List.cons_append] at e
        injection e with e1 e2
        subst e1
        have := grant_mem w (h ++ [x]) g1 y g2 e2
        rw [List.append_assoc] at this
        exact this
    | false => rw [grant_no hb] at e; simp at e
theorem Ok.rel (h : Ok H R) (th k : Int) : Ok (relH H R th k) (relR H R th k) := by
  have hoff : ∀ x ∈ offT th k H, x ∈ H := fun x hx => (List.mem_filter.1 hx).1
  refine ⟨fun x hx => ?_, h.nd.sublist (List.filter_sublist.map _), ?_, fun x hx y hy => ?_, fun n x r hr => ?_⟩
  · rcases hx with hx | hx
    · rcases List.mem_append.1 hx with hx | hx
      · exact h.wfs x (.inl (hoff x hx))
      · exact h.wfs x (.inr (got_mem hx).1)
    · exact h.wfs x (.inr (List.mem_filter.1 hx).1)
  · unfold relH
    rw [List.pairwise_append]
    refine ⟨h.uniq.sublist List.filter_sublist, ?_, fun a ha b hb => ?_⟩
    · have h1 := nd_onT h.nd k
      rw [← got_rest H R th k, List.map_append, List.nodup_append] at h1
      exact (List.pairwise_map.1 h1.1).imp fun hne e => hne e.1
    · exact h.free b (got_mem hb).1 a (hoff a ha)
  · obtain ⟨h1, h2⟩ := (mem_relR h.nd).1 hx
    rcases List.mem_append.1 hy with hy | hy
    · exact h.free x h1 y (hoff y hy)
    · rintro ⟨e, -⟩
      have := nd_inj h.nd (got_mem hy).1 h1 e
      exact h2 (this ▸ hy)
  · by_cases e : n = k
    · subst e
      rw [onT_relR_eq h.nd] at hr
      have := grant_stop _ _ _ _ hr
      rw [onT_relH_eq, ← onT_off_eq]
      exact this
    · rw [onT_relR_ne h.nd e] at hr
      rw [onT_relH_ne e]
      exact h.blocked n x r hr
theorem rel_less (h : Ok H R) (hh : holdsP H th k = true) : (relH H R th k).length + 2 * (relR H R th k).length < H.length + 2 * R.length := by
  have h1 : (offT th k H).length < H.length := by
    obtain ⟨x, hx, e1, e2⟩ := holdsP_mem.1 hh
    refine Nat.lt_of_le_of_ne (List.length_filter_le _ _) fun e => ?_
    have := List.length_filter_eq_length_iff.1 e x hx
    simp [e1, e2] at this
  have h2 : (relR H R th k).length + (gotP H R th k).length ≤ R.length := by
    have e := len_filter_not (fun x : Lk => (gotP H R th k).any (fun y => y.th == x.th)) R
    have h3 : (gotP H R th k).length ≤ (R.filter (fun x => (gotP H R th k).any (fun y => y.th == x.th))).length := by
      have h1 := nd_onT h.nd k
      rw [← got_rest H R th k, List.map_append, List.nodup_append] at h1
      have := nodup_le (m := (R.filter (fun x => (gotP H R th k).any (fun y => y.th == x.th))).map Lk.th) h1.1 (fun u hu => by
        obtain ⟨x, hx, rfl⟩ := List.mem_map.1 hu
        exact List.mem_map.2 ⟨x, List.mem_filter.2 ⟨(got_mem hx).1, List.any_eq_true.2 ⟨x, hx, by simp⟩⟩, rfl⟩)
      simpa using this
    unfold relR
    omega
  unfold relH
  rw [List.length_append]
  omega
/-- T: threads each of which waits behind one of T, or for one that T holds -/
def Closed (H R : List Lk) (T : Int → Prop) : Prop := ∀ th, T th → ∃ x ∈ R, x.th = th ∧ ((∃ pre post, onT x.tg R = pre ++ x :: post ∧ ∃ y ∈ pre, T y.th) ∨ ∃ h ∈ onT x.tg H, (h.al = true ∨ x.al = true) ∧ T h.th)
theorem split_uniq {α : Type} {a b c d : List α} {x : α} (hn : (a ++ x :: b).Nodup) (e : a ++ x :: b = c ++ x :: d) : a = c := by
  induction a generalizing c with
  | nil =>
    cases c with
    | nil => rfl
    | cons y c =>
      rw [List.nil_append, List.cons_append] at e
      injection e with e1 e2
      rw [List.nil_append, List.nodup_cons] at hn
      exact absurd (by rw [e2]; simp) hn.1
  | cons y a ih =>
    cases c with
    | nil =>
      rw [List.nil_append, List.cons_append] at e
      injection e with e1 e2
      rw [List.cons_append, List.nodup_cons] at hn
      exact absurd (by rw [e1]; simp) hn.1
    | cons z c =>
      rw [List.cons_append, List.cons_append] at e
      injection e with e1 e2
      rw [List.cons_append, List.nodup_cons] at hn
      rw [e1, ih hn.2 e2]
theorem first_with {α : Type} {p : α → Prop} : ∀ {l : List α}, (∃ x ∈ l, p x) → ∃ a x b, l = a ++ x :: b ∧ p x ∧ ∀ y ∈ a, ¬ p y
  | [], h => by obtain ⟨x, hx, _⟩ := h; cases hx
  | y :: l, h => by
    by_cases hy : p y
    · exact ⟨[], y, l, rfl, hy, by simp⟩
    · obtain ⟨x, hx, hp⟩ := h
      rcases List.mem_cons.1 hx with rfl | hx
      · exact absurd hp hy
      · obtain ⟨a, z, b, rfl, h1, h2⟩ := first_with (l := l) ⟨x, hx, hp⟩
        refine ⟨y :: a, z, b, rfl, h1, fun u hu => ?_⟩
        rcases List.mem_cons.1 hu with rfl | hu
        · exact hy
        · exact h2 u hu
theorem closed_step (h : Ok H R) (hw : waitsP R th = false) (T : Int → Prop) : Closed H R T ↔ Closed (relH H R th k) (relR H R th k) T := by
  have hoff : ∀ x ∈ offT th k H, x ∈ H := fun x hx => (List.mem_filter.1 hx).1
  constructor
  · intro hc
    have hth : ∀ u, T u → u ≠ th := fun u hu e => by
      obtain ⟨x, hx, e1, -⟩ := hc u hu
      have : waitsP R th = true := waitsP_mem.2 ⟨x, hx, e1.trans e⟩
      rw [hw] at this; cases this
    have hoffH : ∀ x ∈ H, T x.th → x ∈ offT th k H := fun x hx ht => List.mem_filter.2 ⟨hx, by have := hth _ ht; simp [this]⟩
    have hno : ∀ y ∈ gotP H R th k, ¬ T y.th := by
      intro y0 hy0 hT0
      obtain ⟨g1, y, g2, eg, hT, hfst⟩ := first_with (p := fun y : Lk => T y.th) ⟨y0, hy0, hT0⟩
      have hym : y ∈ gotP H R th k := by rw [eg]; simp
      obtain ⟨hyR, hyk⟩ := got_mem hym
      obtain ⟨x, hx, e1, hx2⟩ := hc y.th hT
      obtain rfl := nd_inj h.nd hx hyR e1
      rw [hyk] at hx2
      rcases hx2 with ⟨pre, post, e2, z, hz, hTz⟩ | ⟨z, hz, hcf, hTz⟩
      · have hn : (onT k R).Nodup := nodup_of_map (nd_onT h.nd k)
        have e3 : onT k R = g1 ++ x :: (g2 ++ (grantL (onT k (offT th k H)) (onT k R)).2) := by
          conv => lhs; rw [← got_rest H R th k, eg]
          simp
        have := split_uniq (e2 ▸ hn) (e2.symm.trans e3)
        rw [this] at hz
        exact hfst z hz hTz
      · have hb := grant_mem _ _ _ _ _ eg
        have hz2 : z ∈ onT k (offT th k H) := by
          obtain ⟨q1, q2⟩ := mem_onT.1 hz
          exact mem_onT.2 ⟨hoffH z q1 hTz, q2⟩
        have := beside_true.1 hb z (List.mem_append_left _ hz2)
        rw [this.1, this.2] at hcf
        simp at hcf
    intro u hu
    obtain ⟨x, hx, e1, hx2⟩ := hc u hu
    have hxn : x ∉ gotP H R th k := fun hg => hno x hg (e1 ▸ hu)
    refine ⟨x, (mem_relR h.nd).2 ⟨hx, hxn⟩, e1, ?_⟩
    rcases hx2 with ⟨pre, post, e2, z, hz, hTz⟩ | ⟨z, hz, hcf, hTz⟩
    · refine .inl ⟨pre.filter (fun x => !(gotP H R th k).any (fun y => y.th == x.th)), post.filter (fun x => !(gotP H R th k).any (fun y => y.th == x.th)), ?_, z, ?_, hTz⟩
      · rw [onT_relR, e2, List.filter_append, List.filter_cons]
        have : (!(gotP H R th k).any (fun y => y.th == x.th)) = true := by
          cases hq : (gotP H R th k).any (fun y => y.th == x.th) with
          | false => rfl
          | true => exact absurd ((any_got h.nd hx).1 hq) hxn
        rw [if_pos this]
      · refine List.mem_filter.2 ⟨hz, ?_⟩
        have hzR : z ∈ R := (mem_onT.1 (show z ∈ onT x.tg R by rw [e2]; exact List.mem_append_left _ hz)).1
        cases hq : (gotP H R th k).any (fun y => y.th == z.th) with
        | false => rfl
        | true => exact absurd hTz (hno z ((any_got h.nd hzR).1 hq))
    · obtain ⟨q1, q2⟩ := mem_onT.1 hz
      exact .inr ⟨z, mem_onT.2 ⟨List.mem_append_left _ (hoffH z q1 hTz), q2⟩, hcf, hTz⟩
  · intro hc u hu
    obtain ⟨x, hx, e1, hx2⟩ := hc u hu
    obtain ⟨hxR, hxn⟩ := (mem_relR h.nd).1 hx
    refine ⟨x, hxR, e1, ?_⟩
    rcases hx2 with ⟨pre, post, e2, z, hz, hTz⟩ | ⟨z, hz, hcf, hTz⟩
    · rw [onT_relR] at e2
      obtain ⟨l1, l2, e3, e4, e5⟩ := List.filter_eq_append_iff.1 e2
      obtain ⟨l3, l4, e6, -, -, -⟩ := List.filter_eq_cons_iff.1 e5
      refine .inl ⟨l1 ++ l3, l4, by rw [e3, e6, List.append_assoc], z, ?_, hTz⟩
      rw [← e4] at hz
      exact List.mem_append_left _ (List.mem_filter.1 hz).1
    · obtain ⟨q1, q2⟩ := mem_onT.1 hz
      rcases List.mem_append.1 q1 with q1 | q1
      · exact .inr ⟨z, mem_onT.2 ⟨hoff z q1, q2⟩, hcf, hTz⟩
      · obtain ⟨x', hx', e', -⟩ := hc z.th hTz
        obtain ⟨r1, r2⟩ := (mem_relR h.nd).1 hx'
        exact absurd (nd_inj h.nd r1 (got_mem q1).1 e' ▸ q1) r2
def stuckP (H R : List Lk) (th : Int) : Prop := ∃ T, Closed H R T ∧ T th
theorem closed_end (h : Ok H R) (ha : ∀ x ∈ H, waitsP R x.th = true) : Closed H R (fun u => waitsP R u = true) := by
  intro u hu
  obtain ⟨x, hx, e1⟩ := waitsP_mem.1 hu
  refine ⟨x, hx, e1, ?_⟩
  obtain ⟨pre, post, e2⟩ := List.append_of_mem (mem_onT.2 ⟨hx, rfl⟩ : x ∈ onT x.tg R)
  cases pre with
  | nil =>
    obtain ⟨z, hz, hcf⟩ := beside_false.1 (h.blocked _ _ _ e2)
    exact .inr ⟨z, hz, hcf, ha z (mem_onT.1 hz).1⟩
  | cons y pre =>
    have hy : y ∈ onT x.tg R := by rw [e2]; simp
    exact .inl ⟨y :: pre, post, e2, y, by simp, waitsP_mem.2 ⟨y, (mem_onT.1 hy).1, rfl⟩⟩
theorem stuck_end {Hf Rf : List Lk} (hc : ∀ T, Closed H R T ↔ Closed Hf Rf T) (h : Ok Hf Rf) (ha : ∀ x ∈ Hf, waitsP Rf x.th = true) (u : Int) : waitsP Rf u = true ↔ stuckP H R u := by
  constructor
  · intro hu; exact ⟨_, (hc _).2 (closed_end h ha), hu⟩
  · rintro ⟨T, hT, hu⟩
    obtain ⟨x, hx, e1, -⟩ := (hc T).1 hT u hu
    exact waitsP_mem.2 ⟨x, hx, e1⟩
end
end Go.Proofs.Ytcmiboipgngjaaa
