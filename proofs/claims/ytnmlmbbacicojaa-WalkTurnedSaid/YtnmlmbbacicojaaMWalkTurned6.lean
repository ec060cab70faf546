/-
  The document's own Renumber comes to the plain one: no memory in sight.
  The walk of the law WalkSame.
  The walk of the law WalkNumbers.
  The walk of the law WalkTurned.
-/
import Derived.Test.YtnmlmbbacicojaaMWalkTurned5
import Derived.BigRegion
namespace Go.Proofs.Ytnmlmbbacicojaa
set_option linter.unusedVariables false
set_option linter.unusedSimpArgs false
open Go.RowKit Go.Maps Go.Proofs.YtnmlmbbacicojaaW.PrintWords Go.Proofs.YtnmlmbbacicojaaW.PrintLast Go.Proofs.YtnmlmbbacicojaaW.PrintMore Go.Proofs.Ytnmlmbbacicojaa.PWalkSame

theorem wrp {x : Int} (h1 : -4611686018427387904 ≤ x) (h2 : x ≤ 4611686018427387904) : wrap64 x = x := by unfold wrap64; omega
theorem wrpS (i : Nat) (h : i ≤ 140737488355328) : wrap64 ((i : Int) + 1) = ((i + 1 : Nat) : Int) := by rw [wrp (by omega) (by omega)]; omega
theorem at_ev (l : List S30) (x : Int) (hl : l.length ≤ 140737488355328) : Ev (fun k => lockgateref20_At.f k l x) ((atF l x).getD (-1)) := by
  suffices ∀ (d i : Nat), i + d = l.length → (∀ j (hj : j < l.length), j < i → (l[j]).f0 ≠ x) → Ev (fun k => lockgateref20_At.l0 k l x (i : Int)) ((atF l x).getD (-1)) from
    Ev.congr (fun k => rfl) (this l.length 0 (by omega) (fun j _ h => absurd h (by omega)))
  intro d
  induction d with
  | zero =>
    intro i hi hall
    refine Ev.step (f := fun _ => some ((atF l x).getD (-1))) (fun k => ?_) (Ev.now _)
    rw [lockgateref20_At.l0.eq_2, if_neg (by omega), atF_miss (fun j hj => hall j hj (by omega))]
    rfl
  | succ d ih =>
    intro i hi hall
    have hlt : i < l.length := by omega
    have hr : rd_T30 l (i : Int) = l[i] := rd30 hlt
    by_cases he : (l[i]).f0 = x
    · refine Ev.step (f := fun _ => some ((atF l x).getD (-1))) (fun k => ?_) (Ev.now _)
      rw [lockgateref20_At.l0.eq_2, if_pos (by omega), if_pos (by omega), hr, if_pos he, atF_hit hlt he hall]
      rfl
    · refine Ev.step (fun k => ?_) (ih (i + 1) (by omega) (fun j hj hji => by
        by_cases e : j = i
        · subst e; exact he
        · exact hall j hj (by omega)))
      rw [lockgateref20_At.l0.eq_2, if_pos (by omega), if_pos (by omega), hr, if_neg he, wrpS i (by omega)]
theorem copied_ev (a b c d : Int) (l4 : List S35) (l5 : List S32) (h4 : l4.length < 4398046511104) (h5 : l5.length < 5864062014805) (hd : ∀ p ∈ l4, p.f1.length < 140737488355328) : Ev (fun k => lockgateref20_copied.f k a b c d l4 l5) (a, b, c, d, l4, l5) := by
  suffices ∀ (e i : Nat), i + e = l4.length → Ev (fun k => lockgateref20_copied.l0 k (l4.take i) (i : Int) a b c d l4 l5) (a, b, c, d, l4, l5) by
    refine Ev.congr (fun k => ?_) (this l4.length 0 (by omega))
    unfold lockgateref20_copied.f
    rw [if_pos (by simpa using h5), List.nil_append]
    rfl
  intro e
  induction e with
  | zero =>
    intro i hi
    refine Ev.step (f := fun _ => some (a, b, c, d, l4, l5)) (fun k => ?_) (Ev.now _)
    rw [lockgateref20_copied.l0.eq_2, if_neg (by omega), List.take_of_length_le (by omega)]
  | succ e ih =>
    intro i hi
    have hlt : i < l4.length := by omega
    refine Ev.step (fun k => ?_) (ih (i + 1) (by omega))
    rw [lockgateref20_copied.l0.eq_2, if_pos (by omega), if_pos (by omega), rd35 hlt, if_pos (by have := hd _ (List.getElem_mem hlt); simpa using this), if_pos (by rw [List.length_take]; omega), wrpS i (by omega), List.nil_append, List.take_succ_eq_append_getElem hlt]
def numL (l : List S30) (ord : List Nat) : List Int := (List.range l.length).map fun p => if p ∈ ord then (ord.idxOf p : Int) + 1 else 0
def ordL (ord : List Nat) : List Int := ord.map fun p : Nat => (p : Int)
theorem numL_len (l : List S30) (ord : List Nat) : (numL l ord).length = l.length := by simp [numL]
theorem numL_rd {l : List S30} {ord : List Nat} {p : Nat} (h : p < l.length) : rd (numL l ord) (p : Int) = if p ∈ ord then (ord.idxOf p : Int) + 1 else 0 := by unfold rd numL; simp [h]
theorem ordL_rd {ord : List Nat} {k : Nat} (h : k < ord.length) : rd (ordL ord) (k : Int) = (ord[k] : Int) := by unfold rd ordL; simp [h]
theorem numL_get (l : List S30) (ord : List Nat) (i : Nat) : (numL l ord)[i]? = if i < l.length then some (if i ∈ ord then (ord.idxOf i : Int) + 1 else 0) else none := by
  unfold numL
  by_cases h : i < l.length
  · rw [if_pos h, List.getElem?_map, List.getElem?_range h]; rfl
  · rw [if_neg h, List.getElem?_eq_none (by simp; omega)]
theorem numL_push {l : List S30} {ord : List Nat} {p : Nat} (hn : p ∉ ord) : numL l (ord ++ [p]) = (numL l ord).set p ((ord.length : Int) + 1) := by
  refine List.ext_getElem? fun i => ?_
  rw [List.getElem?_set, numL_get, numL_get, numL_len]
  by_cases e : p = i
  · subst e
    rw [if_pos rfl]
    by_cases h : p < l.length
    · rw [if_pos h, if_pos h, if_pos (by simp), List.idxOf_append, if_neg hn]
      simp
    · rw [if_neg h, if_neg h]
  · rw [if_neg e]
    by_cases h : i < l.length
    · rw [if_pos h, if_pos h]
      by_cases hm : i ∈ ord
      · rw [if_pos (by simp [hm]), if_pos hm, List.idxOf_append, if_pos hm]
      · rw [if_neg (by simp [hm, Ne.symm e]), if_neg hm]
    · rw [if_neg h, if_neg h]
theorem ordL_push (ord : List Nat) (p : Nat) : ordL ord ++ [(p : Int)] = ordL (ord ++ [p]) := by simp [ordL]
theorem set_at {done rest : List S32} {e x : S32} {s : Nat} (h : done.length = s) : (done ++ e :: rest).set s x = done ++ x :: rest := by
  rw [List.set_append_right _ _ (by omega), h, Nat.sub_self]; rfl
theorem rd32_at {done rest : List S32} {e : S32} {s : Nat} (h : done.length = s) : rd_T32 (done ++ e :: rest) (s : Int) = e := by
  rw [rd32 (by simp; omega)]
  rw [List.getElem_append_right (by omega)]
  simp [h]
theorem l1_ev' {l : List S30} (hll : l.length ≤ 1759218604440) {es : List S32} (hel : es.length ≤ 140737488355328) {ord : List Nat} (hord : OrdOk l ord) {out : List S30} (hol : out.length < 1759218604441) {a b c d : Int} {bl : List S35} {k0 kN : Int} {r : List S30}
    (H : Ev (fun k => lockgateref20_Renumber.l0 k l (numL l (slotG l es ord).2) (ordL (slotG l es ord).2) (out ++ [⟨a, b, c, d, bl, (slotG l es ord).1⟩]) kN) r) (hk : wrap64 (k0 + 1) = kN) (e : Nat) :
    ∀ s : Nat, s + e = es.length → Ev (fun k => lockgateref20_Renumber.l1 k l (numL l (slotG l (es.take s) ord).2) (ordL (slotG l (es.take s) ord).2) out k0 (s : Int) a b c d bl ((slotG l (es.take s) ord).1 ++ es.drop s)) r := by
  induction e with
  | zero =>
    intro s hs
    refine Ev.step (fun k => ?_) H
    rw [lockgateref20_Renumber.l1.eq_2, List.drop_of_length_le (by omega), List.append_nil, List.take_of_length_le (by omega), if_neg (by rw [slotG_len]; omega), if_pos hol, hk]
  | succ e ih =>
    intro s hs
    have hlt : s < es.length := by omega
    have hdl : (slotG l (es.take s) ord).1.length = s := by rw [slotG_len, List.length_take]; omega
    have hok := slotG_ok (es.take s) hord
    have IH := ih (s + 1) (by omega)
    rw [slotG_step hlt] at IH
    rw [List.drop_eq_getElem_cons hlt]
    generalize (slotG l (es.take s) ord).1 = done at hdl IH ⊢
    generalize (slotG l (es.take s) ord).2 = ords at hok IH ⊢
    generalize es[s] = x at IH ⊢
    generalize es.drop (s + 1) = rest at IH ⊢
    have holn := hok.len
    have hlen : ((done ++ x :: rest).length : Int) = (s : Int) + 1 + (rest.length : Int) := by simp; omega
    -- the branch behind the look for the node
    have J : ∀ tt : Int, tt = ((targ l x).map (fun p : Nat => (p : Int))).getD (-1) → Ev (fun k => lockgateref20_Renumber.j2 k l (numL l ords) (ordL ords) out k0 (s : Int) tt a b c d bl (done ++ x :: rest)) r := by
      intro tt hto
      cases ht : targ l x with
      | none =>
        rw [ht] at hto
        have hss : slotS l ords x = (z32, ords) := by unfold slotS; rw [ht]
        rw [hss] at IH
        refine Ev.step (fun k => ?_) IH
        rw [lockgateref20_Renumber.j2.eq_2, if_pos (by rw [hto]; decide), if_pos (by omega), if_pos (by omega), wrpS s (by omega), Int.toNat_natCast, set_at hdl, List.append_assoc]
        rfl
      | some p =>
        rw [ht] at hto
        obtain ⟨hp, hf, ha, h0⟩ := targ_some ht
        have hto' : tt = (p : Int) := hto
        subst hto'
        by_cases hm : p ∈ ords
        · have hss : slotS l ords x = (⟨(ords.idxOf p : Int) + 1, x.f1⟩, ords) := by unfold slotS; rw [ht]; simp only []; rw [if_pos hm]
          rw [hss] at IH
          refine Ev.step (fun k => ?_) IH
          rw [lockgateref20_Renumber.j2.eq_2, if_neg (by omega), if_pos (by omega), if_pos (by rw [numL_len]; omega), numL_rd hp, if_pos hm, if_neg (by omega), if_pos (by omega), if_pos (by omega), wrpS s (by omega), Int.toNat_natCast, set_at hdl, rd32_at hdl, List.append_assoc]
          rfl
        · have hss : slotS l ords x = (⟨(ords.length : Int) + 1, x.f1⟩, ords ++ [p]) := by unfold slotS; rw [ht]; simp only []; rw [if_neg hm]
          rw [hss] at IH
          refine Ev.step (fun k => ?_) IH
          have hol2 : (ordL ords).length = ords.length := by simp [ordL]
          rw [lockgateref20_Renumber.j2.eq_2, if_neg (by omega), if_pos (by omega), if_pos (by rw [numL_len]; omega), numL_rd hp, if_neg hm, if_pos rfl, if_pos (by rw [hol2]; omega), Option.bind_some, Option.bind_some, if_pos (by omega), if_pos (by omega), wrpS s (by omega), Int.toNat_natCast, ordL_push, Int.toNat_natCast]
          have hl1 : ((ordL (ords ++ [p])).length : Int) = (ords.length : Int) + 1 := by simp [ordL]
          rw [hl1, ← numL_push hm, numL_rd hp, if_pos (by simp), set_at hdl, rd32_at hdl, List.append_assoc, List.idxOf_append, if_neg hm, show [p].idxOf p = 0 by simp, Nat.zero_add]
          rfl
    by_cases h0 : x.f0 = 0
    · refine Ev.step (fun k => ?_) (J (-1) (by unfold targ; rw [if_pos h0]; rfl))
      rw [lockgateref20_Renumber.l1.eq_2, if_pos (by omega), if_pos (by omega), rd32_at hdl, if_pos h0]
    · refine Ev.step (fun k => ?_) (Ev.bind (f := fun k t => lockgateref20_Renumber.j2 k l (numL l ords) (ordL ords) out k0 (s : Int) t a b c d bl (done ++ x :: rest)) (at_ev l x.f0 (by omega)) (J ((atF l x.f0).getD (-1)) (by
        unfold targ
        rw [if_neg h0]
        cases hq : atF l x.f0 with
        | none => rfl
        | some c =>
          obtain ⟨i, rfl, _⟩ := atF_lt hq
          simp)))
      rw [lockgateref20_Renumber.l1.eq_2, if_pos (by omega), if_pos (by omega), rd32_at hdl, if_neg h0]
theorem ok_bounds {l : List S30} (hok : NodesOk l) : l.length ≤ 1759218604440 ∧ ∀ x ∈ l, x.f4.length < 4398046511104 ∧ x.f5.length < 5864062014805 ∧ ∀ q ∈ x.f4, q.f1.length < 140737488355328 := by
  have hrb : reachBytes = 140737488351232 := rfl
  refine ⟨by have := hok.2; rw [hrb] at this; omega, fun x hx => ?_⟩
  have h := hok.1 x hx
  exact ⟨by have := h.2.2.2.2.1.2; rw [hrb] at this; omega, by have := h.2.2.2.2.2.2; rw [hrb] at this; omega, fun q hq => by have := (h.2.2.2.2.1.1 q hq).2.2; rw [hrb] at this; omega⟩
theorem ren_round {l : List S30} (hll : l.length ≤ 1759218604440) {ord : List Nat} (hord : OrdOk l ord) {out : List S30} {k0 : Nat} (hol : out.length = k0) (hlt : k0 < ord.length) {p : Nat} (hpe : ord[k0] = p) (hp : p < l.length) {y : S30} (hy : l[p] = y)
    (b4 : y.f4.length < 4398046511104) (b5 : y.f5.length < 5864062014805) (b6 : ∀ q ∈ y.f4, q.f1.length < 140737488355328) {r : List S30}
    (IH : Ev (fun k => lockgateref20_Renumber.l0 k l (numL l (slotG l y.f5 ord).2) (ordL (slotG l y.f5 ord).2) (out ++ [⟨(k0 : Int) + 1, y.f1, y.f2, y.f3, y.f4, (slotG l y.f5 ord).1⟩]) ((k0 + 1 : Nat) : Int)) r) :
    Ev (fun k => lockgateref20_Renumber.l0 k l (numL l ord) (ordL ord) out (k0 : Int)) r := by
  have holn := hord.len
  have hodl : (ordL ord).length = ord.length := by simp [ordL]
  have hw := wrpS k0 (by omega)
  have hw2 : wrap64 ((k0 : Int) + 1) = (k0 : Int) + 1 := wrp (by omega) (by omega)
  have L1 : Ev (fun k => lockgateref20_Renumber.l1 k l (numL l ord) (ordL ord) out (k0 : Int) 0 ((k0 : Int) + 1) y.f1 y.f2 y.f3 y.f4 y.f5) r :=
    l1_ev' (es := y.f5) (a := (k0 : Int) + 1) (b := y.f1) (c := y.f2) (d := y.f3) (bl := y.f4) (kN := ((k0 + 1 : Nat) : Int)) hll (by omega) hord (out := out) (by omega) (k0 := (k0 : Int)) IH hw y.f5.length 0 (by omega)
  have C1 := copied_ev y.f0 y.f1 y.f2 y.f3 y.f4 y.f5 b4 b5 b6
  have hr : rd_T30 l (p : Int) = y := by rw [rd30 hp]; exact hy
  refine Ev.step (f := fun k => (lockgateref20_copied.f k y.f0 y.f1 y.f2 y.f3 y.f4 y.f5).bind fun bt => lockgateref20_Renumber.l1 k l (numL l ord) (ordL ord) out (k0 : Int) 0 ((k0 : Int) + 1) bt.2.1 bt.2.2.1 bt.2.2.2.1 bt.2.2.2.2.1 bt.2.2.2.2.2) (fun k => ?_) (Ev.bind (f := fun k bt => lockgateref20_Renumber.l1 k l (numL l ord) (ordL ord) out (k0 : Int) 0 ((k0 : Int) + 1) bt.2.1 bt.2.2.1 bt.2.2.2.1 bt.2.2.2.2.1 bt.2.2.2.2.2) C1 L1)
  rw [lockgateref20_Renumber.l0.eq_2, if_pos (by rw [hodl]; omega), if_pos (by omega), ordL_rd hlt, hpe, if_pos (by omega), if_pos (by omega), hr, hw2]
theorem ren_l0 {l : List S30} (hok : NodesOk l) : ∀ (f k0 : Nat) (ord : List Nat) (out : List S30), OrdOk l ord → out.length = k0 → k0 ≤ ord.length → l.length - k0 < f →
    Ev (fun k => lockgateref20_Renumber.l0 k l (numL l ord) (ordL ord) out (k0 : Int)) (renGo l f k0 ord out) := by
  obtain ⟨hll, hb⟩ := ok_bounds hok
  clear hok
  intro f
  induction f with
  | zero => intro k0 ord out _ _ _ h; omega
  | succ f ih =>
    intro k0 ord out hord hol hk hf
    have holn := hord.len
    have hodl : (ordL ord).length = ord.length := by simp [ordL]
    by_cases hlt : k0 < ord.length
    · obtain ⟨hp, ha⟩ := hord.2 _ (List.getElem_mem hlt)
      rw [renGo_step l f k0 ord out hlt hp]
      have hx := hb _ (List.getElem_mem hp)
      refine ren_round hll hord hol hlt rfl hp rfl hx.1 hx.2.1 hx.2.2 ?_
      generalize l[ord[k0]] = y
      obtain ⟨more, hmore⟩ := slotG_mono l y.f5 ord
      have h1 : (out ++ [(⟨(k0 : Int) + 1, y.f1, y.f2, y.f3, y.f4, (slotG l y.f5 ord).1⟩ : S30)]).length = k0 + 1 := by rw [List.length_append, hol]; rfl
      have h2 : k0 + 1 ≤ (slotG l y.f5 ord).2.length := by rw [hmore, List.length_append]; omega
      exact ih (k0 + 1) _ _ (slotG_ok _ hord) h1 h2 (by omega)
    · rw [renGo_end l _ k0 ord out (by omega)]
      refine Ev.step (f := fun _ => some out) (fun k => ?_) (Ev.now _)
      rw [lockgateref20_Renumber.l0.eq_2, if_neg (by rw [hodl]; omega)]
theorem refRen_ev {l : List S30} (hok : NodesOk l) : Ev (fun k => lockgateref20_Renumber.f k l) (renF l) := by
  have hrb : reachBytes = 140737488351232 := rfl
  have hll2 : l.length ≤ 1759218604440 := by have := hok.2; rw [hrb] at this; omega
  cases hq : atF l 1 with
  | none =>
    have hF : renF l = [] := by unfold renF; rw [hq]
    rw [hF]
    have hA := at_ev l 1 (by omega)
    rw [hq] at hA
    have hA2 : Ev (fun k => (lockgateref20_At.f k l 1).bind fun t => if t < 0 then (some ([] : List S30)) else none) [] := Ev.bind hA (f := fun _ t => if t < 0 then (some ([] : List S30)) else none) (Ev.now _)
    obtain ⟨K, hK⟩ := hA
    refine ⟨K, fun k hk => ?_⟩
    show lockgateref20_Renumber.f k l = _
    unfold lockgateref20_Renumber.f
    rw [show lockgateref20_At.f k l 1 = _ from hK k hk, Option.bind_some, if_pos (by decide)]
  | some kk =>
    obtain ⟨p, rfl, hp, hf⟩ := atF_lt hq
    have hF : renF l = renGo l (l.length + 1) 0 [p] [] := by unfold renF; rw [hq]; rfl
    have hA := at_ev l 1 (by omega)
    rw [hq] at hA
    have hord : OrdOk l [p] := ⟨by simp, fun q hq' => by rw [List.mem_singleton] at hq'; subst hq'; exact ⟨hp, by rw [hf]; exact hq⟩⟩
    have H := ren_l0 hok (l.length + 1) 0 [p] [] hord rfl (by simp) (by omega)
    rw [← hF] at H
    have hn : (List.replicate l.length (0 : Int)).set p 1 = numL l [p] := by
      have h1 := numL_push (l := l) (ord := []) (p := p) (by simp)
      rw [List.nil_append] at h1
      rw [h1]
      have h2 : numL l [] = List.replicate l.length 0 := by
        refine List.ext_getElem? fun i => ?_
        rw [numL_get, List.getElem?_replicate]
        simp
      rw [h2]; rfl
    obtain ⟨K, hK⟩ := hA
    obtain ⟨K', hK'⟩ := H
    refine ⟨max K K', fun k hk => ?_⟩
    show lockgateref20_Renumber.f k l = _
    unfold lockgateref20_Renumber.f
    rw [show lockgateref20_At.f k l 1 = _ from hK k (by omega), Option.bind_some]
    show (if ((p : Nat) : Int) < 0 then _ else _) = _
    rw [if_neg (by omega), if_pos (by omega), if_pos (by omega), Option.bind_some, if_pos (by show (0 : Int) ≤ (p : Int); omega), if_pos (by show (p : Int) < _; simp; omega)]
    have := hK' k (by omega)
    rw [← this]
    show lockgateref20_Renumber.l0 k l ((List.replicate ((l.length : Int)).toNat (0 : Int)).set ((p : Int)).toNat 1) [(p : Int)] [] 0 = _
    rw [Int.toNat_natCast, Int.toNat_natCast, hn]
    rfl
end Go.Proofs.Ytnmlmbbacicojaa
namespace Go.Proofs.Ytnmlmbbacicojaa
set_option linter.unusedVariables false
set_option linter.unusedSimpArgs false
open Go.RowKit Go.Shelf Go.Maps Go.Proofs.YtnmlmbbacicojaaW.PrintWords Go.Proofs.YtnmlmbbacicojaaW.PrintLast Go.Proofs.YtnmlmbbacicojaaW.PrintMore Go.Proofs.Ytnmlmbbacicojaa.PWalkSame

theorem eqL_symm {α : Type} {f : α → α → Bool} (hf : ∀ x y, f x y = f y x) (xs ys : List α) : eqL f xs ys = eqL f ys xs := by
  have key : ∀ xs ys : List α, eqL f xs ys = true → eqL f ys xs = true := by
    intro xs ys h
    have hl := eqL_lens h
    refine eqL_good (by simpa using hl.symm) fun k hk hk' => ?_
    rw [hf]
    cases hq : f (xs[k]) (ys[k]) with
    | true => rfl
    | false => rw [eqL_bad k hk' hk hq] at h; cases h
  cases h1 : eqL f xs ys with
  | true => exact (key _ _ h1).symm
  | false =>
    cases h2 : eqL f ys xs with
    | false => rfl
    | true => rw [key _ _ h2] at h1; cases h1
theorem eqL_refl {α : Type} {f : α → α → Bool} (hf : ∀ x, f x x = true) (xs : List α) : eqL f xs xs = true := eqL_good (by simp) fun k hk hk' => hf _
theorem entEq_symm (x y : S32) : entEq x y = entEq y x := by unfold entEq; rw [Bool.beq_comm (a := x.f0), Bool.beq_comm (a := x.f1.toList)]
theorem partEq_symm (x y : S35) : partEq x y = partEq y x := by unfold partEq; rw [Bool.beq_comm (a := x.f0), Bool.beq_comm (a := (strOfNums x.f1).toList)]
theorem nodeEq_symm (x y : S30) : nodeEq x y = nodeEq y x := by
  unfold nodeEq
  rw [Bool.beq_comm (a := x.f0), Bool.beq_comm (a := x.f1), Bool.beq_comm (a := x.f2), Bool.beq_comm (a := x.f3), eqL_symm entEq_symm, eqL_symm partEq_symm]
theorem entEq_refl (x : S32) : entEq x x = true := by unfold entEq; simp
theorem partEq_refl (x : S35) : partEq x x = true := by unfold partEq; simp
theorem nodeEq_refl (x : S30) : nodeEq x x = true := by unfold nodeEq; simp [eqL_refl entEq_refl, eqL_refl partEq_refl]
theorem NodesOk.len {l : List S30} (h : NodesOk l) : l.length ≤ 140737488355328 := by have := h.2; have := reach47; omega
theorem NodesOk.mod {l : List S30} (h : NodesOk l) : ∀ x ∈ l, Mod x := fun x hx => by
  have := h.1 x hx
  have h4 := this.2.2.2.2.1.2
  have h5 := this.2.2.2.2.2.2
  have := reach47
  exact ⟨by omega, by omega⟩

set_option maxHeartbeats 1000000 in
set_option maxRecDepth 100000 in
theorem WalkSame_walk (w : World) (A : Option Addr) (N c : Nat) (xs : List S30) (hn : xs.length = N) (hc : N ≤ c) (hok : NodesOk xs) (hC : Kd.C k30 w A N xs) (A' : Option Addr) (N' c' : Nat) (ys : List S30) (hn' : ys.length = N') (hc' : N' ≤ c') (hok' : NodesOk ys) (hC' : Kd.C k30 w A' N' ys) :
    Calls Try.prog 3 #[.slice A N c, .slice A' N' c'] w fun e w' => e = .returned (.bool true) ∧ Below w.heap.size w w' := by
  subst hn
  subst hn'
  have HX := hide (fun W (hb : Below w.heap.size w W) => big_c A xs.length c xs hok W rfl (Kd.C_below hC hb) hc)
  have HY := hide (fun W (hb : Below w.heap.size w W) => big_c A' ys.length c' ys hok' W rfl (Kd.C_below hC' hb) hc')
  have hlx := hok.len
  have hly := hok'.len
  have H1 := hide (fun W (hb : Below w.heap.size w W) => walkSame_c A A' c c' xs ys W (Kd.C_below hC hb) hc (Kd.C_below hC' hb) hc' (by omega) hok.mod)
  have H2 := hide (fun W (hb : Below w.heap.size w W) => refSame_c A A' c c' xs ys W (Kd.C_below hC hb) hc (Kd.C_below hC' hb) hc' (by omega) hok.mod)
  have H3 := hide (fun W (hb : Below w.heap.size w W) => (eqL_refl nodeEq_refl xs) ▸ walkSame_c A A c c xs xs W (Kd.C_below hC hb) hc (Kd.C_below hC hb) hc (by omega) hok.mod)
  have H4 := hide (fun W (hb : Below w.heap.size w W) => (eqL_symm nodeEq_symm ys xs) ▸ walkSame_c A' A c' c ys xs W (Kd.C_below hC' hb) hc' (Kd.C_below hC hb) hc (by omega) hok'.mod)
  generalize bigB xs hok = bx at HX
  generalize bigB ys hok' = by_ at HY
  clear hok hC hok' hC'
  cases bx with
  | true =>
    go_enter Try.func3, Try.ntmps3
    go_wp2_with (first | (go_at_call 9; refine (alive_c _).mono ?_; rintro e w1 ⟨rfl, hb⟩) | (go_at_call 10; refine (HX.out _ hb).mono ?_; rintro e w2 ⟨rfl, hb2⟩))
    go_ret
    exact ⟨by first | rfl | simp, hb.trans (hb2.mono hb.size)⟩
  | false =>
    cases by_ with
    | true =>
      go_enter Try.func3, Try.ntmps3
      go_wp2_with (first | (go_at_call 9; refine (alive_c _).mono ?_; rintro e w1 ⟨rfl, hb⟩) | (go_at_call 10; first | (refine (HX.out _ hb).mono ?_; rintro e w2 ⟨rfl, hb2⟩; have hb2' := hb.trans (hb2.mono hb.size); clear HX) | (refine (HY.out _ hb2').mono ?_; rintro e w3 ⟨rfl, hb3⟩)))
      go_ret
      exact ⟨by first | rfl | simp, hb2'.trans (hb3.mono hb2'.size)⟩
    | false =>
      go_enter Try.func3, Try.ntmps3
      go_wp2_with (first | (go_at_call 9; refine (alive_c _).mono ?_; rintro e w1 ⟨rfl, hb⟩) | (go_at_call 10; first | (refine (HX.out _ hb).mono ?_; rintro e w2 ⟨rfl, hb2⟩; have hb2' := hb.trans (hb2.mono hb.size); clear HX) | (refine (HY.out _ hb2').mono ?_; rintro e w3 ⟨rfl, hb3⟩; have hb3' := hb2'.trans (hb3.mono hb2'.size))) | (go_at_call 12; refine (H2.out _ hb4').mono ?_; rintro e w5 ⟨rfl, hb5⟩; have hb5' := hb4'.trans (hb5.mono hb4'.size)) | (go_at_call 11; first | (refine (H1.out _ hb3').mono ?_; rintro e w4 ⟨rfl, hb4⟩; have hb4' := hb3'.trans (hb4.mono hb3'.size); clear hb3') | (refine (H3.out _ hb5').mono ?_; rintro e w6 ⟨rfl, hb6⟩; have hb6' := hb5'.trans (hb6.mono hb5'.size); clear hb5') | (refine (H4.out _ hb6').mono ?_; rintro e w7 ⟨rfl, hb7⟩; have hb7' := hb6'.trans (hb7.mono hb6'.size); clear hb6') | (refine (H1.out _ hb7').mono ?_; rintro e w8 ⟨rfl, hb8⟩; have hb8' := hb7'.trans (hb8.mono hb7'.size); clear hb7')))
      go_ret
      exact ⟨by first | rfl | simp, hb8'⟩
end Go.Proofs.Ytnmlmbbacicojaa
namespace Go.Proofs.Ytnmlmbbacicojaa
set_option linter.unusedVariables false
set_option linter.unusedSimpArgs false
open Go.RowKit Go.Shelf Go.Maps Go.Proofs.YtnmlmbbacicojaaW.PrintWords Go.Proofs.YtnmlmbbacicojaaW.PrintLast Go.Proofs.YtnmlmbbacicojaaW.PrintMore Go.Proofs.Ytnmlmbbacicojaa.PWalkSame

/-- walk.Renumber -/
theorem ren13_c (l : List S30) (A : Option Addr) (N c : Nat) (w : World) (hN : l.length = N) (hNc : N ≤ c) (hok : NodesOk l) (hC : Kd.C k30 w A N l) :
    Calls Try.prog 13 #[.slice A N c] w fun e w' => ∃ v, e = .returned v ∧ Kd.R k30 30 w' w.heap.size (fun _ => True) v (renF l) ∧ Below w.heap.size w w' := by
  have HC := hide (renumber_c l A N c w hN hNc hok hC)
  clear hC hok
  go_enter Try.func13, Try.ntmps13
  go_wp2_with (go_at_call 24; refine HC.out.mono ?_; rintro e w1 ⟨v, rfl, hr, hb⟩; obtain ⟨A1, c1, rfl⟩ := Kd.R_slice hr; have H := hide (And.intro hr hb); clear hr hb)
  go_ret
  exact ⟨_, rfl, H.out.1, H.out.2⟩
theorem ren14_c (l : List S30) (A : Option Addr) (N c : Nat) (w : World) (hN : l.length = N) (hNc : N ≤ c) (hok : NodesOk l) (hC : Kd.C k30 w A N l) :
    Calls Try.prog 14 #[.slice A N c] w fun e w' => ∃ v, e = .returned v ∧ Kd.R k30 30 w' w.heap.size (fun _ => True) v (renF l) ∧ Below w.heap.size w w' := by
  subst hN
  obtain ⟨k, hk⟩ := (refRen_ev hok).rounds
  exact lockgateref20_Renumber.calls k A c l (renF l) w hC hNc hk
/-- what is no slot's row and no bytes' row from a block on up to one, lies as it lay; those keep their cells' kinds -/
def sameKind : Value → Value → Prop
  | .int k _, .int k' _ => k = k'
  | .string _, .string _ => True
  | _, _ => False
structure Lie (lo hi : Nat) (A B : World) : Prop where
  below : Below lo A B
  size : A.heap.size = B.heap.size
  same : ∀ b o, A.heap[b]? = some o → (b < lo ∨ hi ≤ b ∨ ∀ c f, o ≠ .cells c 32 f ∧ o ≠ .cells c 5 f) → B.heap[b]? = some o
  cells : ∀ b i u, A.cell? ⟨b, i, none⟩ = some u → ∃ u', B.cell? ⟨b, i, none⟩ = some u' ∧ (u' = u ∨ sameKind u u')
  free : ∀ b i, A.frozen? ⟨b, i, none⟩ = false → B.frozen? ⟨b, i, none⟩ = false
theorem Lie.refl (lo hi : Nat) (A : World) : Lie lo hi A A := ⟨Below.refl _ _, rfl, fun _ _ h _ => h, fun b i u h => ⟨u, h, .inl rfl⟩, fun _ _ h => h⟩
theorem Lie.drewN {lo hi : Nat} {A B : World} (h : Lie lo hi A B) (q : Nat) : Lie lo hi A (B.drewN q) := ⟨below_drewN' h.below q, h.size, h.same, h.cells, h.free⟩
theorem sameKind.trans {a b c : Value} (h : sameKind a b) (k : sameKind b c) : sameKind a c := by
  cases a <;> cases b <;> cases c <;> simp_all [sameKind]
/-- a cell of such a row has turned into another one of its kind -/
theorem Lie.set {lo hi : Nat} {A B : World} (h : Lie lo hi A B) {b i : Nat} {u u' : Value} (hlo : lo ≤ b) (hhi : b < hi) (ht : ∃ c t, A.heap[b]? = some (.cells c t (0, 0)) ∧ (t = 32 ∨ t = 5)) (hc : B.cell? ⟨b, i, none⟩ = some u) (hk : sameKind u u') : Lie lo hi A (B.setCell ⟨b, i, none⟩ u') := by
  refine ⟨h.below.setCell (p := ⟨b, i, none⟩) hlo _, by rw [h.size]; simp, fun b' o h1 h2 => ?_, fun b' i' v h1 => ?_, fun b' i' h1 => ?_⟩
  · refine (Below.heap_setCell B ⟨b, i, none⟩ u' b' (fun e => ?_)).trans (h.same b' o h1 h2)
    have e : b' = b := e
    subst e
    obtain ⟨c, t, h3, h4⟩ := ht
    rw [h1] at h3
    injection h3 with h3
    rcases h2 with h2 | h2 | h2
    · omega
    · omega
    · rcases h4 with h4 | h4
      · subst h4; exact (h2 _ _).1 h3
      · subst h4; exact (h2 _ _).2 h3
  · obtain ⟨v', h2, h3⟩ := h.cells b' i' v h1
    by_cases e : (⟨b, i, none⟩ : Addr) = ⟨b', i', none⟩
    · injection e with e1 e2
      subst e1 e2
      rw [hc] at h2
      injection h2 with h2
      subst h2
      refine ⟨u', World.cell?_setCell_same _ _ _ hc, .inr ?_⟩
      rcases h3 with rfl | h3
      · exact hk
      · exact h3.trans hk
    · exact ⟨v', (World.cell?_setCell_other _ _ _ _ e).trans h2, h3⟩
  · rw [World.frozen?_setCell]; exact h.free b' i' h1
theorem Lie.blk {lo hi : Nat} {A B : World} (h : Lie lo hi A B) {b i t : Nat} {u : Value} (hb : ∃ c, A.heap[b]? = some (.cells c t (0, 0))) (h32 : t ≠ 32) (h5 : t ≠ 5) (hc : A.cell? ⟨b, i, none⟩ = some u) : B.cell? ⟨b, i, none⟩ = some u := by
  obtain ⟨c, hb⟩ := hb
  have := h.same b _ hb (.inr (.inr fun c f => ⟨fun e => by injection e with _ e _; exact h32 e, fun e => by injection e with _ e _; exact h5 e⟩))
  rw [World.cell?_of_block (a := ⟨b, i, none⟩) (this.trans hb.symm)]
  exact hc
/-- element i of nodes of the call's own -/
theorem R_node {W : World} {base g n c : Nat} {ok : Nat → Prop} {xs : List S30} (h : Kd.R k30 30 W base ok (.slice (some ⟨g, 0, none⟩) n c) xs) {i : Nat} (hi : i < xs.length) :
    ∃ v4 v5, W.cell? ⟨g, i * 6 + 4, none⟩ = some v4 ∧ W.cell? ⟨g, i * 6 + 5, none⟩ = some v5 ∧ Kd.R k35 35 W base ok v4 xs[i].f4 ∧ Kd.R k32 32 W base ok v5 xs[i].f5 := by
  obtain ⟨_, inner, ho, hr⟩ := h
  have hm := hr.2 i _ (List.getElem?_eq_getElem hi)
  obtain ⟨v4, v5, hc, h4, h5⟩ := k30_openM hm
  have hn : n = xs.length := by
    rcases ho.2 with ⟨e, _⟩ | ⟨_, _, _, e, _⟩
    · cases e
    · injection e
  subst hn
  rw [show k30.sz = 6 from rfl] at hc ho hr
  have hl := hr.1
  have at_ : ∀ q (hq : q < 6) u, ([.int .i64 xs[i].f0, .int .i64 xs[i].f1, .int .i64 xs[i].f2, .int .i64 xs[i].f3, v4, v5] : List Value)[q]? = some u → W.cell? ⟨g, i * 6 + q, none⟩ = some u := fun q hq u hu => by
    rw [ho.cellAt (i * 6 + q) (by omega), ← hu, ← hc, List.getElem?_take_of_lt hq, List.getElem?_drop]
  exact ⟨v4, v5, at_ 4 (by omega) _ rfl, at_ 5 (by omega) _ rfl, Kd.R_mono h4 (fun _ hk => hk.1), Kd.R_mono h5 (fun _ hk => hk.1)⟩
theorem R_part {W : World} {base g n c : Nat} {ok : Nat → Prop} {xs : List S35} (h : Kd.R k35 35 W base ok (.slice (some ⟨g, 0, none⟩) n c) xs) {i : Nat} (hi : i < xs.length) :
    ∃ v1, W.cell? ⟨g, i * 2 + 1, none⟩ = some v1 ∧ Kd.R (Kd.int .u8) 5 W base ok v1 xs[i].f1 := by
  obtain ⟨_, inner, ho, hr⟩ := h
  have hm := hr.2 i _ (List.getElem?_eq_getElem hi)
  obtain ⟨v1, hc, h1⟩ := k35_openM hm
  have hn : n = xs.length := by
    rcases ho.2 with ⟨e, _⟩ | ⟨_, _, _, e, _⟩
    · cases e
    · injection e
  subst hn
  rw [show k35.sz = 2 from rfl] at hc ho hr
  obtain ⟨_, e1⟩ := chunk2 hc
  refine ⟨v1, ?_, Kd.R_mono h1 (fun _ hk => hk.1)⟩
  have hl := hr.1
  rw [ho.cellAt (i * 2 + 1) (by omega), e1]
/-- an own row's head, if it has an element -/
theorem R_head {α : Type} {d : Kd α} {e : Nat} {W : World} {base : Nat} {ok : Nat → Prop} {v : Value} {xs : List α} (h : Kd.R d e W base ok v xs) (hx : 0 < xs.length) :
    ∃ g c, v = .slice (some ⟨g, 0, none⟩) xs.length c ∧ base ≤ g ∧ ok g ∧ (∃ cs, W.heap[g]? = some (.cells cs e (0, 0))) ∧ (∀ j, W.frozen? ⟨g, j, none⟩ = false) := by
  obtain ⟨h0, inner, ho, hr⟩ := h
  obtain ⟨g, c, rfl, h1, h2⟩ := ho.form hx
  exact ⟨g, c, rfl, h1, h0 g rfl, own_typed ho g rfl, fun j => ho.frozenAt j⟩
/-- a cell of such a row still lies there, of its kind -/
theorem Lie.int {lo hi : Nat} {A B : World} (h : Lie lo hi A B) {b i : Nat} {k : IntKind} {x : Int} (hc : A.cell? ⟨b, i, none⟩ = some (.int k x)) : ∃ x', B.cell? ⟨b, i, none⟩ = some (.int k x') := by
  obtain ⟨u, h1, h2⟩ := h.cells b i _ hc
  rcases h2 with rfl | h2
  · exact ⟨x, h1⟩
  · cases u <;> simp_all [sameKind]
theorem Lie.str {lo hi : Nat} {A B : World} (h : Lie lo hi A B) {b i : Nat} {x : ByteArray} (hc : A.cell? ⟨b, i, none⟩ = some (.string x)) : ∃ x', B.cell? ⟨b, i, none⟩ = some (.string x') := by
  obtain ⟨u, h1, h2⟩ := h.cells b i _ hc
  rcases h2 with rfl | h2
  · exact ⟨x, h1⟩
  · cases u <;> simp_all [sameKind]
theorem R_ents {W : World} {base : Nat} {ok : Nat → Prop} {v : Value} {xs : List S32} (h : Kd.R k32 32 W base ok v xs) {i : Nat} (hi : i < xs.length) :
    ∃ g c, v = .slice (some ⟨g, 0, none⟩) xs.length c ∧ base ≤ g ∧ ok g ∧ (∃ cs, W.heap[g]? = some (.cells cs 32 (0, 0))) ∧ (∀ j, W.frozen? ⟨g, j, none⟩ = false) ∧ W.cell? ⟨g, i * 2, none⟩ = some (.int .i64 xs[i].f0) ∧ W.cell? ⟨g, i * 2 + 1, none⟩ = some (.string xs[i].f1) := by
  obtain ⟨g, c, rfl, h1, h2, h3, h4⟩ := R_head h (by omega)
  refine ⟨g, c, rfl, h1, h2, h3, h4, ?_⟩
  obtain ⟨_, inner, ho, hr⟩ := h
  have hm := hr.2 i _ (List.getElem?_eq_getElem hi)
  have hc := k32_openM hm
  rw [show k32.sz = 2 from rfl] at hc ho hr
  obtain ⟨e0, e1⟩ := chunk2 hc
  have hl := hr.1
  exact ⟨by rw [ho.cellAt (i * 2) (by omega), e0], by rw [ho.cellAt (i * 2 + 1) (by omega), e1]⟩
theorem R_byte {W : World} {base : Nat} {ok : Nat → Prop} {v : Value} {xs : List Int} (h : Kd.R (Kd.int .u8) 5 W base ok v xs) {i : Nat} (hi : i < xs.length) :
    ∃ g c, v = .slice (some ⟨g, 0, none⟩) xs.length c ∧ base ≤ g ∧ ok g ∧ (∃ cs, W.heap[g]? = some (.cells cs 5 (0, 0))) ∧ (∀ j, W.frozen? ⟨g, j, none⟩ = false) ∧ W.cell? ⟨g, i, none⟩ = some (.int .u8 xs[i]) := by
  obtain ⟨g, c, rfl, h1, h2, h3, h4⟩ := R_head h (by omega)
  refine ⟨g, c, rfl, h1, h2, h3, h4, ?_⟩
  obtain ⟨_, inner, ho, hr⟩ := h
  have hm := hr.2 i _ (List.getElem?_eq_getElem hi)
  rw [show (Kd.int .u8).sz = 1 from rfl] at hm ho hr
  have hl := hr.1
  rw [ho.cellAt i (by omega)]
  have := congrArg (·[0]?) hm
  simp only [List.getElem?_take_of_lt (show 0 < 1 by omega), List.getElem?_drop, Nat.add_zero, Nat.mul_one] at this
  exact this
theorem nb1 {n : Nat} (h : n ≤ reachBytes) : n ≤ 140737488355328 := by unfold reachBytes at h; omega
theorem nb24 {n : Nat} (h : n * 24 ≤ reachBytes) : n ≤ 1125899906842624 := by unfold reachBytes at h; omega
theorem nb32 {n : Nat} (h : n * 32 ≤ reachBytes) : n ≤ 1125899906842624 := by unfold reachBytes at h; omega
set_option maxHeartbeats 4000000 in
set_option maxRecDepth 100000 in
theorem WalkNumbers_walk (w : World) (A : Option Addr) (N c : Nat) (xs : List S30) (hn : xs.length = N) (hc : N ≤ c) (hok : NodesOk xs) (hC : Kd.C k30 w A N xs) :
    Calls Try.prog 4 #[.slice A N c] w fun e w' => e = .returned (.bool true) ∧ Below w.heap.size w w' := by
  subst hn
  have HX := hide (fun W (hb : Below w.heap.size w W) => big_c A xs.length c xs hok W rfl (Kd.C_below hC hb) hc)
  have H13 := hide (fun W (hb : Below w.heap.size w W) => ren13_c xs A xs.length c W rfl hc hok (Kd.C_below hC hb))
  have H14 := hide (fun W (hb : Below w.heap.size w W) => ren14_c xs A xs.length c W rfl hc hok (Kd.C_below hC hb))
  have hyo := (renF_ok hok).1
  have hyl := (renF_ok hok).2
  have hyt := renF_twice xs
  generalize bigB xs hok = bx at HX
  generalize renF xs = y at H13 H14 hyo hyl hyt
  have hylen := hyo.len
  have HS := hide (fun (A1 A2 : Option Addr) (c1 c2 : Nat) (V : World) (h1 : Kd.C k30 V A1 y.length y) (l1 : y.length ≤ c1) (h2 : Kd.C k30 V A2 y.length y) (l2 : y.length ≤ c2) => (eqL_refl nodeEq_refl y) ▸ walkSame_c A1 A2 c1 c2 y y V h1 l1 h2 l2 (by omega) hyo.mod)
  have HT := hide (fun (A1 A2 : Option Addr) (c1 c2 : Nat) (V : World) (h1 : Kd.C k30 V A1 y.length y) (l1 : y.length ≤ c1) (h2 : Kd.C k30 V A2 y.length y) (l2 : y.length ≤ c2) => (eqL_refl nodeEq_refl y) ▸ refSame_c A1 A2 c1 c2 y y V h1 l1 h2 l2 (by omega) hyo.mod)
  have HY := hide (fun (A1 : Option Addr) (c1 : Nat) (V : World) (h1 : Kd.C k30 V A1 y.length y) (l1 : y.length ≤ c1) => hyt ▸ ren13_c y A1 y.length c1 V rfl l1 hyo h1)
  have HOK := hide hyo
  clear hok hC hyo hyt
  cases bx with
  | true =>
    go_enter Try.func4, Try.ntmps4
    go_wp2_with (first | (go_at_call 9; refine (alive_c _).mono ?_; rintro e w1 ⟨rfl, hb⟩) | (go_at_call 10; refine (HX.out _ hb).mono ?_; rintro e w2 ⟨rfl, hb2⟩))
    go_ret
    exact ⟨by first | rfl | simp, hb.trans (hb2.mono hb.size)⟩
  | false =>
    go_enter Try.func4, Try.ntmps4
    go_upto_region 5 with (first | (go_at_call 9; refine (alive_c _).mono ?_; rintro e w1 ⟨rfl, hb⟩) | (go_at_call 10; refine (HX.out _ hb).mono ?_; rintro e w2 ⟨rfl, hb2⟩; have hb2' := hb.trans (hb2.mono hb.size)))
    clear hb hb2
    go_upto_region 7 with (first | (go_at_call 13; refine (H13.out _ hb2').mono ?_; rintro e w3 ⟨v5, rfl, hr5, hb3⟩; have hb3' := hb2'.trans (hb3.mono hb2'.size)) | (go_at_call 14; refine (H14.out _ hb3').mono ?_; rintro e w4 ⟨v6, rfl, hr6, hb4⟩))
    have hlo := hb2'.size
    have hlh := hb3.size
    have hl34 := hb4.size
    have R5 := Kd.R_below (Kd.R_bound hr5) hb4
    obtain ⟨A5, c5, rfl, l5, C5⟩ := Kd.R_reads R5
    obtain ⟨A6, c6, rfl, l6, C6⟩ := Kd.R_reads hr6
    have HB4 := hide (hb3'.trans (hb4.mono hb3'.size))
    have HR5 := hide R5
    have HR6 := hide hr6
    have HC5 := hide (fun V (hb : Below w4.heap.size w4 V) => Kd.C_below C5 hb)
    have HC6 := hide (fun V (hb : Below w4.heap.size w4 V) => Kd.C_below C6 hb)
    clear hr5 hr6 hb3 hb4 hb2' hb3' R5 C5 C6
    have hb4 : Below w4.heap.size w4 w4 := Below.refl _ _
    go_wp2_with fail
    refine (HS.out _ _ _ _ _ (HC5.out _ hb4) l5 (HC6.out _ hb4) l6).mono ?_
    rintro e w5 ⟨rfl, hb5⟩
    go_wp2_with fail
    refine (HT.out _ _ _ _ _ (HC5.out _ hb5) l5 (HC6.out _ hb5) l6).mono ?_
    rintro e w6 ⟨rfl, hb6⟩
    have hb6' := hb5.trans (hb6.mono hb5.size)
    clear hb5 hb6
    go_wp2_with fail
    refine (HY.out _ _ _ (HC5.out _ hb6') l5).mono ?_
    rintro e w7 ⟨v7, rfl, hr7, hb7⟩
    obtain ⟨A7, c7, rfl, l7, C7⟩ := Kd.R_reads hr7
    have HC7 := hide C7
    have hb7' := hb6'.trans (hb7.mono hb6'.size)
    clear hb6' hb7 hr7 C7
    go_wp2_with fail
    refine (HS.out _ _ _ _ _ HC7.out l7 (HC5.out _ hb7') l5).mono ?_
    rintro e w8 ⟨rfl, hb8⟩
    have HB8 := hide (hb7'.trans (hb8.mono hb7'.size))
    have R8 := Kd.R_below (Kd.R_bound HR5.out) HB8.out
    have HR8 := hide R8
    have HBW8 := hide (HB4.out.trans (HB8.out.mono HB4.out.size))
    clear hb7' hb8 hb4 R8 HC5 HS HY HC7 HR5 HX H14 HB4 HC6
    have HL6 := hide (show ∀ V, Lie w2.heap.size w3.heap.size w8 V → Kd.C k30 V A6 y.length y from fun V hV => by
      have h1 := Kd.R_below (Kd.R_bound HR6.out) HB8.out
      have h2 := Kd.R_step (w1 := V) h1 (fun b hk hlt => by
        rw [Array.getElem?_eq_getElem hlt]
        exact hV.same b _ (Array.getElem?_eq_getElem hlt) (.inr (.inl hk.2.1)))
      obtain ⟨A', c', e, _, h3⟩ := Kd.R_reads h2
      injection e with e1 e2 e3
      rw [e1]
      exact h3)
    clear HR6
    have hl8 : w3.heap.size ≤ w8.heap.size := by have := HB8.out.size; omega
    go_upto_region 9 with (fail)
    have HL0 := hide (Lie.refl w2.heap.size w3.heap.size w8)
    go_loopw [8] (fun i W => ∃ k : Nat, k ≤ y.length ∧ i = .int .i64 k ∧ Hid (Lie w2.heap.size w3.heap.size w8 W)) (fun i _ => y.length - (intOf i).toNat)
    case atStart => exact ⟨0, by omega, rfl, HL0⟩
    case round =>
      obtain ⟨k, hk, rfl, HL⟩ := hrel
      by_cases hlt : k < y.length
      · obtain ⟨g, cg, hv, hgl, hgo, hgt, hgf⟩ := R_head HR8.out (by omega)
        injection hv with hA5 _ hc5
        subst hA5 hc5
        obtain ⟨v4, v5, z4, z5, r4, r5⟩ := R_node HR8.out hlt
        obtain ⟨A7, c7, rfl⟩ := Kd.R_slice r4
        obtain ⟨A8, c8, rfl⟩ := Kd.R_slice r5
        have HR4 := hide r4
        have HR5 := hide r5
        have HZ4 := hide (fun V (hV : Lie w2.heap.size w3.heap.size w8 V) => hV.blk hgt (by decide) (by decide) z4)
        have HZ5 := hide (fun V (hV : Lie w2.heap.size w3.heap.size w8 V) => hV.blk hgt (by decide) (by decide) z5)
        have hn4 := nb24 (HOK.out.1 _ (List.getElem_mem hlt)).2.2.2.2.2.2
        have hn5 := nb32 (HOK.out.1 _ (List.getElem_mem hlt)).2.2.2.2.1.2
        have HPO := hide (HOK.out.1 _ (List.getElem_mem hlt)).2.2.2.2.1.1
        generalize y[k].f4 = p4 at HR4 HZ4 HZ5 HPO hn5
        generalize y[k].f5 = p5 at HR5 HZ4 HZ5 hn4
        clear r4 r5 z4 z5 hgl hgo hgt hgf
        have q1 : (0 : Int) ≤ (k : Int) := by omega
        have q2 : (k : Int) < (y.length : Int) := by omega
        go_upto_region 12 with (fail)
        obtain ⟨wo, rfl⟩ : ∃ wo : World, wo = wr := ⟨_, rfl⟩
        go_loopw [9] (fun i W => ∃ s : Nat, s ≤ p5.length ∧ i = .int .i64 s ∧ Hid (Lie w2.heap.size w3.heap.size w8 W)) (fun i _ => p5.length - (intOf i).toNat)
        case atStart => exact ⟨0, by omega, rfl, HL⟩
        case round =>
          obtain ⟨W, rfl⟩ : ∃ W : World, W = wr := ⟨_, rfl⟩
          obtain ⟨s, hs, rfl, HM⟩ := hrel
          have hz := HZ5.out _ HM.out
          by_cases hsl : s < p5.length
          · obtain ⟨gs, cs, hv, e1, e2, e3, e4, e5, e6⟩ := R_ents HR5.out hsl
            injection hv with hv1 _ hv2
            subst hv1 hv2
            obtain ⟨x0, t0⟩ := HM.out.int e5
            obtain ⟨x1, t1⟩ := HM.out.str e6
            have f0 := HM.out.free _ _ (e4 (s * 2))
            have f1 := HM.out.free _ _ (e4 (s * 2 + 1))
            have q3 : (0 : Int) ≤ (s : Int) := by omega
            have q4 : (s : Int) < (p5.length : Int) := by omega
            have HN := hide (show Lie w2.heap.size w3.heap.size w8 ((W.setCell ⟨gs, s * 2, none⟩ (.int .i64 0)).setCell ⟨gs, s * 2 + 1, none⟩ (.string ⟨#[]⟩)) by
              have ht : ∃ c t, w8.heap[gs]? = some (.cells c t (0, 0)) ∧ (t = 32 ∨ t = 5) := by obtain ⟨c, h⟩ := e3; exact ⟨c, 32, h, .inl rfl⟩
              refine (HM.out.set e1 e2.1.2.2.1 ht t0 (u' := .int .i64 0) rfl).set e1 e2.1.2.2.1 ht (u := .string x1) ?_ trivial
              rw [World.cell?_setCell_other _ _ _ _ (by simp)]
              exact t1)
            clear e1 e2 e3 e4 e5 e6
            go_upto_region 13 with (fail)
            clear t0 t1 f0 f1
            generalize (W.setCell ⟨gs, s * 2, none⟩ (.int .i64 0)).setCell ⟨gs, s * 2 + 1, none⟩ (.string ⟨#[]⟩) = Wz at HN ⊢
            go_wp2
            go_roundw
            case rel => exact ⟨s + 1, by omega, by go_num, HN⟩
            case measure => simp [intOf]; omega
          · have hge : (p5.length : Int) ≤ (s : Int) := by omega
            go_upto_region 16 with (fail)
            clear HL
            obtain ⟨wo2, rfl⟩ : ∃ wo : World, wo = W := ⟨_, rfl⟩
            go_loopw [10] (fun i W => ∃ s : Nat, s ≤ p4.length ∧ i = .int .i64 s ∧ Hid (Lie w2.heap.size w3.heap.size w8 W)) (fun i _ => p4.length - (intOf i).toNat)
            case atStart => exact ⟨0, by omega, rfl, HM⟩
            case round =>
              obtain ⟨W, rfl⟩ : ∃ W : World, W = wr := ⟨_, rfl⟩
              obtain ⟨s2, hs2, rfl, HM2⟩ := hrel
              have hz4 := HZ4.out _ HM2.out
              by_cases hsl2 : s2 < p4.length
              · obtain ⟨gp, cp, hv, e1, e2, e3, e4⟩ := R_head HR4.out (by omega)
                injection hv with hv1 _ hv2
                subst hv1 hv2
                obtain ⟨v9, e5, r9⟩ := R_part HR4.out hsl2
                obtain ⟨A9, c9, rfl⟩ := Kd.R_slice r9
                have HR9 := hide r9
                have HZ9 := hide (fun V (hV : Lie w2.heap.size w3.heap.size w8 V) => hV.blk e3 (by decide) (by decide) e5)
                have hn9 := nb1 (HPO.out _ (List.getElem_mem hsl2)).2.2
                generalize p4[s2].f1 = p9 at HR9 HZ9 hn9
                clear r9 e1 e2 e3 e4 e5
                have q5 : (0 : Int) ≤ (s2 : Int) := by omega
                have q6 : (s2 : Int) < (p4.length : Int) := by omega
                go_upto_region 19 with (fail)
                obtain ⟨wo3, rfl⟩ : ∃ wo : World, wo = W := ⟨_, rfl⟩
                go_loopw [11] (fun i W => ∃ s : Nat, s ≤ p9.length ∧ i = .int .i64 s ∧ Hid (Lie w2.heap.size w3.heap.size w8 W)) (fun i _ => p9.length - (intOf i).toNat)
                case atStart => exact ⟨0, by omega, rfl, HM2⟩
                case round =>
                  obtain ⟨W, rfl⟩ : ∃ W : World, W = wr := ⟨_, rfl⟩
                  obtain ⟨s3, hs3, rfl, HM3⟩ := hrel
                  have hy4 := HZ4.out _ HM3.out
                  have hy9 := HZ9.out _ HM3.out
                  by_cases hsl3 : s3 < p9.length
                  · obtain ⟨gb, cb, hv, e1, e2, e3, e4, e5⟩ := R_byte HR9.out hsl3
                    injection hv with hv1 _ hv2
                    subst hv1 hv2
                    obtain ⟨x0, t0⟩ := HM3.out.int e5
                    have f0 := HM3.out.free _ _ (e4 s3)
                    have q7 : (0 : Int) ≤ (s3 : Int) := by omega
                    have q8 : (s3 : Int) < (p9.length : Int) := by omega
                    have HN := hide (show Lie w2.heap.size w3.heap.size w8 (W.setCell ⟨gb, s3, none⟩ (.int .u8 (bits .xor .u8 x0 255))).drew from by
                      have ht : ∃ c t, w8.heap[gb]? = some (.cells c t (0, 0)) ∧ (t = 32 ∨ t = 5) := by obtain ⟨c, h⟩ := e3; exact ⟨c, 5, h, .inr rfl⟩
                      exact (HM3.out.set e1 e2.1.2.2.1 ht t0 (u' := .int .u8 (bits .xor .u8 x0 255)) rfl).drewN 1)
                    clear e1 e2 e3 e4 e5
                    go_upto_region 21 with (fail)
                    go_region
                    clear t0 f0
                    generalize (W.setCell ⟨gb, s3, none⟩ (.int .u8 (bits .xor .u8 x0 255))).drew = Wz at HN ⊢
                    go_wp2
                    go_roundw
                    case rel => exact ⟨s3 + 1, by omega, by go_num, HN⟩
                    case measure => simp [intOf]; omega
                  · have hge : (p9.length : Int) ≤ (s3 : Int) := by omega
                    go_wp2
                    go_roundw
                    case rel => exact ⟨s2 + 1, by omega, by go_num, HM3⟩
                    case measure => simp [intOf]; omega
              · have hge : (p4.length : Int) ≤ (s2 : Int) := by omega
                go_wp2
                go_roundw
                case rel => exact ⟨k + 1, by omega, by go_num, HM2⟩
                case measure => simp [intOf]; omega
      · have hge : (y.length : Int) ≤ (k : Int) := by omega
        have hbw := HBW8.out.trans (HL.out.below.mono hlo)
        have HR6w := hide (HL6.out _ HL.out)
        go_wp2_with fail
        refine (H13.out _ hbw).mono ?_
        rintro e w9 ⟨v9, rfl, hr9, hb9⟩
        obtain ⟨A9, c9, rfl, l9, C9⟩ := Kd.R_reads hr9
        have C6 := Kd.C_below HR6w.out hb9
        have hb9' := hbw.trans (hb9.mono hbw.size)
        clear hbw hb9 hr9
        go_wp2_with fail
        refine (HT.out _ _ _ _ _ C9 l9 C6 l6).mono ?_
        rintro e w10 ⟨rfl, hb10⟩
        have hb10' := hb9'.trans (hb10.mono hb9'.size)
        clear hb9' hb10 C9 C6
        go_wp2
        go_ret
        exact ⟨rfl, hb10'⟩
end Go.Proofs.Ytnmlmbbacicojaa
namespace Go.Proofs.Ytnmlmbbacicojaa
set_option linter.unusedVariables false
set_option linter.unusedSimpArgs false
open Go.RowKit Go.Shelf Go.Maps Go.Proofs.YtnmlmbbacicojaaW.PrintWords Go.Proofs.YtnmlmbbacicojaaW.PrintLast Go.Proofs.YtnmlmbbacicojaaW.PrintMore Go.Proofs.Ytnmlmbbacicojaa.PWalkSame

theorem own_ge {w : World} {base : Nat} {e : TypeId} {size n : Nat} {v : Value} {xs : List Value} (h : w.ownsRow base e size v n xs) (k : Nat) (hk : v.ownBlock = some k) : base ≤ k := Go.Proofs.YtnmlmbbacicojaaW.PrintWords.own_base h k hk
theorem heap_k35 : Kd.Heap k35 := by
  unfold k35
  repeat (first | exact Kd.heap_int _ | exact Kd.heap_slice _ (Kd.heap_int _) | refine Kd.heap_iso _ ?_ | refine Kd.heap_pair ?_ ?_)
/-- slots of the call's own, cell by cell -/
theorem own_of_R32 {W : World} {base : Nat} {ok : Nat → Prop} {v : Value} {l : List S32} (h : Kd.R k32 32 W base ok v l) : W.ownsRow base 32 2 v l.length (entsC l) := by
  obtain ⟨_, cs, ho, h2⟩ := h
  have h1 := ho.1
  rw [show k32.sz = 2 from rfl] at ho h1 h2
  have : cs = entsC l := by
    refine List.ext_getElem (by rw [h1, entsC_len]) fun i hi hi' => ?_
    have hj : i / 2 < l.length := by omega
    obtain ⟨e0, e1⟩ := entsC_at hj
    obtain ⟨c0, c1⟩ := chunk2 (k32_openM (h2.2 (i / 2) _ (List.getElem?_eq_getElem hj)))
    rcases (show i = i / 2 * 2 ∨ i = i / 2 * 2 + 1 by omega) with e | e
    · rw [← e] at e0 c0
      rw [List.getElem?_eq_getElem hi] at c0; rw [List.getElem?_eq_getElem hi'] at e0
      rw [Option.some.inj c0, Option.some.inj e0]
    · rw [← e] at e1 c1
      rw [List.getElem?_eq_getElem hi] at c1; rw [List.getElem?_eq_getElem hi'] at e1
      rw [Option.some.inj c1, Option.some.inj e1]
  rw [← this]; exact ho
/-- what the first loop has seen -/
def Seen (l : List S30) (k : Nat) : Prop := ∀ i (h : i < l.length), i < k → (1 ≤ (l[i]).f0 ∧ (l[i]).f0 ≤ 1000000) ∧ (∀ e ∈ (l[i]).f5, e.f0 = 0 ∨ (1 ≤ e.f0 ∧ e.f0 ≤ 1000000)) ∧ atF l (l[i]).f0 = some (i : Int)
set_option maxHeartbeats 4000000 in
set_option maxRecDepth 100000 in
theorem WalkTurned_walk (w : World) (A : Option Addr) (N c : Nat) (l : List S30) (hn : l.length = N) (hc : N ≤ c) (hok : NodesOk l) (hC : Kd.C k30 w A N l) (by_ : Int) (wb : (Lit.int .i64 by_).wf = true) (add : Int) (wa : (Lit.int .i64 add).wf = true) :
    Calls Try.prog 5 #[.slice A N c, .int .i64 by_, .int .i64 add] w fun e w' => e = .returned (.bool true) ∧ Below w.heap.size w w' := by
  subst hn
  have hll : l.length ≤ 140737488355328 := hok.len
  have HX := hide (fun W (hb : Below w.heap.size w W) => big_c A l.length c l hok W rfl (Kd.C_below hC hb) hc)
  have HAT := hide (fun W x (hb : Below w.heap.size w W) => refAt_c l A l.length c x W rfl hc hll (Kd.C_below hC hb))
  have HC := hide hC
  have HOK := hide hok
  generalize bigB l hok = bx at HX
  clear hok hC
  cases bx with
  | true =>
    go_enter Try.func5, Try.ntmps5
    go_wp2_with (first | (go_at_call 9; refine (alive_c _).mono ?_; rintro e w1 ⟨rfl, hb⟩) | (go_at_call 10; refine (HX.out _ hb).mono ?_; rintro e w2 ⟨rfl, hb2⟩))
    go_ret
    exact ⟨by first | rfl | simp, hb.trans (hb2.mono hb.size)⟩
  | false =>
    by_cases hg1 : add < 1
    · go_enter Try.func5, Try.ntmps5
      go_wp2_with (first | (go_at_call 9; refine (alive_c _).mono ?_; rintro e w1 ⟨rfl, hb⟩) | (go_at_call 10; refine (HX.out _ hb).mono ?_; rintro e w2 ⟨rfl, hb2⟩))
      go_ret
      exact ⟨by first | rfl | simp, hb.trans (hb2.mono hb.size)⟩
    by_cases hg2 : 1000000 < add
    · go_enter Try.func5, Try.ntmps5
      go_wp2_with (first | (go_at_call 9; refine (alive_c _).mono ?_; rintro e w1 ⟨rfl, hb⟩) | (go_at_call 10; refine (HX.out _ hb).mono ?_; rintro e w2 ⟨rfl, hb2⟩))
      go_ret
      exact ⟨by first | rfl | simp, hb.trans (hb2.mono hb.size)⟩
    by_cases hg3 : by_ < 0
    · go_enter Try.func5, Try.ntmps5
      go_wp2_with (first | (go_at_call 9; refine (alive_c _).mono ?_; rintro e w1 ⟨rfl, hb⟩) | (go_at_call 10; refine (HX.out _ hb).mono ?_; rintro e w2 ⟨rfl, hb2⟩))
      go_ret
      exact ⟨by first | rfl | simp, hb.trans (hb2.mono hb.size)⟩
    obtain ⟨bn, rfl⟩ := Int.eq_ofNat_of_zero_le (show 0 ≤ by_ by omega)
    go_enter Try.func5, Try.ntmps5
    go_upto_region 6 with (first | (go_at_call 9; refine (alive_c _).mono ?_; rintro e w1 ⟨rfl, hb⟩) | (go_at_call 10; refine (HX.out _ hb).mono ?_; rintro e w2 ⟨rfl, hb2⟩; have hb2' := hb.trans (hb2.mono hb.size)))
    clear hb hb2
    have HP0 := hide (show Below w.heap.size w w2 ∧ Seen l 0 from ⟨hb2', fun i _ h => by omega⟩)
    clear hb2'
    go_loopw [9] (fun i W => ∃ k : Nat, k ≤ l.length ∧ i = .int .i64 k ∧ Hid (Below w.heap.size w W ∧ Seen l k)) (fun i _ => l.length - (intOf i).toNat)
    case atStart => exact ⟨0, by omega, rfl, HP0⟩
    case round =>
      obtain ⟨k, hk, rfl, HP⟩ := hrel
      by_cases hlt : k < l.length
      · have hx := HOK.out.1 _ (List.getElem_mem hlt)
        obtain ⟨ad, A4, c4, A5, c5, e5, x0, x1, x2, x3, x4, x5, l4, g4, l5, g5⟩ := at_T30 (Kd.C_below HC.out HP.out.1) (k : Int) (by omega) (by omega)
        rw [rd30 hlt] at x0 x1 x2 x3 x4 x5 l4 g4 l5 g5
        rw [Int.toNat_natCast] at x0 x1 x2 x3 x4 x5
        subst e5
        have o1 : (0 : Int) ≤ (k : Int) := by omega
        have o2 : (k : Int) < (l.length : Int) := by omega
        have HS := hide (show ∀ e, (1 ≤ (l[k]).f0 ∧ (l[k]).f0 ≤ 1000000) → atF l (l[k]).f0 = some e → e = (k : Int) → (∀ e ∈ (l[k]).f5, e.f0 = 0 ∨ (1 ≤ e.f0 ∧ e.f0 ≤ 1000000)) → Seen l (k + 1) from fun e h1 h2 h3 h4 i hi hik => by
          by_cases hik2 : i < k
          · exact HP.out.2 i hi hik2
          · obtain rfl : i = k := by omega
            exact ⟨h1, h4, by rw [h2, h3]⟩)
        generalize l[k] = y at hx x0 x1 x2 x3 x4 x5 l4 g4 l5 g5 HS
        have HY := hide hx
        have HG5 := hide g5
        have hy5 := nb24 hx.2.2.2.2.2.2
        clear x1 x2 x3 x4 g4 l4 hx g5
        by_cases hq1 : y.f0 < 1
        · go_wp2
          go_ret
          exact ⟨rfl, HP.out.1⟩
        by_cases hq2 : 1000000 < y.f0
        · go_wp2
          go_ret
          exact ⟨rfl, HP.out.1⟩
        have HA := hide (HAT.out _ y.f0 HP.out.1)
        generalize hat : (atF l y.f0) = at_ at HA HS
        by_cases hq3 : at_.getD (-1) = (k : Int)
        · have HB := hide HP.out.1
          have HG := hide (show atF l y.f0 = at_ from hat)
          have HS2 := hide (show (∀ e ∈ y.f5, e.f0 = 0 ∨ (1 ≤ e.f0 ∧ e.f0 ≤ 1000000)) → Seen l (k + 1) from fun h => by
            cases at_ with
            | none => exfalso; simp at hq3
            | some e => exact HS.out e (by omega) rfl hq3 h)
          go_upto_region 11 with (go_at_call 15; refine HA.out.mono ?_; rintro e w3 ⟨rfl, q3, rfl⟩)
          clear HA HS HP hat HG
          have HX5 := hide (fun V (hb : Below wr.heap.size wr V) => (hb.cell (World.block_lt_of_cell? _ _ x5)).trans x5)
          have HC5 := hide (fun V (hb : Below wr.heap.size wr V) => Kd.C_below HG5.out hb)
          have HP0 := hide (show Below wr.heap.size wr (wr.drewN q3) ∧ (∀ e ∈ y.f5.take 0, e.f0 = 0 ∨ (1 ≤ e.f0 ∧ e.f0 ≤ 1000000)) from ⟨below_drewN' (Below.refl _ _) q3, by simp⟩)
          obtain ⟨wo, rfl⟩ : ∃ wo : World, wo = wr := ⟨_, rfl⟩
          go_loopw [10] (fun i W => ∃ s : Nat, s ≤ y.f5.length ∧ i = .int .i64 s ∧ Hid (Below wo.heap.size wo W ∧ (∀ e ∈ y.f5.take s, e.f0 = 0 ∨ (1 ≤ e.f0 ∧ e.f0 ≤ 1000000)))) (fun i _ => y.f5.length - (intOf i).toNat)
          case atStart => exact ⟨0, by omega, rfl, HP0⟩
          case round =>
            obtain ⟨W, rfl⟩ : ∃ W : World, W = wr := ⟨_, rfl⟩
            obtain ⟨s, hs, rfl, HM⟩ := hrel
            have hz := HX5.out _ HM.out.1
            by_cases hsl : s < y.f5.length
            · obtain ⟨ad5, e5, t0, t1⟩ := at_T32 (HC5.out _ HM.out.1) (s : Int) (by omega) (by omega)
              rw [rd32 hsl] at t0 t1
              rw [Int.toNat_natCast] at t0 t1
              subst e5
              have o3 : (0 : Int) ≤ (s : Int) := by omega
              have o4 : (s : Int) < (y.f5.length : Int) := by omega
              have HS3 := hide (show (y.f5[s].f0 = 0 ∨ (1 ≤ y.f5[s].f0 ∧ y.f5[s].f0 ≤ 1000000)) → (∀ e ∈ y.f5.take (s + 1), e.f0 = 0 ∨ (1 ≤ e.f0 ∧ e.f0 ≤ 1000000)) from fun h e he => by
                rw [List.take_succ_eq_append_getElem hsl] at he
                rcases List.mem_append.1 he with he | he
                · exact HM.out.2 e he
                · rw [List.mem_singleton.1 he]; exact h)
              generalize y.f5[s] = e at t0 t1 HS3
              have HB2 := hide HM.out.1
              clear HM
              go_upto_region 14 with (fail)
              have hbx : Blk (W.alloc (.cells #[.int .i64 e.f0, .string e.f1] 32)) W.heap.size #[.int .i64 e.f0, .string e.f1] 32 := Blk.new _ _ _
              have HB3 := hide (HB2.out.trans (((Below.refl W.heap.size W).alloc (Nat.le_refl _) (.cells #[.int .i64 e.f0, .string e.f1] 32)).mono HB2.out.size))
              generalize W.alloc (.cells #[.int .i64 e.f0, .string e.f1] 32) = W3 at hbx HB3 ⊢
              have z0 : W3.cell? ⟨W.heap.size, 0, none⟩ = some (.int .i64 e.f0) := hbx.cell 0
              clear hbx t0 t1 hz
              generalize W.heap.size = bx at z0 ⊢
              by_cases r0 : e.f0 = 0
              · go_wp2
                go_roundw
                case rel => exact ⟨s + 1, by omega, by go_num, hide ⟨HB3.out, HS3.out (.inl r0)⟩⟩
                case measure => simp [intOf]; omega
              · by_cases r1 : e.f0 < 1
                · go_wp2
                  go_ret
                  exact ⟨rfl, HB.out.trans (HB3.out.mono HB.out.size)⟩
                · by_cases r2 : 1000000 < e.f0
                  · go_wp2
                    go_ret
                    exact ⟨rfl, HB.out.trans (HB3.out.mono HB.out.size)⟩
                  · go_wp2
                    go_roundw
                    case rel => exact ⟨s + 1, by omega, by go_num, hide ⟨HB3.out, HS3.out (.inr (by omega))⟩⟩
                    case measure => simp [intOf]; omega
            · have hge : (y.f5.length : Int) ≤ (s : Int) := by omega
              have HN := hide (show Below w.heap.size w W ∧ Seen l (k + 1) from ⟨HB.out.trans (HM.out.1.mono HB.out.size), HS2.out (by have := HM.out.2; rwa [List.take_of_length_le (by omega)] at this)⟩)
              go_wp2
              go_roundw
              case rel => exact ⟨k + 1, by omega, by go_num, HN⟩
              case measure => simp [intOf]; omega
        · go_wp2_with (go_at_call 15; refine HA.out.mono ?_; rintro e w3 ⟨rfl, q3, rfl⟩)
          go_ret
          exact ⟨rfl, below_drewN' HP.out.1 q3⟩
      · have hge : (l.length : Int) ≤ (k : Int) := by omega
        have HSE := hide (show Seen l l.length by have := HP.out.2; rwa [show k = l.length by omega] at this)
        have HBO := hide HP.out.1
        clear HP
        go_upto_region 18 with (fail)
        have HT0 := hide (show Kd.N k30 30 wr w.heap.size (fun _ => True) (.slice none 0 0) ((turnedL l (bn % l.length) add).take 0) from Kd.N_nil _ _ _ _ _)
        clear hge
        go_loopw [12, 13] (fun v i W => ∃ (k : Nat) (A7 : Option Addr) (c7 : Nat), k ≤ l.length ∧ i = .int .i64 k ∧ v = .slice A7 k c7 ∧ Hid (Below w.heap.size w W ∧ Kd.N k30 30 W w.heap.size (fun _ => True) (.slice A7 k c7) ((turnedL l (bn % l.length) add).take k))) (fun _ i _ => l.length - (intOf i).toNat)
        case atStart => exact ⟨0, none, 0, by omega, rfl, rfl, hide ⟨HBO.out, HT0.out⟩⟩
        case round =>
          obtain ⟨wo, rfl⟩ : ∃ wo : World, wo = wr := ⟨_, rfl⟩
          obtain ⟨k, A7, c7, hk, rfl, rfl, HM⟩ := hrel
          by_cases hlt : k < l.length
          · have hr : rotI l.length (bn % l.length) k < l.length := Nat.mod_lt _ (by omega)
            have e1 : (bn : Int).tmod (l.length : Int) = ((bn % l.length : Nat) : Int) := (Int.ofNat_tmod _ _).symm
            have e2 : ((k : Int) + ((bn % l.length : Nat) : Int)).tmod (l.length : Int) = ((rotI l.length (bn % l.length) k : Nat) : Int) := by
              rw [← Int.natCast_add]; exact (Int.ofNat_tmod _ _).symm
            have hbl : bn % l.length < l.length := Nat.mod_lt _ (by omega)
            have HSTEP := hide (turnedL_step (b := bn % l.length) (add := add) hlt)
            rw [show l.getD (rotI l.length (bn % l.length) k) z30 = l[rotI l.length (bn % l.length) k] by simp [hr]] at HSTEP
            generalize hbe : bn % l.length = b at hr e1 e2 hbl HSTEP HM
            generalize rotI l.length b k = p at hr e2 HSTEP
            obtain ⟨ad, A4, c4, A5, c5, e5, x0, x1, x2, x3, x4, x5, l4, g4, l5, g5⟩ := at_T30 HC.out (p : Int) (by omega) (by omega)
            rw [rd30 hr] at x0 x1 x2 x3 x4 x5 l4 g4 l5 g5
            rw [Int.toNat_natCast] at x0 x1 x2 x3 x4 x5
            replace x0 := (HM.out.1.cell (World.block_lt_of_cell? _ _ x0)).trans x0
            replace x1 := (HM.out.1.cell (World.block_lt_of_cell? _ _ x1)).trans x1
            replace x2 := (HM.out.1.cell (World.block_lt_of_cell? _ _ x2)).trans x2
            replace x3 := (HM.out.1.cell (World.block_lt_of_cell? _ _ x3)).trans x3
            replace x4 := (HM.out.1.cell (World.block_lt_of_cell? _ _ x4)).trans x4
            replace x5 := (HM.out.1.cell (World.block_lt_of_cell? _ _ x5)).trans x5
            subst e5
            have hx := HOK.out.1 _ (List.getElem_mem hr)
            have hs1 := HSE.out p hr (by omega)
            generalize l[p] = y at hx x0 x1 x2 x3 x4 x5 l4 g4 l5 g5 HSTEP hs1
            have o1 : (0 : Int) ≤ (p : Int) := by omega
            have o2 : (p : Int) < (l.length : Int) := by omega
            have o3 : (l.length : Int) ≠ 0 := by omega
            have HY := hide hx
            have HG4 := hide g4
            have HG5 := hide (fun V (hb : Below wo.heap.size wo V) => Kd.C_below (Kd.C_below g5 HM.out.1) hb)
            have HS1 := hide hs1
            have hy1 := hs1.1
            have hy5 := hx.2.2.2.2.2.2
            clear hx g4 g5 hs1 hbe
            go_upto_region 21 with (fail)
            have hbx : Blk (wo.alloc (.cells #[.int .i64 y.f0, .int .i64 y.f1, .int .i64 y.f2, .int .i64 y.f3, .slice A4 y.f4.length c4, .slice A5 y.f5.length c5] 30)) wo.heap.size #[.int .i64 y.f0, .int .i64 y.f1, .int .i64 y.f2, .int .i64 y.f3, .slice A4 y.f4.length c4, .slice A5 y.f5.length c5] 30 := Blk.new _ _ _
            have hb3 := (Below.refl wo.heap.size wo).alloc (Nat.le_refl _) (.cells #[.int .i64 y.f0, .int .i64 y.f1, .int .i64 y.f2, .int .i64 y.f3, .slice A4 y.f4.length c4, .slice A5 y.f5.length c5] 30)
            generalize wo.alloc (.cells #[.int .i64 y.f0, .int .i64 y.f1, .int .i64 y.f2, .int .i64 y.f3, .slice A4 y.f4.length c4, .slice A5 y.f5.length c5] 30) = W3 at hbx hb3 ⊢
            have HB3 := hide hb3
            generalize hbxe : wo.heap.size = bx at hbx ⊢
            have HBXE := hide hbxe
            have HBX := hide hbx
            have z0 : W3.cell? ⟨bx, 0, none⟩ = some (.int .i64 y.f0) := hbx.cell 0
            have f0 := hbx.frozen 0
            clear hbxe hbx hb3 x0 x1 x2 x3 x4 x5 e1 e2 o1 o2 o3
            by_cases hgt : 1 < y.f0
            · go_upto_region 23 with (fail)
              have HB4 := hide (show Below wo.heap.size wo (W3.setCell ⟨bx, 0, none⟩ (.int .i64 (y.f0 + add))) from HB3.out.setCell (p := ⟨bx, 0, none⟩) (by rw [HBXE.out]; exact Nat.le_refl _) _)
              have HBX4 := hide (show Blk (W3.setCell ⟨bx, 0, none⟩ (.int .i64 (y.f0 + add))) bx #[.int .i64 (shI add y.f0), .int .i64 y.f1, .int .i64 y.f2, .int .i64 y.f3, .slice A4 y.f4.length c4, .slice A5 y.f5.length c5] 30 from by rw [show shI add y.f0 = y.f0 + add by unfold shI; rw [if_pos hgt]]; exact HBX.out.set 0 _)
              clear z0 f0
              generalize W3.setCell ⟨bx, 0, none⟩ (.int .i64 (y.f0 + add)) = W4 at HB4 HBX4 ⊢
              have hbl4 := HBX4.out.lt
              have hl5 : (([] : List S32).length + y.f5.length) * 24 ≤ 140737488355328 := by have := reach47; have := hy5; simp only [List.length_nil]; omega
              have z5 : W4.cell? ⟨bx, 5, none⟩ = some (.slice A5 y.f5.length c5) := HBX4.out.cell 5
              go_upto_region 24 with (at_builtin; go_must (refine Kd.R_append_rows k32 (w0 := W4) W4.heap.size rfl (.const (.slice none 0 0)) (.tmp 126) 28 32 (.agg #[(.int .i64 0), (.string ⟨#[]⟩)]) 24 rfl Try.underlying28 info32 rfl (by decide) (by omega) (.slice none 0 0) ([] : List S32) y.f5 _ _ _ (fun _ => True) (fun _ => False) rfl rfl (Kd.R_nil _ _ _ _ _) (HG5.out _ HB4.out) (fun _ _ h => h) (fun _ h => h.elim) (fun _ _ => trivial) (Below.refl _ _) (Nat.le_refl _) hl5 ?_); intro v5 w5 ho hb hg hat; rw [List.nil_append] at ho; obtain ⟨A6, c6, rfl⟩ := Kd.R_slice ho; have HO5 := hide ho; have HB5 := hide hb; have HBX5 := hide (HBX4.out.below hb hbl4); have z5' : w5.cell? ⟨bx, 5, none⟩ = some (.slice A5 y.f5.length c5) := HBX5.out.cell 5; have f5' := HBX5.out.frozen 5; clear ho hb hg hat)
              have HI0 := hide (show Below bx wo (w5.setCell ⟨bx, 5, none⟩ (.slice A6 y.f5.length c6)) ∧ Blk (w5.setCell ⟨bx, 5, none⟩ (.slice A6 y.f5.length c6)) bx #[.int .i64 (shI add y.f0), .int .i64 y.f1, .int .i64 y.f2, .int .i64 y.f3, .slice A4 y.f4.length c4, .slice A6 y.f5.length c6] 30 ∧ (w5.setCell ⟨bx, 5, none⟩ (.slice A6 y.f5.length c6)).ownsRow (bx + 1) 32 2 (.slice A6 y.f5.length c6) y.f5.length (entsC ((y.f5.take 0).map (shE add) ++ y.f5.drop 0)) from by
                have hB : Below bx wo w5 := by rw [← HBXE.out]; exact HB4.out.trans (HB5.out.mono HB4.out.size)
                refine ⟨hB.setCell (p := ⟨bx, 5, none⟩) (Nat.le_refl _) _, HBX5.out.set 5 _, ?_⟩
                have ho := ownsRow_setCell_other (own_of_R32 HO5.out) (a := ⟨bx, 5, none⟩) (fun h => by
                  have := own_ge (own_of_R32 HO5.out) bx h
                  omega) (.slice A6 y.f5.length c6)
                exact own_base ho (by omega))
              clear z5 z5' f5'
              generalize w5.setCell ⟨bx, 5, none⟩ (.slice A6 y.f5.length c6) = W6 at HI0 ⊢
              go_upto_region 25 with (fail)
              go_loopw [15] (fun i W => ∃ s : Nat, s ≤ y.f5.length ∧ i = .int .i64 s ∧ Hid (Below bx wo W ∧ Blk W bx #[.int .i64 (shI add y.f0), .int .i64 y.f1, .int .i64 y.f2, .int .i64 y.f3, .slice A4 y.f4.length c4, .slice A6 y.f5.length c6] 30 ∧ W.ownsRow (bx + 1) 32 2 (.slice A6 y.f5.length c6) y.f5.length (entsC ((y.f5.take s).map (shE add) ++ y.f5.drop s)))) (fun i _ => y.f5.length - (intOf i).toNat)
              case atStart => exact ⟨0, by omega, rfl, HI0⟩
              case round =>
                obtain ⟨W, rfl⟩ : ∃ W : World, W = wr := ⟨_, rfl⟩
                obtain ⟨s, hs, rfl, HIN⟩ := hrel
                have z5 : W.cell? ⟨bx, 5, none⟩ = some (.slice A6 y.f5.length c6) := HIN.out.2.1.cell 5
                by_cases hsl : s < y.f5.length
                · obtain ⟨ib, ix, io⟩ := HIN.out
                  have hsm := HS1.out.2.1 _ (List.getElem_mem hsl)
                  have hdl : ((y.f5.take s).map (shE add)).length = s := by rw [List.length_map, List.length_take]; omega
                  have HNX := hide (show (y.f5.take (s + 1)).map (shE add) ++ y.f5.drop (s + 1) = (y.f5.take s).map (shE add) ++ shE add y.f5[s] :: y.f5.drop (s + 1) from by rw [List.take_succ_eq_append_getElem hsl, List.map_append, List.append_assoc]; rfl)
                  rw [List.drop_eq_getElem_cons hsl] at io
                  obtain ⟨gs, cap, hv, hbg, hgs⟩ := io.form (by omega)
                  injection hv with hA6 _ hc6
                  subst hA6 hc6
                  generalize y.f5[s] = e at io hsm HNX
                  have HE := hide (ent_here (done := (y.f5.take s).map (shE add)) (rest := y.f5.drop (s + 1)) (e := e) hdl)
                  have a0 : W.cell? ⟨gs, s * 2, none⟩ = some (.int .i64 e.f0) := by rw [io.cellAt (s * 2) (by omega), entsC_append]; exact HE.out.1
                  have f0 := io.frozenAt (s * 2)
                  have q1 : (0 : Int) ≤ (s : Int) := by omega
                  have q2 : (s : Int) < (y.f5.length : Int) := by omega
                  have HIO := hide io
                  have HIB := hide ib
                  have HIX := hide ix
                  clear io ib ix HIN HE hgs
                  by_cases he1 : 1 < e.f0
                  · have hsm2 : e.f0 ≤ 1000000 := by omega
                    have HN := hide (show Below bx wo (W.setCell ⟨gs, s * 2, none⟩ (.int .i64 (e.f0 + add))).drew ∧ Blk (W.setCell ⟨gs, s * 2, none⟩ (.int .i64 (e.f0 + add))).drew bx #[.int .i64 (shI add y.f0), .int .i64 y.f1, .int .i64 y.f2, .int .i64 y.f3, .slice A4 y.f4.length c4, .slice (some ⟨gs, 0, none⟩) y.f5.length c6] 30 ∧ (W.setCell ⟨gs, s * 2, none⟩ (.int .i64 (e.f0 + add))).drew.ownsRow (bx + 1) 32 2 (.slice (some ⟨gs, 0, none⟩) y.f5.length c6) y.f5.length (entsC ((y.f5.take (s + 1)).map (shE add) ++ y.f5.drop (s + 1))) from by
                      refine ⟨below_drewN' (HIB.out.setCell (p := ⟨gs, s * 2, none⟩) (by dsimp only; omega) _) 1, (HIX.out.other (a := ⟨gs, s * 2, none⟩) (by dsimp only; omega) _).same rfl, ?_⟩
                      rw [HNX.out, show shE add e = ⟨e.f0 + add, e.f1⟩ by unfold shE shI; rw [if_pos he1], ← set_ino (e := e) hdl]
                      exact (HIO.out.stored (s * 2) _).1)
                    go_upto_region 28 with (fail)
                    go_region
                    clear a0 f0 z5
                    generalize (W.setCell ⟨gs, s * 2, none⟩ (.int .i64 (e.f0 + add))).drew = Wz at HN ⊢
                    go_wp2
                    go_roundw
                    case rel => exact ⟨s + 1, by omega, by go_num, HN⟩
                    case measure => simp [intOf]; omega
                  · have HN := hide (show Below bx wo W ∧ Blk W bx #[.int .i64 (shI add y.f0), .int .i64 y.f1, .int .i64 y.f2, .int .i64 y.f3, .slice A4 y.f4.length c4, .slice (some ⟨gs, 0, none⟩) y.f5.length c6] 30 ∧ W.ownsRow (bx + 1) 32 2 (.slice (some ⟨gs, 0, none⟩) y.f5.length c6) y.f5.length (entsC ((y.f5.take (s + 1)).map (shE add) ++ y.f5.drop (s + 1))) from by
                      refine ⟨HIB.out, HIX.out, ?_⟩
                      rw [HNX.out, show shE add e = e by unfold shE shI; rw [if_neg he1]]
                      exact HIO.out)
                    go_wp2
                    go_roundw
                    case rel => exact ⟨s + 1, by omega, by go_num, HN⟩
                    case measure => simp [intOf]; omega
                · have hge : (y.f5.length : Int) ≤ (s : Int) := by omega
                  obtain ⟨ib, ix, io⟩ := HIN.out
                  rw [show s = y.f5.length by omega, List.take_length, List.drop_length, List.append_nil] at io
                  have w0 : W.cell? ⟨bx, 0, none⟩ = some (.int .i64 (shI add y.f0)) := ix.cell 0
                  have w1' : W.cell? ⟨bx, 1, none⟩ = some (.int .i64 y.f1) := ix.cell 1
                  have w2' : W.cell? ⟨bx, 2, none⟩ = some (.int .i64 y.f2) := ix.cell 2
                  have w3' : W.cell? ⟨bx, 3, none⟩ = some (.int .i64 y.f3) := ix.cell 3
                  have w4' : W.cell? ⟨bx, 4, none⟩ = some (.slice A4 y.f4.length c4) := ix.cell 4
                  have HBW := hide (show Below wo.heap.size wo W by rw [HBXE.out]; exact ib)
                  have HFK := hide (show Kd.FK k30 W (fun b => b < w.heap.size ∨ bx < b) (⟨shI add y.f0, y.f1, y.f2, y.f3, y.f4, y.f5.map (shE add)⟩ : S30) [.int .i64 (shI add y.f0), .int .i64 y.f1, .int .i64 y.f2, .int .i64 y.f3, .slice A4 y.f4.length c4, .slice A6 y.f5.length c6] from by
                    have hl5 : y.f5.length ≤ c6 := by
                      have := (Kd.R_reads' HO5.out).2.1
                      exact this
                    have hRr : Kd.R k32 32 W (bx + 1) (fun b => bx < b) (.slice A6 y.f5.length c6) (y.f5.map (shE add)) := ⟨fun b hb => by have := own_ge io b hb; omega, _, by rw [List.length_map]; exact io, entsC_reps _ _ _ _⟩
                    have h4 := Kd.F_below (Kd.F_below (Kd.C_F heap_k35 HG4.out) HM.out.1) HBW.out
                    have := k30_mkF W (fun b => b < w.heap.size ∨ bx < b) (⟨shI add y.f0, y.f1, y.f2, y.f3, y.f4, y.f5.map (shE add)⟩ : S30) l4 (Kd.F_mono h4 (fun _ h => .inl h)) (A5 := A6) (c5 := c6) (by rw [List.length_map]; exact hl5) (by have := Kd.F_mono (Kd.R_F hRr) (ok' := fun b => b < w.heap.size ∨ bx < b) (fun _ h => .inr h); rw [List.length_map]; exact this)
                    rw [List.length_map] at this
                    exact this)
                  have HNW := hide (Kd.N_below HM.out.2 HBW.out)
                  have hokp : ∀ b, (b < w.heap.size ∨ bx < b) → True ∧ some b ≠ (Value.slice A7 k c7).ownBlock := fun b hb => ⟨trivial, fun e => by
                    have h1 := Kd.N_lt HM.out.2 b e.symm
                    have h2 := Kd.N_base HM.out.2 b e.symm
                    have h3 := HBXE.out
                    omega⟩
                  have HBF := hide (HM.out.1.trans (HBW.out.mono HM.out.1.size))
                  have hkl : (((turnedL l b add).take k).length + 1) * 80 ≤ 140737488355328 := by
                    have h1 := HOK.out.2
                    have h2 := reach47
                    have h3 : ((turnedL l b add).take k).length ≤ k := by rw [List.length_take]; omega
                    omega
                  have HXL := hide (show ((turnedL l b add).take k).length = k by rw [List.length_take, turnedL_len]; omega)
                  clear ib ix io HIN
                  generalize (turnedL l b add).take k = mx at HNW hkl HXL HSTEP
                  go_upto_region 19 with (at_builtin; go_must (refine Kd.N_append k30 (w0 := w) w.heap.size rfl (.tmp 156) (.tmp 158) 22 30 (.agg #[(.int .i64 0), (.int .i64 0), (.int .i64 0), (.int .i64 0), (.slice none 0 0), (.slice none 0 0)]) 80 rfl Try.underlying22 info30 rfl (by decide) (by omega) (.slice A7 k c7) mx (⟨shI add y.f0, y.f1, y.f2, y.f3, y.f4, y.f5.map (shE add)⟩ : S30) [.int .i64 (shI add y.f0), .int .i64 y.f1, .int .i64 y.f2, .int .i64 y.f3, .slice A4 y.f4.length c4, .slice A6 y.f5.length c6] (fun _ => True) (fun b => b < w.heap.size ∨ bx < b) rfl rfl HFK.out hokp (fun _ _ => trivial) HNW.out HBF.out HBF.out.size hkl ?_); intro v1 wn ho hb hg hat; have HRO := hide ho; have HRB := hide hb; obtain ⟨A1n, c1n, rfl⟩ := Kd.N_slice ho; clear ho hb hg hat)
                  have HLN : Hid ((mx ++ [(⟨shI add y.f0, y.f1, y.f2, y.f3, y.f4, y.f5.map (shE add)⟩ : S30)]).length = k + 1) := hide (by rw [List.length_append, HXL.out]; rfl)
                  clear w0 w1' w2' w3' w4' z5
                  go_wp2
                  go_roundw
                  case rel => exact ⟨k + 1, A1n, c1n, by omega, by go_num, by first | rw [HLN.out] | rw [HXL.out], hide ⟨HRB.out, by have := HRO.out; rw [HLN.out] at this; rw [HSTEP.out]; exact this⟩⟩
                  case measure => simp [intOf]; omega
            · go_upto_region 23 with (fail)
              have HB4 := HB3
              have HBX4 := hide (show Blk W3 bx #[.int .i64 (shI add y.f0), .int .i64 y.f1, .int .i64 y.f2, .int .i64 y.f3, .slice A4 y.f4.length c4, .slice A5 y.f5.length c5] 30 from by rw [show shI add y.f0 = y.f0 by unfold shI; rw [if_neg hgt]]; exact HBX.out)
              clear z0 f0 HBX HB3
              obtain ⟨W4, rfl⟩ : ∃ W4 : World, W4 = W3 := ⟨_, rfl⟩
              have hbl4 := HBX4.out.lt
              have hl5 : (([] : List S32).length + y.f5.length) * 24 ≤ 140737488355328 := by have := reach47; have := hy5; simp only [List.length_nil]; omega
              have z5 : W4.cell? ⟨bx, 5, none⟩ = some (.slice A5 y.f5.length c5) := HBX4.out.cell 5
              go_upto_region 24 with (at_builtin; go_must (refine Kd.R_append_rows k32 (w0 := W4) W4.heap.size rfl (.const (.slice none 0 0)) (.tmp 126) 28 32 (.agg #[(.int .i64 0), (.string ⟨#[]⟩)]) 24 rfl Try.underlying28 info32 rfl (by decide) (by omega) (.slice none 0 0) ([] : List S32) y.f5 _ _ _ (fun _ => True) (fun _ => False) rfl rfl (Kd.R_nil _ _ _ _ _) (HG5.out _ HB4.out) (fun _ _ h => h) (fun _ h => h.elim) (fun _ _ => trivial) (Below.refl _ _) (Nat.le_refl _) hl5 ?_); intro v5 w5 ho hb hg hat; rw [List.nil_append] at ho; obtain ⟨A6, c6, rfl⟩ := Kd.R_slice ho; have HO5 := hide ho; have HB5 := hide hb; have HBX5 := hide (HBX4.out.below hb hbl4); have z5' : w5.cell? ⟨bx, 5, none⟩ = some (.slice A5 y.f5.length c5) := HBX5.out.cell 5; have f5' := HBX5.out.frozen 5; clear ho hb hg hat)
              have HI0 := hide (show Below bx wo (w5.setCell ⟨bx, 5, none⟩ (.slice A6 y.f5.length c6)) ∧ Blk (w5.setCell ⟨bx, 5, none⟩ (.slice A6 y.f5.length c6)) bx #[.int .i64 (shI add y.f0), .int .i64 y.f1, .int .i64 y.f2, .int .i64 y.f3, .slice A4 y.f4.length c4, .slice A6 y.f5.length c6] 30 ∧ (w5.setCell ⟨bx, 5, none⟩ (.slice A6 y.f5.length c6)).ownsRow (bx + 1) 32 2 (.slice A6 y.f5.length c6) y.f5.length (entsC ((y.f5.take 0).map (shE add) ++ y.f5.drop 0)) from by
                have hB : Below bx wo w5 := by rw [← HBXE.out]; exact HB4.out.trans (HB5.out.mono HB4.out.size)
                refine ⟨hB.setCell (p := ⟨bx, 5, none⟩) (Nat.le_refl _) _, HBX5.out.set 5 _, ?_⟩
                have ho := ownsRow_setCell_other (own_of_R32 HO5.out) (a := ⟨bx, 5, none⟩) (fun h => by
                  have := own_ge (own_of_R32 HO5.out) bx h
                  omega) (.slice A6 y.f5.length c6)
                exact own_base ho (by omega))
              clear z5 z5' f5'
              generalize w5.setCell ⟨bx, 5, none⟩ (.slice A6 y.f5.length c6) = W6 at HI0 ⊢
              go_upto_region 25 with (fail)
              go_loopw [15] (fun i W => ∃ s : Nat, s ≤ y.f5.length ∧ i = .int .i64 s ∧ Hid (Below bx wo W ∧ Blk W bx #[.int .i64 (shI add y.f0), .int .i64 y.f1, .int .i64 y.f2, .int .i64 y.f3, .slice A4 y.f4.length c4, .slice A6 y.f5.length c6] 30 ∧ W.ownsRow (bx + 1) 32 2 (.slice A6 y.f5.length c6) y.f5.length (entsC ((y.f5.take s).map (shE add) ++ y.f5.drop s)))) (fun i _ => y.f5.length - (intOf i).toNat)
              case atStart => exact ⟨0, by omega, rfl, HI0⟩
              case round =>
                obtain ⟨W, rfl⟩ : ∃ W : World, W = wr := ⟨_, rfl⟩
                obtain ⟨s, hs, rfl, HIN⟩ := hrel
                have z5 : W.cell? ⟨bx, 5, none⟩ = some (.slice A6 y.f5.length c6) := HIN.out.2.1.cell 5
                by_cases hsl : s < y.f5.length
                · obtain ⟨ib, ix, io⟩ := HIN.out
                  have hsm := HS1.out.2.1 _ (List.getElem_mem hsl)
                  have hdl : ((y.f5.take s).map (shE add)).length = s := by rw [List.length_map, List.length_take]; omega
                  have HNX := hide (show (y.f5.take (s + 1)).map (shE add) ++ y.f5.drop (s + 1) = (y.f5.take s).map (shE add) ++ shE add y.f5[s] :: y.f5.drop (s + 1) from by rw [List.take_succ_eq_append_getElem hsl, List.map_append, List.append_assoc]; rfl)
                  rw [List.drop_eq_getElem_cons hsl] at io
                  obtain ⟨gs, cap, hv, hbg, hgs⟩ := io.form (by omega)
                  injection hv with hA6 _ hc6
                  subst hA6 hc6
                  generalize y.f5[s] = e at io hsm HNX
                  have HE := hide (ent_here (done := (y.f5.take s).map (shE add)) (rest := y.f5.drop (s + 1)) (e := e) hdl)
                  have a0 : W.cell? ⟨gs, s * 2, none⟩ = some (.int .i64 e.f0) := by rw [io.cellAt (s * 2) (by omega), entsC_append]; exact HE.out.1
                  have f0 := io.frozenAt (s * 2)
                  have q1 : (0 : Int) ≤ (s : Int) := by omega
                  have q2 : (s : Int) < (y.f5.length : Int) := by omega
                  have HIO := hide io
                  have HIB := hide ib
                  have HIX := hide ix
                  clear io ib ix HIN HE hgs
                  by_cases he1 : 1 < e.f0
                  · have hsm2 : e.f0 ≤ 1000000 := by omega
                    have HN := hide (show Below bx wo (W.setCell ⟨gs, s * 2, none⟩ (.int .i64 (e.f0 + add))).drew ∧ Blk (W.setCell ⟨gs, s * 2, none⟩ (.int .i64 (e.f0 + add))).drew bx #[.int .i64 (shI add y.f0), .int .i64 y.f1, .int .i64 y.f2, .int .i64 y.f3, .slice A4 y.f4.length c4, .slice (some ⟨gs, 0, none⟩) y.f5.length c6] 30 ∧ (W.setCell ⟨gs, s * 2, none⟩ (.int .i64 (e.f0 + add))).drew.ownsRow (bx + 1) 32 2 (.slice (some ⟨gs, 0, none⟩) y.f5.length c6) y.f5.length (entsC ((y.f5.take (s + 1)).map (shE add) ++ y.f5.drop (s + 1))) from by
                      refine ⟨below_drewN' (HIB.out.setCell (p := ⟨gs, s * 2, none⟩) (by dsimp only; omega) _) 1, (HIX.out.other (a := ⟨gs, s * 2, none⟩) (by dsimp only; omega) _).same rfl, ?_⟩
                      rw [HNX.out, show shE add e = ⟨e.f0 + add, e.f1⟩ by unfold shE shI; rw [if_pos he1], ← set_ino (e := e) hdl]
                      exact (HIO.out.stored (s * 2) _).1)
                    go_upto_region 28 with (fail)
                    go_region
                    clear a0 f0 z5
                    generalize (W.setCell ⟨gs, s * 2, none⟩ (.int .i64 (e.f0 + add))).drew = Wz at HN ⊢
                    go_wp2
                    go_roundw
                    case rel => exact ⟨s + 1, by omega, by go_num, HN⟩
                    case measure => simp [intOf]; omega
                  · have HN := hide (show Below bx wo W ∧ Blk W bx #[.int .i64 (shI add y.f0), .int .i64 y.f1, .int .i64 y.f2, .int .i64 y.f3, .slice A4 y.f4.length c4, .slice (some ⟨gs, 0, none⟩) y.f5.length c6] 30 ∧ W.ownsRow (bx + 1) 32 2 (.slice (some ⟨gs, 0, none⟩) y.f5.length c6) y.f5.length (entsC ((y.f5.take (s + 1)).map (shE add) ++ y.f5.drop (s + 1))) from by
                      refine ⟨HIB.out, HIX.out, ?_⟩
                      rw [HNX.out, show shE add e = e by unfold shE shI; rw [if_neg he1]]
                      exact HIO.out)
                    go_wp2
                    go_roundw
                    case rel => exact ⟨s + 1, by omega, by go_num, HN⟩
                    case measure => simp [intOf]; omega
                · have hge : (y.f5.length : Int) ≤ (s : Int) := by omega
                  obtain ⟨ib, ix, io⟩ := HIN.out
                  rw [show s = y.f5.length by omega, List.take_length, List.drop_length, List.append_nil] at io
                  have w0 : W.cell? ⟨bx, 0, none⟩ = some (.int .i64 (shI add y.f0)) := ix.cell 0
                  have w1' : W.cell? ⟨bx, 1, none⟩ = some (.int .i64 y.f1) := ix.cell 1
                  have w2' : W.cell? ⟨bx, 2, none⟩ = some (.int .i64 y.f2) := ix.cell 2
                  have w3' : W.cell? ⟨bx, 3, none⟩ = some (.int .i64 y.f3) := ix.cell 3
                  have w4' : W.cell? ⟨bx, 4, none⟩ = some (.slice A4 y.f4.length c4) := ix.cell 4
                  have HBW := hide (show Below wo.heap.size wo W by rw [HBXE.out]; exact ib)
                  have HFK := hide (show Kd.FK k30 W (fun b => b < w.heap.size ∨ bx < b) (⟨shI add y.f0, y.f1, y.f2, y.f3, y.f4, y.f5.map (shE add)⟩ : S30) [.int .i64 (shI add y.f0), .int .i64 y.f1, .int .i64 y.f2, .int .i64 y.f3, .slice A4 y.f4.length c4, .slice A6 y.f5.length c6] from by
                    have hl5 : y.f5.length ≤ c6 := by
                      have := (Kd.R_reads' HO5.out).2.1
                      exact this
                    have hRr : Kd.R k32 32 W (bx + 1) (fun b => bx < b) (.slice A6 y.f5.length c6) (y.f5.map (shE add)) := ⟨fun b hb => by have := own_ge io b hb; omega, _, by rw [List.length_map]; exact io, entsC_reps _ _ _ _⟩
                    have h4 := Kd.F_below (Kd.F_below (Kd.C_F heap_k35 HG4.out) HM.out.1) HBW.out
                    have := k30_mkF W (fun b => b < w.heap.size ∨ bx < b) (⟨shI add y.f0, y.f1, y.f2, y.f3, y.f4, y.f5.map (shE add)⟩ : S30) l4 (Kd.F_mono h4 (fun _ h => .inl h)) (A5 := A6) (c5 := c6) (by rw [List.length_map]; exact hl5) (by have := Kd.F_mono (Kd.R_F hRr) (ok' := fun b => b < w.heap.size ∨ bx < b) (fun _ h => .inr h); rw [List.length_map]; exact this)
                    rw [List.length_map] at this
                    exact this)
                  have HNW := hide (Kd.N_below HM.out.2 HBW.out)
                  have hokp : ∀ b, (b < w.heap.size ∨ bx < b) → True ∧ some b ≠ (Value.slice A7 k c7).ownBlock := fun b hb => ⟨trivial, fun e => by
                    have h1 := Kd.N_lt HM.out.2 b e.symm
                    have h2 := Kd.N_base HM.out.2 b e.symm
                    have h3 := HBXE.out
                    omega⟩
                  have HBF := hide (HM.out.1.trans (HBW.out.mono HM.out.1.size))
                  have hkl : (((turnedL l b add).take k).length + 1) * 80 ≤ 140737488355328 := by
                    have h1 := HOK.out.2
                    have h2 := reach47
                    have h3 : ((turnedL l b add).take k).length ≤ k := by rw [List.length_take]; omega
                    omega
                  have HXL := hide (show ((turnedL l b add).take k).length = k by rw [List.length_take, turnedL_len]; omega)
                  clear ib ix io HIN
                  generalize (turnedL l b add).take k = mx at HNW hkl HXL HSTEP
                  go_upto_region 19 with (at_builtin; go_must (refine Kd.N_append k30 (w0 := w) w.heap.size rfl (.tmp 156) (.tmp 158) 22 30 (.agg #[(.int .i64 0), (.int .i64 0), (.int .i64 0), (.int .i64 0), (.slice none 0 0), (.slice none 0 0)]) 80 rfl Try.underlying22 info30 rfl (by decide) (by omega) (.slice A7 k c7) mx (⟨shI add y.f0, y.f1, y.f2, y.f3, y.f4, y.f5.map (shE add)⟩ : S30) [.int .i64 (shI add y.f0), .int .i64 y.f1, .int .i64 y.f2, .int .i64 y.f3, .slice A4 y.f4.length c4, .slice A6 y.f5.length c6] (fun _ => True) (fun b => b < w.heap.size ∨ bx < b) rfl rfl HFK.out hokp (fun _ _ => trivial) HNW.out HBF.out HBF.out.size hkl ?_); intro v1 wn ho hb hg hat; have HRO := hide ho; have HRB := hide hb; obtain ⟨A1n, c1n, rfl⟩ := Kd.N_slice ho; clear ho hb hg hat)
                  have HLN : Hid ((mx ++ [(⟨shI add y.f0, y.f1, y.f2, y.f3, y.f4, y.f5.map (shE add)⟩ : S30)]).length = k + 1) := hide (by rw [List.length_append, HXL.out]; rfl)
                  clear w0 w1' w2' w3' w4' z5
                  go_wp2
                  go_roundw
                  case rel => exact ⟨k + 1, A1n, c1n, by omega, by go_num, by first | rw [HLN.out] | rw [HXL.out], hide ⟨HRB.out, by have := HRO.out; rw [HLN.out] at this; rw [HSTEP.out]; exact this⟩⟩
                  case measure => simp [intOf]; omega
          · have hge : (l.length : Int) ≤ (k : Int) := by omega
            have hkn : k = l.length := by omega
            have hm := HM.out.2
            rw [List.take_of_length_le (by rw [turnedL_len]; omega)] at hm
            have HIB := hide HM.out.1
            have hmok : NodesOk (turnedL l (bn % l.length) add) ∧ renF (turnedL l (bn % l.length) add) = renF l := by
              rcases Nat.eq_zero_or_pos l.length with h0 | h0
              · obtain rfl := List.length_eq_zero_iff.1 h0
                exact ⟨⟨by intro x hx; simp [turnedL] at hx, by simp [turnedL]⟩, rfl⟩
              · have hbl : bn % l.length < l.length := Nat.mod_lt _ h0
                exact ⟨turned_ok HOK.out (fun i hi => ⟨(HSE.out i hi hi).1, (HSE.out i hi hi).2.1⟩) hbl hg1 hg2, turned_same (fun i hi => (HSE.out i hi hi).2.2) hbl hg1⟩
            obtain ⟨hkk, hmc, hmC⟩ := Kd.N_reads' hm
            clear hkk
            rw [turnedL_len] at hmC
            have HR1 := hide (ren13_c (turnedL l (bn % l.length) add) A7 k c7 wo (by rw [turnedL_len]; omega) hmc hmok.1 (by rw [hkn]; exact hmC))
            have HR2 := hide (fun V (hb : Below w.heap.size w V) => ren13_c l A l.length c V rfl hc HOK.out (Kd.C_below HC.out hb))
            have hyo := (renF_ok HOK.out).1
            rw [hmok.2] at HR1
            generalize renF l = y at HR1 HR2 hyo
            have HS := hide (fun (A1 A2 : Option Addr) (c1 c2 : Nat) (V : World) (h1 : Kd.C k30 V A1 y.length y) (l1 : y.length ≤ c1) (h2 : Kd.C k30 V A2 y.length y) (l2 : y.length ≤ c2) => (eqL_refl nodeEq_refl y) ▸ walkSame_c A1 A2 c1 c2 y y V h1 l1 h2 l2 (by have := hyo.len; omega) hyo.mod)
            clear hm hmok hmC HM hyo hkn hmc
            obtain ⟨wf, rfl⟩ : ∃ wf : World, wf = wo := ⟨_, rfl⟩
            go_wp2_with fail
            refine HR1.out.mono ?_
            rintro e w3 ⟨v3, rfl, hr3, hb3⟩
            obtain ⟨A3, c3, rfl, l3, C3⟩ := Kd.R_reads hr3
            have hb3' := HIB.out.trans (hb3.mono HIB.out.size)
            have HC3 := hide C3
            clear hr3 hb3 C3
            go_wp2_with fail
            refine (HR2.out _ hb3').mono ?_
            rintro e w4 ⟨v4, rfl, hr4, hb4⟩
            obtain ⟨A4, c4, rfl, l4, C4⟩ := Kd.R_reads hr4
            have hb4' := hb3'.trans (hb4.mono hb3'.size)
            have C3 := Kd.C_below HC3.out hb4
            clear hr4 hb4 hb3'
            go_wp2_with fail
            refine (HS.out _ _ _ _ _ C3 l3 C4 l4).mono ?_
            rintro e w5 ⟨rfl, hb5⟩
            have hb5' := hb4'.trans (hb5.mono hb4'.size)
            clear hb4' hb5 C3 C4
            go_wp2
            go_ret
            exact ⟨rfl, hb5'⟩
end Go.Proofs.Ytnmlmbbacicojaa
