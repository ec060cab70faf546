/-
  What walk.Paths answers, as a plain function: no program in sight.
-/
import Derived.Test.YtnmlmbbacicojaaF
namespace Go.Proofs.Ytnmlmbbacicojaa
set_option linter.unusedVariables false
set_option linter.unusedSimpArgs false
open Go.RowKit Go.Maps Go.Proofs.YtnmlmbbacicojaaW.PrintWords Go.Proofs.YtnmlmbbacicojaaW.PrintLast Go.Proofs.YtnmlmbbacicojaaW.PrintMore Go.Proofs.Ytnmlmbbacicojaa.PWalkSame

/-- the paths so far, the directories that were gone into -/
abbrev St := List ByteArray × (Int → Bool)
def nextS (ahead name : ByteArray) : ByteArray := ahead ++ (⟨#[47]⟩ : ByteArray) ++ name
def slotsF (rec : Nat → ByteArray → St → Bool × St) (l : List S30) (ahead : ByteArray) : List S32 → St → Bool × St
  | [], st => (true, st)
  | e :: es, st =>
    if e.f0 = 0 ∨ 500 < (nextS ahead e.f1).size then slotsF rec l ahead es st
    else if st.1.length = 10000 then (false, st)
    else match atF l e.f0 with
      | none => slotsF rec l ahead es (st.1 ++ [nextS ahead e.f1], st.2)
      | some n => if (rec n.toNat (nextS ahead e.f1) (st.1 ++ [nextS ahead e.f1], st.2)).1 then slotsF rec l ahead es (rec n.toNat (nextS ahead e.f1) (st.1 ++ [nextS ahead e.f1], st.2)).2 else (false, (rec n.toNat (nextS ahead e.f1) (st.1 ++ [nextS ahead e.f1], st.2)).2)
def into (st : St) (k : Nat) : St := (st.1, fun x => if x = (k : Int) then true else st.2 x)
def dn (l : List S30) : Nat → Nat → ByteArray → St → Bool × St
  | 0, _, _, st => (true, st)
  | f + 1, k, ahead, st => if st.2 (k : Int) = true ∨ (l.getD k z30).f1 ≠ 2 then (true, st) else slotsF (dn l f) l ahead (l.getD k z30).f5 (into st k)
/-- directories that were not gone into -/
def left (l : List S30) (g : Int → Bool) : Nat := ((List.range l.length).filter (fun k : Nat => !g (k : Int))).length
theorem left_le {l : List S30} {g h : Int → Bool} (hgh : ∀ x, g x = true → h x = true) : left l h ≤ left l g := by
  unfold left
  rw [← List.countP_eq_length_filter, ← List.countP_eq_length_filter]
  refine List.countP_mono_left fun k _ hk => ?_
  cases hq : g (k : Int) with
  | false => rfl
  | true => rw [hgh _ hq] at hk; exact hk
theorem left_into {l : List S30} {st : St} {k : Nat} (hk : k < l.length) (h : st.2 (k : Int) = false) : left l (into st k).2 < left l st.2 := by
  unfold left into
  have key : ∀ (xs : List Nat), xs.Nodup → k ∈ xs → (xs.filter (fun j : Nat => !(if (j : Int) = (k : Int) then true else st.2 (j : Int)))).length < (xs.filter (fun j : Nat => !st.2 (j : Int))).length := by
    intro xs
    induction xs with
    | nil => intro _ h; cases h
    | cons x xs ih =>
      intro hn hm
      have hn' := List.nodup_cons.1 hn
      by_cases e : x = k
      · subst e
        have h1 : (!(if ((x : Nat) : Int) = (x : Int) then true else st.2 (x : Int))) = false := by simp
        have h2 : (!st.2 (x : Int)) = true := by rw [h]; rfl
        rw [List.filter_cons_of_neg (by rw [h1]; simp), List.filter_cons_of_pos (by exact h2), List.length_cons]
        have : (xs.filter (fun j : Nat => !(if (j : Int) = (x : Int) then true else st.2 (j : Int)))).length ≤ (xs.filter (fun j : Nat => !st.2 (j : Int))).length := by
          rw [← List.countP_eq_length_filter, ← List.countP_eq_length_filter]
          refine List.countP_mono_left fun j _ hj => ?_
          by_cases e : (j : Int) = (x : Int)
          · simp [e] at hj
          · simpa [e] using hj
        omega
      · have hm' : k ∈ xs := by rcases List.mem_cons.1 hm with h | h
                                · exact absurd h.symm e
                                · exact h
        have := ih hn'.2 hm'
        have e' : ¬ ((x : Int) = (k : Int)) := by omega
        cases hq : st.2 (x : Int) with
        | true =>
          rw [List.filter_cons_of_neg (by simp [e', hq]), List.filter_cons_of_neg (by simp [hq])]; exact this
        | false =>
          rw [List.filter_cons_of_pos (by simp [e', hq]), List.filter_cons_of_pos (by simp [hq]), List.length_cons, List.length_cons]; omega
  exact key _ List.nodup_range (List.mem_range.2 hk)
theorem slotsF_mono {l : List S30} {rec : Nat → ByteArray → St → Bool × St} (hr : ∀ k a st x, st.2 x = true → (rec k a st).2.2 x = true) (ahead : ByteArray) : ∀ (es : List S32) (st : St) (x : Int), st.2 x = true → (slotsF rec l ahead es st).2.2 x = true
  | [], st, x, h => h
  | e :: es, st, x, h => by
    unfold slotsF
    split
    · exact slotsF_mono hr ahead es st x h
    · split
      · exact h
      · split
        · exact slotsF_mono hr ahead es _ x h
        · split
          · exact slotsF_mono hr ahead es _ x (hr _ _ _ _ h)
          · exact hr _ _ _ _ h
theorem dn_mono (l : List S30) : ∀ (f k : Nat) (a : ByteArray) (st : St) (x : Int), st.2 x = true → (dn l f k a st).2.2 x = true
  | 0, _, _, _, _, h => h
  | f + 1, k, a, st, x, h => by
    unfold dn
    split
    · exact h
    · refine slotsF_mono (fun k a st x h => dn_mono l f k a st x h) a _ _ x ?_
      unfold into
      dsimp only
      split
      · rfl
      · exact h
theorem drop_cons {α : Type} {es : List α} {j : Nat} (h : j < es.length) : es.drop j = es[j] :: es.drop (j + 1) := List.drop_eq_getElem_cons h
theorem slotsF_skip {rec : Nat → ByteArray → St → Bool × St} {l : List S30} {a : ByteArray} {es : List S32} {st : St} {j : Nat} (h : j < es.length) (hs : es[j].f0 = 0 ∨ 500 < (nextS a es[j].f1).size) : slotsF rec l a (es.drop j) st = slotsF rec l a (es.drop (j + 1)) st := by
  rw [drop_cons h]; conv => lhs; unfold slotsF
  rw [if_pos hs]
theorem slotsF_full {rec : Nat → ByteArray → St → Bool × St} {l : List S30} {a : ByteArray} {es : List S32} {st : St} {j : Nat} (h : j < es.length) (hs : ¬ (es[j].f0 = 0 ∨ 500 < (nextS a es[j].f1).size)) (hf : st.1.length = 10000) : slotsF rec l a (es.drop j) st = (false, st) := by
  rw [drop_cons h]; conv => lhs; unfold slotsF
  rw [if_neg hs, if_pos hf]
theorem slotsF_none {rec : Nat → ByteArray → St → Bool × St} {l : List S30} {a : ByteArray} {es : List S32} {st : St} {j : Nat} (h : j < es.length) (hs : ¬ (es[j].f0 = 0 ∨ 500 < (nextS a es[j].f1).size)) (hf : st.1.length ≠ 10000) (hn : atF l es[j].f0 = none) :
    slotsF rec l a (es.drop j) st = slotsF rec l a (es.drop (j + 1)) (st.1 ++ [nextS a es[j].f1], st.2) := by
  rw [drop_cons h]; conv => lhs; unfold slotsF
  rw [if_neg hs, if_neg hf, hn]
theorem slotsF_some {rec : Nat → ByteArray → St → Bool × St} {l : List S30} {a : ByteArray} {es : List S32} {st : St} {j : Nat} (h : j < es.length) (hs : ¬ (es[j].f0 = 0 ∨ 500 < (nextS a es[j].f1).size)) (hf : st.1.length ≠ 10000) (i : Nat) (hn : atF l es[j].f0 = some (i : Int)) :
    slotsF rec l a (es.drop j) st = if (rec i (nextS a es[j].f1) (st.1 ++ [nextS a es[j].f1], st.2)).1 then slotsF rec l a (es.drop (j + 1)) (rec i (nextS a es[j].f1) (st.1 ++ [nextS a es[j].f1], st.2)).2 else (false, (rec i (nextS a es[j].f1) (st.1 ++ [nextS a es[j].f1], st.2)).2) := by
  rw [drop_cons h]; conv => lhs; unfold slotsF
  rw [if_neg hs, if_neg hf, hn]; rfl
/-- all paths -/
def pathsF (l : List S30) : List ByteArray := match atF l 1 with
  | none => []
  | some k => (dn l (l.length + 1) k.toNat ⟨#[]⟩ ([], fun _ => false)).2.1
theorem left_all (l : List S30) : left l (fun _ => false) = l.length := by unfold left; rw [List.filter_eq_self.2 (by simp)]; simp
end Go.Proofs.Ytnmlmbbacicojaa
