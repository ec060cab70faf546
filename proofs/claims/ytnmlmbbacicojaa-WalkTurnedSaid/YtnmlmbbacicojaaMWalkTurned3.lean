/-
  Nodes numbered anew, as a plain function: by places, in the order in which they are reached. No program in sight.
  Plain laws of nodes numbered anew: what they are in the end; that another order and other numbers make no difference; that this is done once for all. No program in sight.
  Nodes in another order, with other numbers, in plain Lean: numbered anew they are the same.
  A chain of directories: its paths, and where they lead. No program in sight.
  Contracts of slices.Clone: a row of the call's own with the same cells. Conditions: none but memory's bound.
  The contract of renum.parts: parts in memory of their own. General words on rows that are cloned. Conditions: the parts are as they came in.
  Maps of the call's own with whole numbers for keys and whatever for elements, as functions. General words; conditions on the types alone.
  The contract of renum.Renumber: the nodes that are reached, numbered anew, in memory of their own. Conditions: the nodes are as they came in.
  The walk of renum.Renumber.
-/
import Derived.Test.YtnmlmbbacicojaaMB2
import Derived.WalkSpells
import Derived.Test.YtnmlmbbacicojaaProg
import Derived.KernelRfl
import Derived.Maps.OwnSet
import Derived.Maps.OwnOps
import Derived.Maps.Keyed
import Derived.Laws.OwnMore
namespace Go.Proofs.Ytnmlmbbacicojaa
set_option linter.unusedVariables false
set_option linter.unusedSimpArgs false
open Go.RowKit Go.Maps Go.Proofs.YtnmlmbbacicojaaW.PrintWords Go.Proofs.YtnmlmbbacicojaaW.PrintLast Go.Proofs.YtnmlmbbacicojaaW.PrintMore Go.Proofs.Ytnmlmbbacicojaa.PWalkSame

/-- where a slot leads -/
def targ (l : List S30) (e : S32) : Option Nat := if e.f0 = 0 then none else (atF l e.f0).map Int.toNat
/-- a slot numbered anew, and the order behind it -/
def slotS (l : List S30) (ord : List Nat) (e : S32) : S32 × List Nat := match targ l e with
  | none => (z32, ord)
  | some p => if p ∈ ord then (⟨(ord.idxOf p : Int) + 1, e.f1⟩, ord) else (⟨(ord.length : Int) + 1, e.f1⟩, ord ++ [p])
def slotG (l : List S30) (es : List S32) (ord : List Nat) : List S32 × List Nat := es.foldl (fun s e => (s.1 ++ [(slotS l s.2 e).1], (slotS l s.2 e).2)) ([], ord)
def renGo (l : List S30) : Nat → Nat → List Nat → List S30 → List S30
  | 0, _, _, out => out
  | f + 1, k, ord, out => if k < ord.length then
      renGo l f (k + 1) (slotG l (l.getD (ord.getD k 0) z30).f5 ord).2 (out ++ [⟨(k : Int) + 1, (l.getD (ord.getD k 0) z30).f1, (l.getD (ord.getD k 0) z30).f2, (l.getD (ord.getD k 0) z30).f3, (l.getD (ord.getD k 0) z30).f4, (slotG l (l.getD (ord.getD k 0) z30).f5 ord).1⟩])
    else out
def renF (l : List S30) : List S30 := match atF l 1 with
  | none => []
  | some p => renGo l (l.length + 1) 0 [p.toNat] []
/-- places that are told once, each the first of its inode -/
def OrdOk (l : List S30) (ord : List Nat) : Prop := ord.Nodup ∧ ∀ p ∈ ord, ∃ h : p < l.length, atF l (l[p]).f0 = some (p : Int)
theorem nodup_bound : ∀ {ord : List Nat} {n : Nat}, ord.Nodup → (∀ p ∈ ord, p < n) → ord.length ≤ n := by
  intro ord n h1 h2
  revert ord
  induction n with
  | zero =>
    intro ord _ h2
    cases ord with
    | nil => simp
    | cons a t => exact absurd (h2 a (by simp)) (by omega)
  | succ n ih =>
    intro ord h1 h2
    have hc := List.nodup_iff_count.1 h1 n
    have hl := List.length_eq_countP_add_countP (fun x => x == n) (l := ord)
    have hi := ih (ord := ord.filter (fun x => !(x == n))) (h1.sublist List.filter_sublist) (fun p hp => by
      obtain ⟨h3, h4⟩ := List.mem_filter.1 hp
      have := h2 p h3
      have : p ≠ n := by simpa using h4
      omega)
    rw [← List.countP_eq_length_filter] at hi
    have e1 : List.countP (fun x => x == n) ord = List.count n ord := rfl
    have e2 : List.countP (fun x => decide ¬(x == n) = true) ord = List.countP (fun x => !(x == n)) ord := List.countP_congr (fun x _ => by simp)
    omega
theorem OrdOk.len {l : List S30} {ord : List Nat} (h : OrdOk l ord) : ord.length ≤ l.length := nodup_bound h.1 fun p hp => (h.2 p hp).1
theorem OrdOk.push {l : List S30} {ord : List Nat} (h : OrdOk l ord) {p : Nat} (hp : p < l.length) (ha : atF l (l[p]).f0 = some (p : Int)) (hn : p ∉ ord) : OrdOk l (ord ++ [p]) := by
  refine ⟨?_, fun q hq => ?_⟩
  · rw [List.nodup_append]
    exact ⟨h.1, by simp, fun a ha1 b hb => by rw [List.mem_singleton] at hb; subst hb; exact fun e => hn (e ▸ ha1)⟩
  · rcases List.mem_append.1 hq with hq | hq
    · exact h.2 q hq
    · rw [List.mem_singleton] at hq; subst hq; exact ⟨hp, ha⟩
theorem targ_some {l : List S30} {e : S32} {p : Nat} (h : targ l e = some p) : ∃ hp : p < l.length, (l[p]).f0 = e.f0 ∧ atF l e.f0 = some (p : Int) ∧ e.f0 ≠ 0 := by
  unfold targ at h
  split at h
  · cases h
  · rename_i h0
    rw [Option.map_eq_some_iff] at h
    obtain ⟨c, hc, rfl⟩ := h
    obtain ⟨i, rfl, hi, hf⟩ := atF_lt hc
    exact ⟨hi, hf, hc, h0⟩
theorem slotG_nil (l : List S30) (ord : List Nat) : slotG l [] ord = ([], ord) := rfl
theorem slotG_step {l : List S30} {es : List S32} {ord : List Nat} {s : Nat} (h : s < es.length) : slotG l (es.take (s + 1)) ord = ((slotG l (es.take s) ord).1 ++ [(slotS l (slotG l (es.take s) ord).2 es[s]).1], (slotS l (slotG l (es.take s) ord).2 es[s]).2) := by
  unfold slotG
  rw [List.take_succ_eq_append_getElem h, List.foldl_append]
  rfl
theorem slotG_snoc (l : List S30) (es : List S32) (e : S32) (ord : List Nat) : slotG l (es ++ [e]) ord = ((slotG l es ord).1 ++ [(slotS l (slotG l es ord).2 e).1], (slotS l (slotG l es ord).2 e).2) := by
  unfold slotG; rw [List.foldl_append]; rfl
theorem slotS_ok {l : List S30} {ord : List Nat} (h : OrdOk l ord) (e : S32) : OrdOk l (slotS l ord e).2 := by
  unfold slotS
  cases ht : targ l e with
  | none => exact h
  | some p =>
    by_cases hm : p ∈ ord
    · simp only [if_pos hm]; exact h
    · simp only [if_neg hm]
      obtain ⟨hp, hf, ha, _⟩ := targ_some ht
      exact h.push hp (by rw [hf]; exact ha) hm
theorem slotG_ok {l : List S30} (es : List S32) {ord : List Nat} (h : OrdOk l ord) : OrdOk l (slotG l es ord).2 := by
  unfold slotG
  suffices ∀ (es : List S32) (s : List S32 × List Nat), OrdOk l s.2 → OrdOk l (es.foldl (fun s e => (s.1 ++ [(slotS l s.2 e).1], (slotS l s.2 e).2)) s).2 from this es ([], ord) h
  intro es
  induction es with
  | nil => intro s hs; exact hs
  | cons e es ih => intro s hs; exact ih _ (slotS_ok hs e)
theorem slotG_len (l : List S30) (es : List S32) (ord : List Nat) : (slotG l es ord).1.length = es.length := by
  unfold slotG
  suffices ∀ (es : List S32) (s : List S32 × List Nat), (es.foldl (fun s e => (s.1 ++ [(slotS l s.2 e).1], (slotS l s.2 e).2)) s).1.length = s.1.length + es.length by
    have := this es ([], ord); simpa using this
  intro es
  induction es with
  | nil => intro s; rfl
  | cons e es ih => intro s; rw [List.foldl_cons, ih]; simp; omega
theorem slotS_mono (l : List S30) (ord : List Nat) (e : S32) : ∃ more, (slotS l ord e).2 = ord ++ more := by
  unfold slotS
  cases targ l e with
  | none => exact ⟨[], by simp⟩
  | some p =>
    by_cases hm : p ∈ ord
    · simp only [if_pos hm]; exact ⟨[], by simp⟩
    · simp only [if_neg hm]; exact ⟨[p], rfl⟩
theorem slotG_mono (l : List S30) (es : List S32) (ord : List Nat) : ∃ more, (slotG l es ord).2 = ord ++ more := by
  suffices ∀ (es : List S32) (s : List S32 × List Nat), ∃ more, (es.foldl (fun s e => (s.1 ++ [(slotS l s.2 e).1], (slotS l s.2 e).2)) s).2 = s.2 ++ more from this es ([], ord)
  intro es
  induction es with
  | nil => intro s; exact ⟨[], by simp⟩
  | cons e es ih =>
    intro s
    obtain ⟨m1, h1⟩ := slotS_mono l s.2 e
    obtain ⟨m2, h2⟩ := ih (s.1 ++ [(slotS l s.2 e).1], (slotS l s.2 e).2)
    exact ⟨m1 ++ m2, by rw [List.foldl_cons, h2]; show (slotS l s.2 e).2 ++ m2 = _; rw [h1, List.append_assoc]⟩
/-- the number of an inode, once its node is told -/
def numF (l : List S30) (ord : List Nat) (x : Int) : Option Int := match atF l x with
  | none => none
  | some p => if p.toNat ∈ ord then some ((ord.idxOf p.toNat : Int) + 1) else none
theorem numF_push {l : List S30} {ord : List Nat} (h : OrdOk l ord) {p : Nat} (hp : p < l.length) (ha : atF l (l[p]).f0 = some (p : Int)) (hn : p ∉ ord) :
    numF l (ord ++ [p]) = fun x => if x = (l[p]).f0 then some ((ord.length : Int) + 1) else numF l ord x := by
  funext x
  by_cases e : x = (l[p]).f0
  · subst e
    rw [if_pos rfl]
    unfold numF
    rw [ha]
    simp only [Int.toNat_natCast]
    rw [if_pos (by simp), List.idxOf_append, if_neg hn]
    simp
  · rw [if_neg e]
    unfold numF
    cases hq : atF l x with
    | none => rfl
    | some c =>
      obtain ⟨i, rfl, hi, hf⟩ := atF_lt hq
      simp only [Int.toNat_natCast]
      have hne : i ≠ p := by intro h; subst h; exact e hf.symm
      by_cases hm : i ∈ ord
      · rw [if_pos (by simp [hm]), if_pos hm, List.idxOf_append, if_pos hm]
      · rw [if_neg (by simp [hm, hne]), if_neg hm]
theorem numF_zero {l : List S30} {ord : List Nat} {e : S32} {p : Nat} (ht : targ l e = some p) : numF l ord e.f0 = if p ∈ ord then some ((ord.idxOf p : Int) + 1) else none := by
  obtain ⟨hp, hf, ha, _⟩ := targ_some ht
  unfold numF; rw [ha]; simp only [Int.toNat_natCast]
theorem renGo_step (l : List S30) (f k : Nat) (ord : List Nat) (out : List S30) (h : k < ord.length) (h2 : ord[k] < l.length) : renGo l (f + 1) k ord out = renGo l f (k + 1) (slotG l (l[ord[k]]).f5 ord).2 (out ++ [⟨(k : Int) + 1, (l[ord[k]]).f1, (l[ord[k]]).f2, (l[ord[k]]).f3, (l[ord[k]]).f4, (slotG l (l[ord[k]]).f5 ord).1⟩]) := by
  have e1 : ord.getD k 0 = ord[k] := by simp [h]
  have e2 : l.getD (ord.getD k 0) z30 = l[ord[k]] := by rw [e1]; simp [h2]
  conv => lhs; unfold renGo
  rw [if_pos h, e2]
theorem renGo_end (l : List S30) (f k : Nat) (ord : List Nat) (out : List S30) (h : ord.length ≤ k) : renGo l f k ord out = out := by
  cases f with
  | zero => rfl
  | succ f => unfold renGo; rw [if_neg (by omega)]
end Go.Proofs.Ytnmlmbbacicojaa
namespace Go.Proofs.Ytnmlmbbacicojaa
set_option linter.unusedVariables false
set_option linter.unusedSimpArgs false
open Go.RowKit Go.Maps Go.Proofs.YtnmlmbbacicojaaW.PrintWords Go.Proofs.YtnmlmbbacicojaaW.PrintLast Go.Proofs.YtnmlmbbacicojaaW.PrintMore Go.Proofs.Ytnmlmbbacicojaa.PWalkSame

def slotFin (l : List S30) (O : List Nat) (e : S32) : S32 := match targ l e with
  | none => z32
  | some p => ⟨(O.idxOf p : Int) + 1, e.f1⟩
def nodeFin (l : List S30) (O : List Nat) (k : Nat) : S30 := ⟨(k : Int) + 1, (l.getD (O.getD k 0) z30).f1, (l.getD (O.getD k 0) z30).f2, (l.getD (O.getD k 0) z30).f3, (l.getD (O.getD k 0) z30).f4, (l.getD (O.getD k 0) z30).f5.map (slotFin l O)⟩
/-- all that slots lead to is told -/
def Told (l : List S30) (O : List Nat) (es : List S32) : Prop := ∀ e ∈ es, ∀ p, targ l e = some p → p ∈ O
theorem slotFin_more {l : List S30} {O : List Nat} (more : List Nat) {es : List S32} (h : Told l O es) : es.map (slotFin l (O ++ more)) = es.map (slotFin l O) := by
  refine List.map_congr_left fun e he => ?_
  unfold slotFin
  cases ht : targ l e with
  | none => rfl
  | some p =>
    simp only []
    rw [List.idxOf_append, if_pos (h e he p ht)]
theorem Told.more {l : List S30} {O : List Nat} (more : List Nat) {es : List S32} (h : Told l O es) : Told l (O ++ more) es := fun e he p hp => List.mem_append.2 (.inl (h e he p hp))
theorem slotS_fin (l : List S30) (ord : List Nat) (e : S32) : (slotS l ord e).1 = slotFin l (slotS l ord e).2 e ∧ Told l (slotS l ord e).2 [e] := by
  unfold slotS slotFin Told
  cases ht : targ l e with
  | none => exact ⟨rfl, fun e' he p hp => by rw [List.mem_singleton] at he; subst he; rw [ht] at hp; cases hp⟩
  | some p =>
    simp only []
    by_cases hm : p ∈ ord
    · rw [if_pos hm]
      exact ⟨rfl, fun e' he q hq => by rw [List.mem_singleton] at he; subst he; rw [ht] at hq; cases hq; exact hm⟩
    · rw [if_neg hm]
      refine ⟨?_, fun e' he q hq => by rw [List.mem_singleton] at he; subst he; rw [ht] at hq; cases hq; simp⟩
      dsimp only
      rw [List.idxOf_append, if_neg hm]
      simp
theorem slotG_fin (l : List S30) (es : List S32) (ord : List Nat) : (slotG l es ord).1 = es.map (slotFin l (slotG l es ord).2) ∧ Told l (slotG l es ord).2 es := by
  suffices ∀ n, n ≤ es.length → (slotG l (es.take n) ord).1 = (es.take n).map (slotFin l (slotG l (es.take n) ord).2) ∧ Told l (slotG l (es.take n) ord).2 (es.take n) by
    have := this es.length (Nat.le_refl _)
    rwa [List.take_length] at this
  intro n
  induction n with
  | zero => intro _; exact ⟨rfl, fun e he => by simp at he⟩
  | succ n ih =>
    intro hn
    obtain ⟨h1, h2⟩ := ih (by omega)
    rw [slotG_step (by omega), List.take_succ_eq_append_getElem (by omega)]
    dsimp only
    obtain ⟨more, hm⟩ := slotS_mono l (slotG l (es.take n) ord).2 es[n]
    obtain ⟨f1, f2⟩ := slotS_fin l (slotG l (es.take n) ord).2 es[n]
    refine ⟨?_, fun e he => ?_⟩
    · rw [List.map_append, f1, hm, slotFin_more more h2, ← h1]; rfl
    · rcases List.mem_append.1 he with he | he
      · rw [hm]; exact h2.more more e he
      · exact f2 e he
theorem nodeFin_more {l : List S30} {O : List Nat} (more : List Nat) {k : Nat} (hk : k < O.length) (h : Told l O (l.getD (O.getD k 0) z30).f5) : nodeFin l (O ++ more) k = nodeFin l O k := by
  have e : (O ++ more).getD k 0 = O.getD k 0 := by simp [List.getElem?_append_left hk]
  unfold nodeFin
  rw [e, slotFin_more more h]
/-- nodes numbered anew, in the end -/
theorem renGo_fin (l : List S30) : ∀ (f k : Nat) (ord : List Nat) (out : List S30), OrdOk l ord → k ≤ ord.length → l.length - k < f → out = (List.range k).map (nodeFin l ord) → (∀ j, j < k → Told l ord (l.getD (ord.getD j 0) z30).f5) →
    ∃ O, (∃ more, O = ord ++ more) ∧ OrdOk l O ∧ renGo l f k ord out = (List.range O.length).map (nodeFin l O) ∧ ∀ j, j < O.length → Told l O (l.getD (O.getD j 0) z30).f5 := by
  intro f
  induction f with
  | zero => intro k ord out _ _ h; omega
  | succ f ih =>
    intro k ord out hord hk hf hout htold
    have hlen := hord.len
    by_cases hlt : k < ord.length
    · obtain ⟨hp, ha⟩ := hord.2 _ (List.getElem_mem hlt)
      have e1 : ord.getD k 0 = ord[k] := by simp [hlt]
      have e2 : l.getD (ord.getD k 0) z30 = l[ord[k]] := by rw [e1]; simp [hp]
      rw [renGo_step l f k ord out hlt hp]
      obtain ⟨more, hm⟩ := slotG_mono l (l[ord[k]]).f5 ord
      obtain ⟨g1, g2⟩ := slotG_fin l (l[ord[k]]).f5 ord
      have hok2 := slotG_ok (l[ord[k]]).f5 hord
      have hgk : (slotG l (l[ord[k]]).f5 ord).2.getD k 0 = ord.getD k 0 := by rw [hm]; simp [List.getElem?_append_left hlt]
      obtain ⟨O, ⟨m2, hO⟩, h1, h2, h3⟩ := ih (k + 1) (slotG l (l[ord[k]]).f5 ord).2 (out ++ [⟨(k : Int) + 1, (l[ord[k]]).f1, (l[ord[k]]).f2, (l[ord[k]]).f3, (l[ord[k]]).f4, (slotG l (l[ord[k]]).f5 ord).1⟩]) hok2 (by rw [hm, List.length_append]; omega) (by omega) (by
        rw [List.range_succ, List.map_append, hout]
        congr 1
        · refine List.map_congr_left fun j hj => ?_
          have hj := List.mem_range.1 hj
          rw [hm]
          exact (nodeFin_more more (by omega) (htold j hj)).symm
        · rw [List.map_singleton]
          unfold nodeFin
          rw [hgk, e2, ← g1]) (fun j hj => by
        by_cases e : j = k
        · subst e; rw [hgk, e2]; exact g2
        · have hj' : j < k := by omega
          have : (slotG l (l[ord[k]]).f5 ord).2.getD j 0 = ord.getD j 0 := by rw [hm]; simp [List.getElem?_append_left (show j < ord.length by omega)]
          rw [this, hm]
          exact (htold j hj').more more)
      exact ⟨O, ⟨more ++ m2, by rw [hO, hm, List.append_assoc]⟩, h1, h2, h3⟩
    · have hke : k = ord.length := by omega
      subst hke
      exact ⟨ord, ⟨[], by simp⟩, hord, by rw [renGo_end l _ _ _ _ (Nat.le_refl _), hout], htold⟩
theorem renF_fin (l : List S30) : ∃ O, OrdOk l O ∧ renF l = (List.range O.length).map (nodeFin l O) ∧ (∀ j, j < O.length → Told l O (l.getD (O.getD j 0) z30).f5) ∧ (∀ p, atF l 1 = some p → O.head? = some p.toNat) ∧ (atF l 1 = none → O = []) := by
  cases hq : atF l 1 with
  | none => exact ⟨[], ⟨by simp, by simp⟩, by unfold renF; rw [hq]; rfl, (fun j h => absurd h (by simp)), (fun p h => by cases h), (fun _ => rfl)⟩
  | some c =>
    obtain ⟨p, rfl, hp, hf⟩ := atF_lt hq
    obtain ⟨O, ⟨more, hO⟩, h1, h2, h3⟩ := renGo_fin l (l.length + 1) 0 [p] [] ⟨by simp, fun q hq' => by rw [List.mem_singleton] at hq'; subst hq'; exact ⟨hp, by rw [hf]; exact hq⟩⟩ (by simp) (by omega) rfl (fun j h => absurd h (by omega))
    refine ⟨O, h1, ?_, h3, fun q hq' => ?_, fun h => by cases h⟩
    · unfold renF; rw [hq]; exact h2
    · injection hq' with hq'; subst hq'; rw [hO]; rfl
/-! ### another order, other numbers -/
/-- A's places are B's by s -/
structure Alike (A B : List S30) (s : Nat → Nat) : Prop where
  inj : ∀ p q, p < A.length → q < A.length → s p = s q → p = q
  lt : ∀ p, p < A.length → s p < B.length
  root : (atF B 1).map Int.toNat = (atF A 1).map (fun p => s p.toNat)
  node : ∀ p (h : p < A.length) (h' : s p < B.length), (A[p]).f1 = (B[s p]).f1 ∧ (A[p]).f2 = (B[s p]).f2 ∧ (A[p]).f3 = (B[s p]).f3 ∧ (A[p]).f4 = (B[s p]).f4 ∧ (A[p]).f5.length = (B[s p]).f5.length ∧
    ∀ j (hj : j < (A[p]).f5.length) (hj' : j < (B[s p]).f5.length), targ B (B[s p]).f5[j] = (targ A (A[p]).f5[j]).map s ∧ ((targ A (A[p]).f5[j]).isSome → (A[p]).f5[j].f1 = (B[s p]).f5[j].f1)
theorem idxOf_map_inj {s : Nat → Nat} {p : Nat} : ∀ {ord : List Nat}, (∀ q ∈ ord, s p = s q → p = q) → (ord.map s).idxOf (s p) = ord.idxOf p
  | [], _ => rfl
  | q :: ord, h => by
    rw [List.map_cons, List.idxOf_cons, List.idxOf_cons]
    by_cases e : q = p
    · subst e; simp
    · have : ¬ s q = s p := fun e' => e (h q (by simp) e'.symm).symm
      rw [show (s q == s p) = false by simpa using this, show (q == p) = false by simpa using e]
      simp only [cond_false]
      rw [idxOf_map_inj (fun r hr => h r (by simp [hr]))]
theorem slotG_alike {A B : List S30} {s : Nat → Nat} (h : Alike A B s) {p : Nat} (hp : p < A.length) (hp' : s p < B.length) {ord : List Nat} (hord : OrdOk A ord) :
    slotG B (B[s p]).f5 (ord.map s) = ((slotG A (A[p]).f5 ord).1, (slotG A (A[p]).f5 ord).2.map s) := by
  obtain ⟨_, _, _, _, hl, hj⟩ := h.node p hp hp'
  suffices ∀ n, n ≤ (A[p]).f5.length → slotG B ((B[s p]).f5.take n) (ord.map s) = ((slotG A ((A[p]).f5.take n) ord).1, (slotG A ((A[p]).f5.take n) ord).2.map s) by
    have h1 := this _ (Nat.le_refl _)
    rwa [List.take_length, List.take_of_length_le (by omega)] at h1
  intro n
  induction n with
  | zero => intro _; rfl
  | succ n ih =>
    intro hn
    have IH := ih (by omega)
    rw [slotG_step (show n < (A[p]).f5.length by omega), slotG_step (show n < (B[s p]).f5.length by omega), IH]
    obtain ⟨ht, hnm⟩ := hj n (by omega) (by omega)
    have hok := slotG_ok ((A[p]).f5.take n) hord
    generalize (slotG A ((A[p]).f5.take n) ord).1 = done
    generalize (slotG A ((A[p]).f5.take n) ord).2 = ords at hok
    generalize (A[p]).f5[n] = x at ht hnm
    generalize (B[s p]).f5[n] = y at ht hnm
    dsimp only
    have key : slotS B (ords.map s) y = ((slotS A ords x).1, (slotS A ords x).2.map s) := by
      unfold slotS
      rw [ht]
      cases htx : targ A x with
      | none => rfl
      | some q =>
        rw [htx] at hnm
        have hnm := hnm rfl
        obtain ⟨hq, _, _, _⟩ := targ_some htx
        have hi : ∀ r ∈ ords, s q = s r → q = r := fun r hr => h.inj q r hq (hok.2 r hr).1
        have hmem : s q ∈ ords.map s ↔ q ∈ ords := by
          constructor
          · intro hm
            obtain ⟨r, hr, e⟩ := List.mem_map.1 hm
            rw [hi r hr e.symm]; exact hr
          · exact fun hm => List.mem_map.2 ⟨q, hm, rfl⟩
        simp only [Option.map_some]
        by_cases hm : q ∈ ords
        · rw [if_pos hm, if_pos (hmem.2 hm), idxOf_map_inj hi, hnm]
        · rw [if_neg hm, if_neg (fun e => hm (hmem.1 e)), List.length_map, hnm]
          simp
    rw [key]
theorem renGo_alike {A B : List S30} {s : Nat → Nat} (h : Alike A B s) : ∀ (f g k : Nat) (ord : List Nat) (out : List S30), OrdOk A ord → OrdOk B (ord.map s) → k ≤ ord.length → A.length - k < f → B.length - k < g → renGo A f k ord out = renGo B g k (ord.map s) out := by
  intro f
  induction f with
  | zero => intro g k ord out _ _ _ h; omega
  | succ f ih =>
    intro g k ord out hA hB hk hf hg
    have hlA := hA.len
    have hlB := hB.len
    rw [List.length_map] at hlB
    obtain ⟨g, rfl⟩ : ∃ g', g = g' + 1 := ⟨g - 1, by omega⟩
    by_cases hlt : k < ord.length
    · obtain ⟨hp, _⟩ := hA.2 _ (List.getElem_mem hlt)
      have hp' := h.lt _ hp
      have hltB : k < (ord.map s).length := by simpa using hlt
      have eB : (ord.map s)[k] = s ord[k] := by simp
      rw [renGo_step A f k ord out hlt hp, renGo_step B g k (ord.map s) out hltB (by rw [eB]; exact hp')]
      obtain ⟨n1, n2, n3, n4, _, _⟩ := h.node _ hp hp'
      have hs := slotG_alike h hp hp' hA
      have eB2 : B[(ord.map s)[k]]'(by rw [eB]; exact hp') = B[s ord[k]] := by simp
      rw [eB2, hs]
      dsimp only
      have hok2 := slotG_ok (B[s ord[k]]).f5 hB
      rw [hs] at hok2
      obtain ⟨more, hmore⟩ := slotG_mono A (A[ord[k]]).f5 ord
      rw [← n1, ← n2, ← n3, ← n4]
      exact ih g (k + 1) _ _ (slotG_ok _ hA) hok2 (by rw [hmore, List.length_append]; omega) (by omega) (by omega)
    · rw [renGo_end A _ k ord out (by omega), renGo_end B _ k _ out (by rw [List.length_map]; omega)]
theorem renF_alike {A B : List S30} {s : Nat → Nat} (h : Alike A B s) : renF A = renF B := by
  have hr := h.root
  cases hq : atF A 1 with
  | none =>
    rw [hq] at hr
    have hB : atF B 1 = none := by cases hb : atF B 1 with
      | none => rfl
      | some c => rw [hb] at hr; cases hr
    unfold renF; rw [hq, hB]
  | some c =>
    obtain ⟨p, rfl, hp, hf⟩ := atF_lt hq
    rw [hq] at hr
    cases hb : atF B 1 with
    | none => rw [hb] at hr; cases hr
    | some c =>
      obtain ⟨q, rfl, hq', hf'⟩ := atF_lt hb
      rw [hb] at hr
      have e : q = s p := by simpa using hr
      subst e
      unfold renF
      rw [hq, hb]
      simp only [Int.toNat_natCast]
      have := renGo_alike h (A.length + 1) (B.length + 1) 0 [p] [] ⟨by simp, fun r hr => by rw [List.mem_singleton] at hr; subst hr; exact ⟨hp, by rw [hf]; exact hq⟩⟩ ⟨by simp, fun r hr => by
        have : r = s p := by simpa using hr
        subst this; exact ⟨hq', by rw [hf']; exact hb⟩⟩ (by simp) (by omega) (by omega)
      exact this
theorem fin_f0 {l : List S30} {O : List Nat} {i : Nat} (h : i < O.length) : atF ((List.range O.length).map (nodeFin l O)) ((i : Int) + 1) = some (i : Int) := by
  refine atF_hit (by simpa using h) (by simp [nodeFin]) fun j hj hji => ?_
  simp only [List.getElem_map, List.getElem_range, nodeFin]
  omega
theorem nodup_inj {O : List Nat} (h : O.Nodup) {p q : Nat} (hp : p < O.length) (hq : q < O.length) (e : O[p] = O[q]) : p = q := by
  have hw := List.pairwise_iff_getElem.1 h
  rcases Nat.lt_trichotomy p q with h1 | h1 | h1
  · exact absurd e (hw p q hp hq h1)
  · exact h1
  · exact absurd e.symm (hw q p hq hp h1)
theorem targ_none0 (A : List S30) : targ A z32 = none := by unfold targ z32; rfl
theorem targ_num {A : List S30} {i : Nat} {n : ByteArray} (h : atF A ((i : Int) + 1) = some (i : Int)) : targ A ⟨(i : Int) + 1, n⟩ = some i := by
  unfold targ
  dsimp only
  rw [if_neg (by omega), h]
  rfl
theorem slotFin_none {l : List S30} {O : List Nat} {e : S32} (h : targ l e = none) : slotFin l O e = z32 := by unfold slotFin; rw [h]
theorem slotFin_some {l : List S30} {O : List Nat} {e : S32} {q : Nat} (h : targ l e = some q) : slotFin l O e = ⟨(O.idxOf q : Int) + 1, e.f1⟩ := by unfold slotFin; rw [h]
/-- nodes that are numbered anew are numbered anew once for all -/
theorem renF_twice (l : List S30) : renF (renF l) = renF l := by
  obtain ⟨O, hO, hf, ht, hr, hn⟩ := renF_fin l
  have key : ∀ A, A = (List.range O.length).map (nodeFin l O) → Alike A l (fun k => O.getD k 0) := by
    intro A hA
    have hlen : A.length = O.length := by rw [hA]; simp
    have hg : ∀ k (h : k < O.length), O.getD k 0 = O[k] := fun k h => by simp [h]
    have hat : ∀ i, i < O.length → atF A ((i : Int) + 1) = some (i : Int) := fun i hi => by rw [hA]; exact fin_f0 hi
    have hgt : ∀ p (h : p < A.length), A[p] = nodeFin l O p := fun p h => by
      have : A[p]? = some (nodeFin l O p) := by rw [hlen] at h; rw [hA, List.getElem?_map, List.getElem?_range h]; rfl
      exact (List.getElem?_eq_some_iff.1 this).2
    refine ⟨fun p q hp hq e => ?_, fun p hp => ?_, ?_, fun p hp hp' => ?_⟩
    · rw [hlen] at hp hq
      rw [hg p hp, hg q hq] at e
      exact nodup_inj hO.1 hp hq e
    · rw [hlen] at hp
      rw [hg p hp]
      exact (hO.2 _ (List.getElem_mem hp)).1
    · cases hq : atF l 1 with
      | none =>
        have hO0 := hn hq
        have : A = [] := by rw [hA, hO0]; rfl
        rw [this]
        rfl
      | some c =>
        have h0 := hr c hq
        have hpos : 0 < O.length := by
          cases O with
          | nil => cases h0
          | cons a O' => simp
        have h1 := hat 0 hpos
        rw [show ((0 : Nat) : Int) + 1 = 1 from rfl] at h1
        rw [h1]
        show some c.toNat = some (O.getD 0 0)
        rw [hg 0 hpos]
        have : O[0]? = some c.toNat := by rw [← List.head?_eq_getElem?]; exact h0
        rw [(List.getElem?_eq_some_iff.1 this).2]
    · have hp2 : p < O.length := by rw [← hlen]; exact hp
      have e1 : l.getD (O.getD p 0) z30 = l[O.getD p 0] := by rw [List.getD_eq_getElem?_getD, List.getElem?_eq_getElem hp']; rfl
      have hto := ht p hp2
      rw [e1] at hto
      have e2 : nodeFin l O p = ⟨(p : Int) + 1, (l[O.getD p 0]).f1, (l[O.getD p 0]).f2, (l[O.getD p 0]).f3, (l[O.getD p 0]).f4, (l[O.getD p 0]).f5.map (slotFin l O)⟩ := by unfold nodeFin; rw [e1]
      have e3 := (hgt p hp).trans e2
      generalize l[O.getD p 0] = y at hto e3
      clear hA hgt
      have e5 : (A[p]).f5 = y.f5.map (slotFin l O) := by rw [e3]
      refine ⟨by rw [e3], by rw [e3], by rw [e3], by rw [e3], by rw [e5]; simp, fun j hj hj' => ?_⟩
      have hx : (A[p]).f5[j] = slotFin l O y.f5[j] := by
        have : (A[p]).f5[j]? = some (slotFin l O y.f5[j]) := by rw [e5]; simp [hj']
        exact (List.getElem?_eq_some_iff.1 this).2
      rw [hx]
      have hm := List.getElem_mem hj'
      cases htg : targ l y.f5[j] with
      | none => rw [slotFin_none htg, targ_none0]; exact ⟨rfl, fun h => by cases h⟩
      | some q =>
        have hq := hto _ hm q htg
        have hi := List.idxOf_lt_length_of_mem hq
        rw [slotFin_some htg, targ_num (hat _ hi)]
        refine ⟨?_, fun _ => rfl⟩
        show some q = some (O.getD (O.idxOf q) 0)
        rw [hg _ hi, List.getElem_idxOf]
  rw [renF_alike (key _ hf)]
theorem renF_ok {l : List S30} (hok : NodesOk l) : NodesOk (renF l) ∧ (renF l).length ≤ l.length := by
  obtain ⟨O, hO, hf, ht, hr, hn⟩ := renF_fin l
  have hlO := hO.len
  have hb : reachBytes ≤ 140737488355328 := reach47
  have h2 := hok.2
  have hll : l.length ≤ 1759218604441 := by omega
  rw [hf]
  refine ⟨⟨fun x hx => ?_, by rw [List.length_map, List.length_range]; exact Nat.le_trans (Nat.mul_le_mul_right _ hlO) h2⟩, by simpa using hlO⟩
  obtain ⟨k, hk, rfl⟩ := List.mem_map.1 hx
  have hk := List.mem_range.1 hk
  have hp : O[k] < l.length := (hO.2 _ (List.getElem_mem hk)).1
  have e1 : l.getD (O.getD k 0) z30 = l[O[k]] := by simp [hk, hp]
  have hy := hok.1 _ (List.getElem_mem hp)
  unfold nodeFin
  rw [e1]
  refine ⟨WalkArith.wf_i64 (by dsimp only; omega), hy.2.1, hy.2.2.1, hy.2.2.2.1, hy.2.2.2.2.1, ⟨fun e he => ?_, by rw [List.length_map]; exact hy.2.2.2.2.2.2⟩⟩
  obtain ⟨e0, he0, rfl⟩ := List.mem_map.1 he
  unfold slotFin
  cases htg : targ l e0 with
  | none => exact ⟨WalkArith.wf_i64 (by unfold z32; dsimp only; omega), by unfold z32; show 0 ≤ _; omega⟩
  | some q =>
    have hi := List.idxOf_le_length (a := q) (l := O)
    exact ⟨WalkArith.wf_i64 (by dsimp only; omega), (hy.2.2.2.2.2.1 _ he0).2⟩
end Go.Proofs.Ytnmlmbbacicojaa
namespace Go.Proofs.Ytnmlmbbacicojaa
set_option linter.unusedVariables false
set_option linter.unusedSimpArgs false
open Go.RowKit Go.Maps Go.Proofs.YtnmlmbbacicojaaW.PrintWords Go.Proofs.YtnmlmbbacicojaaW.PrintLast Go.Proofs.YtnmlmbbacicojaaW.PrintMore Go.Proofs.Ytnmlmbbacicojaa.PWalkSame

def shI (add x : Int) : Int := if 1 < x then x + add else x
def shE (add : Int) (e : S32) : S32 := ⟨shI add e.f0, e.f1⟩
def shN (add : Int) (n : S30) : S30 := ⟨shI add n.f0, n.f1, n.f2, n.f3, n.f4, n.f5.map (shE add)⟩
def rotI (n b p : Nat) : Nat := (p + b) % n
def turnedL (l : List S30) (b : Nat) (add : Int) : List S30 := (List.range l.length).map fun i => shN add (l.getD (rotI l.length b i) z30)
theorem turnedL_len (l : List S30) (b : Nat) (add : Int) : (turnedL l b add).length = l.length := by simp [turnedL]
theorem rotI_eq {n b p : Nat} (hp : p < n) (hb : b < n) : rotI n b p = if p + b < n then p + b else p + b - n := by
  unfold rotI
  split
  · rw [Nat.mod_eq_of_lt (by assumption)]
  · rw [Nat.mod_eq_sub_mod (by omega), Nat.mod_eq_of_lt (by omega)]
theorem shI_inj {add x y : Int} (ha : 1 ≤ add) : shI add x = shI add y ↔ x = y := by
  unfold shI; constructor <;> intro h <;> split at * <;> split at * <;> omega
theorem turnedL_at {l : List S30} {b : Nat} {add : Int} {p : Nat} (hp : p < (turnedL l b add).length) (h : rotI l.length b p < l.length) : (turnedL l b add)[p] = shN add l[rotI l.length b p] := by
  simp [turnedL, h]
/-- each number lies once -/
def Once (l : List S30) : Prop := ∀ i (h : i < l.length), atF l (l[i]).f0 = some (i : Int)
theorem Once.at {l : List S30} (h : Once l) {i : Nat} (hi : i < l.length) {x : Int} (e : (l[i]).f0 = x) : atF l x = some (i : Int) := by rw [← e]; exact h i hi
theorem turn_at {l : List S30} {b : Nat} {add : Int} (ho : Once l) (hb : b < l.length) (ha : 1 ≤ add) (x : Int) :
    (atF l x).map Int.toNat = ((atF (turnedL l b add) (shI add x)).map Int.toNat).map (rotI l.length b) := by
  have hl := turnedL_len l b add
  cases hm : atF (turnedL l b add) (shI add x) with
  | some c =>
    obtain ⟨i, rfl, hi, e⟩ := atF_lt hm
    have hr : rotI l.length b i < l.length := Nat.mod_lt _ (by omega)
    rw [turnedL_at hi hr] at e
    have e2 := (shI_inj ha).1 e
    rw [ho.at hr e2]
    simp
  | none =>
    cases hq : atF l x with
    | none => rfl
    | some c =>
      exfalso
      obtain ⟨i, rfl, hi, e⟩ := atF_lt hq
      have hp : (if b ≤ i then i - b else i + l.length - b) < l.length := by split <;> omega
      have hr : rotI l.length b (if b ≤ i then i - b else i + l.length - b) = i := by
        rw [rotI_eq hp hb]
        split <;> split <;> omega
      generalize (if b ≤ i then i - b else i + l.length - b) = p at hp hr
      unfold atF at hm
      rw [Option.map_eq_none_iff, List.findIdx?_eq_none_iff] at hm
      have := hm _ (List.getElem_mem (by omega : p < (turnedL l b add).length))
      rw [turnedL_at (by omega) (by omega)] at this
      simp only [hr] at this
      simp [shN, e] at this
theorem turned_alike {l : List S30} {b : Nat} {add : Int} (ho : Once l) (hb : b < l.length) (ha : 1 ≤ add) : Alike (turnedL l b add) l (rotI l.length b) where
  inj := by
    intro p q hp hq h
    rw [turnedL_len] at hp hq
    rw [rotI_eq hp hb, rotI_eq hq hb] at h
    split at h <;> split at h <;> omega
  lt := by
    intro p hp
    rw [turnedL_len] at hp
    exact Nat.mod_lt _ (by omega)
  root := by
    have := turn_at ho hb ha 1
    rw [show shI add 1 = 1 from rfl, Option.map_map] at this
    exact this
  node := by
    intro p h h'
    rw [turnedL_at h h']
    refine ⟨rfl, rfl, rfl, rfl, by simp [shN], fun j hj hj' => ?_⟩
    have e : (shN add l[rotI l.length b p]).f5[j] = shE add (l[rotI l.length b p]).f5[j] := by simp [shN]
    rw [e]
    refine ⟨?_, fun _ => rfl⟩
    generalize (l[rotI l.length b p]).f5[j] = s
    unfold targ
    have := turn_at ho hb ha s.f0
    by_cases h0 : s.f0 = 0
    · rw [if_pos h0, if_pos (by simp [shE, h0, shI])]; rfl
    · rw [if_neg h0, if_neg (by rw [show (shE add s).f0 = shI add s.f0 from rfl, ← show shI add 0 = 0 from rfl, shI_inj ha]; exact h0)]
      exact this
theorem turned_same {l : List S30} {b : Nat} {add : Int} (ho : Once l) (hb : b < l.length) (ha : 1 ≤ add) : renF (turnedL l b add) = renF l := renF_alike (turned_alike ho hb ha)
/-- the numbers are none but small ones -/
def Ins (l : List S30) : Prop := ∀ i (h : i < l.length), (1 ≤ (l[i]).f0 ∧ (l[i]).f0 ≤ 1000000) ∧ ∀ e ∈ (l[i]).f5, e.f0 = 0 ∨ (1 ≤ e.f0 ∧ e.f0 ≤ 1000000)
theorem shI_small {add x : Int} (ha : 1 ≤ add) (hb : add ≤ 1000000) (h0 : 0 ≤ x) (h1 : x ≤ 1000000) : 0 ≤ shI add x ∧ shI add x ≤ 2000000 := by
  unfold shI; split <;> omega
theorem turned_ok {l : List S30} {b : Nat} {add : Int} (hok : NodesOk l) (hi : Ins l) (hb : b < l.length) (ha : 1 ≤ add) (hb2 : add ≤ 1000000) : NodesOk (turnedL l b add) := by
  refine ⟨fun x hx => ?_, by rw [turnedL_len]; exact hok.2⟩
  obtain ⟨p, hp, rfl⟩ := List.getElem_of_mem hx
  have hr : rotI l.length b p < l.length := Nat.mod_lt _ (by omega)
  rw [turnedL_at hp hr]
  obtain ⟨hi1, hi2⟩ := hi _ hr
  have hy := hok.1 _ (List.getElem_mem hr)
  generalize l[rotI l.length b p] = n at hi1 hi2 hy
  have h1 := shI_small ha hb2 (x := n.f0) (by omega) (by omega)
  refine ⟨WalkArith.wf_i64 (by show -9223372036854775808 ≤ shI add n.f0 ∧ shI add n.f0 ≤ 9223372036854775807; omega), hy.2.1, hy.2.2.1, hy.2.2.2.1, hy.2.2.2.2.1, ⟨fun e he => ?_, by rw [show (shN add n).f5 = n.f5.map (shE add) from rfl, List.length_map]; exact hy.2.2.2.2.2.2⟩⟩
  obtain ⟨e0, he0, rfl⟩ := List.mem_map.1 he
  have h2 := shI_small ha hb2 (x := e0.f0) (by rcases hi2 _ he0 with h | h <;> omega) (by rcases hi2 _ he0 with h | h <;> omega)
  exact ⟨WalkArith.wf_i64 (by show -9223372036854775808 ≤ shI add e0.f0 ∧ shI add e0.f0 ≤ 9223372036854775807; omega), (hy.2.2.2.2.2.1 _ he0).2⟩
theorem turnedL_step {l : List S30} {b : Nat} {add : Int} {k : Nat} (hk : k < l.length) : (turnedL l b add).take (k + 1) = (turnedL l b add).take k ++ [shN add (l.getD (rotI l.length b k) z30)] := by
  rw [List.take_succ_eq_append_getElem (by rw [turnedL_len]; exact hk)]
  simp [turnedL]
end Go.Proofs.Ytnmlmbbacicojaa
namespace Go.Proofs.Ytnmlmbbacicojaa
set_option linter.unusedVariables false
set_option linter.unusedSimpArgs false
open Go.RowKit Go.Maps Go.Proofs.YtnmlmbbacicojaaW.PrintWords Go.Proofs.YtnmlmbbacicojaaW.PrintLast Go.Proofs.YtnmlmbbacicojaaW.PrintMore Go.Proofs.Ytnmlmbbacicojaa.PWalkSame

instance (x : S35) : Decidable (PartOk x) := by unfold PartOk; infer_instance
instance (x : S32) : Decidable (EntOk x) := by unfold EntOk; infer_instance
instance (x : S30) : Decidable (NodeOk x) := by unfold NodeOk; infer_instance
instance (xs : List S30) : Decidable (NodesOk xs) := by unfold NodesOk; infer_instance
theorem kdR_strings {w : World} {base n : Nat} {v : Value} {xs : List ByteArray} (h : w.ownsRow base 9 1 v n (xs.map Value.string)) : Kd.R Kd.string 9 w base (fun _ => True) v xs := by
  have hn : n = xs.length := by have := h.1; simpa using this.symm
  subst hn
  refine ⟨fun _ _ => trivial, xs.map Value.string, h, by simp [Kd.string, Kd.scalar], fun j p hp => ?_⟩
  obtain ⟨hj, rfl⟩ := List.getElem?_eq_some_iff.1 hp
  show ((xs.map Value.string).drop (j * 1)).take 1 = [Value.string xs[j]]
  rw [Nat.mul_one, ← List.map_drop, ← List.map_take, List.drop_eq_getElem_cons hj]
  rfl
def nm (m : Nat) : Bytes8 := List.replicate m 100
def sd (m : Nat) : ByteArray := bs (nm m)
def dnode (m i : Nat) : S30 := ⟨(i : Int) + 1, 2, 0, 0, [], [⟨(i : Int) + 2, sd m⟩]⟩
def dlast (n : Nat) : S30 := ⟨(n : Int) + 1, 1, 0, 0, [], []⟩
def chain (m n : Nat) : List S30 := (List.range n).map (dnode m) ++ [dlast n]
def pathB (m j : Nat) : Bytes8 := (List.replicate j (47 :: nm m)).flatten
def pth (m j : Nat) : ByteArray := bs (pathB m j)
theorem nm_len (m : Nat) : (nm m).length = m := by simp [nm]
theorem pathB_len (m j : Nat) : (pathB m j).length = j * (m + 1) := by unfold pathB; simp [nm_len]
theorem pathB_succ (m j : Nat) : pathB m (j + 1) = pathB m j ++ 47 :: nm m := by unfold pathB; rw [List.replicate_succ', List.flatten_append]; simp
theorem next_pth (m j : Nat) : nextS (pth m j) (sd m) = pth m (j + 1) := by
  have h : (nextS (pth m j) (sd m)).data.toList = pathB m (j + 1) := by
    rw [pathB_succ]; unfold nextS pth sd; simp [ByteArray.data_append]
  rw [← bs_of (nextS (pth m j) (sd m)), h]; rfl
theorem pth_size (m j : Nat) : (pth m j).size = j * (m + 1) := by unfold pth; rw [bs_size, pathB_len]
theorem chain_len (m n : Nat) : (chain m n).length = n + 1 := by simp [chain]
theorem chain_get {m n i : Nat} (h : i < n) (h' : i < (chain m n).length) : (chain m n)[i] = dnode m i := by
  have : (chain m n)[i]? = some (dnode m i) := by unfold chain; rw [List.getElem?_append_left (by simpa using h)]; simp [h]
  exact (List.getElem?_eq_some_iff.1 this).2
theorem chain_last {m n : Nat} (h' : n < (chain m n).length) : (chain m n)[n] = dlast n := by
  have : (chain m n)[n]? = some (dlast n) := by unfold chain; rw [List.getElem?_append_right (by simp)]; simp
  exact (List.getElem?_eq_some_iff.1 this).2
theorem chain_f0 {m n i : Nat} (h' : i < (chain m n).length) : ((chain m n)[i]).f0 = (i : Int) + 1 := by
  have := chain_len m n
  by_cases e : i < n
  · rw [chain_get e]; rfl
  · obtain rfl : i = n := by omega
    rw [chain_last]; rfl
theorem chain_at {m n i : Nat} (h : i ≤ n) : atF (chain m n) ((i : Int) + 1) = some (i : Int) := by
  have hl := chain_len m n
  exact atF_hit (by omega) (chain_f0 _) fun j hj hji => by rw [chain_f0]; omega
theorem slots_dn {m n f i : Nat} (hi : i < n) (st : St) (hs : st.2 (i : Int) = false) : dn (chain m n) (f + 1) i (pth m i) st = slotsF (dn (chain m n) f) (chain m n) (pth m i) [⟨(i : Int) + 2, sd m⟩] (into st i) := by
  have hl := chain_len m n
  conv => lhs; unfold dn
  have hg : (chain m n).getD i z30 = dnode m i := by simp [show i < (chain m n).length by omega]; exact chain_get hi _
  rw [hg, if_neg (by simp [hs, dnode])]
  rfl
theorem dn_chain (m n : Nat) (hn : n ≤ 60) : ∀ (f i : Nat) (st : St), i ≤ n → n - i < f → st.1.length = i → (∀ j : Nat, i ≤ j → st.2 (j : Int) = false) →
    ∃ g, dn (chain m n) f i (pth m i) st = (true, st.1 ++ (List.range (min n (500 / (m + 1)) - i)).map (fun t => pth m (i + 1 + t)), g) := by
  intro f
  have hl := chain_len m n
  induction f with
  | zero => intro i st _ h; omega
  | succ f ih =>
    intro i st hi hf hlen hst
    by_cases e : i = n
    · subst e
      refine ⟨st.2, ?_⟩
      have hg : (chain m i).getD i z30 = dlast i := by simp [show i < (chain m i).length by omega]; exact chain_last _
      unfold dn
      rw [hg, if_pos (.inr (by simp [dlast])), show min i (500 / (m + 1)) - i = 0 by omega]
      simp
    · have hlt : i < n := by omega
      rw [slots_dn hlt st (hst i (Nat.le_refl _))]
      have hsz : (nextS (pth m i) (sd m)).size = (i + 1) * (m + 1) := by rw [next_pth, pth_size]
      unfold slotsF
      have hmul := Nat.le_div_iff_mul_le (x := i + 1) (y := 500) (k := m + 1) (by omega)
      by_cases hbig : 500 < (i + 1) * (m + 1)
      · refine ⟨(into st i).2, ?_⟩
        rw [if_pos (.inr (by rw [hsz]; exact hbig))]
        unfold slotsF
        rw [show min n (500 / (m + 1)) - i = 0 by omega]
        simp [into]
      · rw [if_neg (fun h => h.elim (fun h => by dsimp only at h; omega) (fun h => by rw [hsz] at h; exact hbig h)), if_neg (show ¬ (into st i).1.length = 10000 by show ¬ st.1.length = 10000; omega)]
        have ha : atF (chain m n) ((i : Int) + 2) = some ((i + 1 : Nat) : Int) := by
          have := chain_at (m := m) (n := n) (i := i + 1) (by omega)
          rw [show ((i : Int) + 2) = ((i + 1 : Nat) : Int) + 1 by omega]; exact this
        rw [next_pth]
        simp only [ha, Int.toNat_natCast]
        obtain ⟨g, hg⟩ := ih (i + 1) ((into st i).1 ++ [pth m (i + 1)], (into st i).2) (by omega) (by omega) (by simp [into]; omega) (fun j hj => by
          show (if (j : Int) = (i : Int) then true else st.2 (j : Int)) = false
          rw [if_neg (by omega)]; exact hst j (by omega))
        rw [hg]
        refine ⟨g, ?_⟩
        rw [if_pos rfl]
        unfold slotsF
        have hr : min n (500 / (m + 1)) - i = (min n (500 / (m + 1)) - (i + 1)) + 1 := by omega
        rw [hr, List.range_succ_eq_map]
        simp [into, List.map_map, Function.comp_def]
        intro a _
        rw [show i + 1 + 1 + a = i + 1 + (a + 1) by omega]
theorem paths_chain (m n : Nat) (hn : n ≤ 60) : pathsF (chain m n) = (List.range (min n (500 / (m + 1)))).map (fun t => pth m (t + 1)) := by
  unfold pathsF
  have h1 := chain_at (m := m) (n := n) (i := 0) (Nat.zero_le _)
  rw [show ((0 : Nat) : Int) + 1 = 1 from rfl] at h1
  rw [h1]
  obtain ⟨g, hg⟩ := dn_chain m n hn ((chain m n).length + 1) 0 ([], fun _ => false) (Nat.zero_le _) (by rw [chain_len]; omega) rfl (fun _ _ => rfl)
  have : pth m 0 = ⟨#[]⟩ := rfl
  rw [this] at hg
  simp only [Int.toNat_natCast]
  rw [hg]
  simp
  intro a _
  rw [Nat.add_comm]
theorem slot_d (m i : Nat) : slotAt (sd m) [⟨(i : Int) + 2, sd m⟩] = 0 := by
  have : slotAt (sd m) [⟨(i : Int) + 2, sd m⟩] = ((0 : Nat) : Int) := slotAt_hit (by simp) (by
    unfold slotIs; simp; omega) (fun j _ h => absurd h (by omega))
  exact this
theorem findGo_chain (m n : Nat) : ∀ (d i : Nat), i + d ≤ n → findGo (chain m n) i (List.replicate d (sd m)) = (((i + d : Nat) : Int), 0)
  | 0, i, h => rfl
  | d + 1, i, h => by
    have hl := chain_len m n
    rw [List.replicate_succ, findGo_cons _ _ (by omega), chain_get (by omega)]
    show (if (2 : Int) ≠ 2 then ((0 : Int), (12 : Int)) else if slotAt (sd m) [⟨(i : Int) + 2, sd m⟩] < 0 then (0, 10) else match atF (chain m n) (([⟨(i : Int) + 2, sd m⟩] : List S32).getD (slotAt (sd m) [⟨(i : Int) + 2, sd m⟩]).toNat z32).f0 with | none => (0, 10) | some n' => findGo (chain m n) n'.toNat (List.replicate d (sd m))) = _
    rw [slot_d, if_neg (by simp), if_neg (by omega)]
    have ha : atF (chain m n) ((i : Int) + 2) = some ((i + 1 : Nat) : Int) := by
      have := chain_at (m := m) (n := n) (i := i + 1) (by omega)
      rw [show ((i : Int) + 2) = ((i + 1 : Nat) : Int) + 1 by omega]; exact this
    show (match atF (chain m n) ((i : Int) + 2) with | none => _ | some n' => _) = _
    rw [ha]
    show findGo (chain m n) (i + 1) (List.replicate d (sd m)) = _
    rw [findGo_chain m n d (i + 1) (by omega), show i + 1 + d = i + (d + 1) by omega]
theorem nm_okP {m : Nat} (h1 : 1 ≤ m) (h2 : m ≤ 27) : okP (nm m) = true := by
  have h100 : ∀ x ∈ nm m, x = 100 := fun x hx => List.eq_of_mem_replicate hx
  have hne : nm m ≠ [] := by intro e; have := nm_len m; rw [e] at this; simp at this; omega
  have hn : ∀ x : UInt8, x ≠ 100 → (nm m).contains x = false := fun x hx => by
    rw [List.contains_eq_mem, decide_eq_false_iff_not]; exact fun h => hx (h100 x h)
  unfold okP nameL
  rw [hn 0 (by decide), hn 47 (by decide)]
  have e1 : (nm m == [46]) = false := by
    rw [beq_eq_false_iff_ne]; intro e; have := h100 46 (by rw [e]; simp); revert this; decide
  have e2 : (nm m == [46, 46]) = false := by
    rw [beq_eq_false_iff_ne]; intro e; have := h100 46 (by rw [e]; simp); revert this; decide
  rw [e1, e2]
  have e3 : (nm m).isEmpty = false := by cases h : nm m with
    | nil => exact absurd h hne
    | cons a b => rfl
  rw [e3, nm_len]
  simp [h2]
theorem joinL_rep (m : Nat) : ∀ j, 47 :: joinL (List.replicate (j + 1) (nm m)) = pathB m (j + 1)
  | 0 => by simp [joinL, pathB]
  | j + 1 => by
    rw [List.replicate_succ, joinL_cons _ (by simp), joinL_rep m j]
    unfold pathB
    rw [List.replicate_succ (n := j + 1)]
    simp
theorem split_pth {m j : Nat} (h1 : 1 ≤ m) (h2 : m ≤ 27) (hj : (j + 1) * (m + 1) ≤ 500) : splitL (pth m (j + 1)).data.toList = some (List.replicate (j + 1) (nm m)) := by
  have hok := nm_okP h1 h2
  have hp : partsL (joinL (List.replicate (j + 1) (nm m))) = List.replicate (j + 1) (nm m) := partsL_joinL (by simp) (fun p hp => by rw [List.eq_of_mem_replicate hp]; exact okP_noslash hok)
  have hlen := pathB_len m (j + 1)
  show splitL (pathB m (j + 1)) = _
  rw [← joinL_rep] at hlen ⊢
  rw [splitL_cons, hp, if_neg (by
    rw [List.length_cons] at hlen
    intro h
    rcases h with h | h
    · exact h rfl
    · omega), if_neg (by
    intro e
    rw [e] at hp
    have : (List.replicate (j + 1) (nm m)).length = 1 := by rw [← hp]; rfl
    have h0 : nm m = [] := by
      have hh : List.replicate (j + 1) (nm m) = [[]] := by rw [← hp]; rfl
      rw [List.replicate_succ] at hh
      injection hh
    have := nm_len m
    rw [h0] at this
    simp at this
    omega), if_pos (by
    rw [List.all_eq_true]
    exact fun p hp => by rw [List.eq_of_mem_replicate hp]; exact hok)]
theorem find_chain {m n j : Nat} (h1 : 1 ≤ m) (h2 : m ≤ 27) (hj : (j + 1) * (m + 1) ≤ 500) (hn : j + 1 ≤ n) : findF (chain m n) (pth m (j + 1)) = (((j + 1 : Nat) : Int), 0) := by
  unfold findF
  rw [split_pth h1 h2 hj]
  have h1 := chain_at (m := m) (n := n) (i := 0) (Nat.zero_le _)
  rw [show ((0 : Nat) : Int) + 1 = 1 from rfl] at h1
  simp only [h1, Int.toNat_natCast]
  rw [List.map_replicate]
  have := findGo_chain m n (j + 1) 0 (by omega)
  rw [Nat.zero_add] at this
  exact this
theorem chain_ok {m n : Nat} (hm : m ≤ 27) (hn : n ≤ 60) : NodesOk (chain m n) := by
  have hr : reachBytes = 140737488351232 := rfl
  refine ⟨fun x hx => ?_, by rw [chain_len, hr]; omega⟩
  unfold chain at hx
  rcases List.mem_append.1 hx with h | h
  · obtain ⟨i, hi, rfl⟩ := List.mem_map.1 h
    have hi := List.mem_range.1 hi
    refine ⟨WalkArith.wf_i64 (by simp [dnode]; omega), WalkArith.wf_i64 (by simp [dnode]), WalkArith.wf_i64 (by simp [dnode]), WalkArith.wf_i64 (by simp [dnode]), ⟨by simp [dnode], by simp [dnode]⟩, ⟨fun p hp => ?_, by simp [dnode]; rw [hr]; omega⟩⟩
    simp only [dnode, List.mem_singleton] at hp
    subst hp
    exact ⟨WalkArith.wf_i64 (by dsimp only; omega), by show (sd m).size ≤ _; unfold sd; rw [bs_size, nm_len, hr]; omega⟩
  · rw [List.mem_singleton] at h
    subst h
    exact ⟨WalkArith.wf_i64 (by simp [dlast]; omega), WalkArith.wf_i64 (by simp [dlast]), WalkArith.wf_i64 (by simp [dlast]), WalkArith.wf_i64 (by simp [dlast]), ⟨by simp [dlast], by simp [dlast]⟩, ⟨by simp [dlast], by simp [dlast]⟩⟩
end Go.Proofs.Ytnmlmbbacicojaa
namespace Go.Proofs.Ytnmlmbbacicojaa
set_option linter.unusedVariables false
set_option linter.unusedSimpArgs false
open Go.RowKit
theorem cells_none {B : Nat} {w : World} {cs : List Value} (h : Cells B w none cs) : cs = [] := by
  by_cases e : cs = []
  · exact e
  · obtain ⟨b, off, h, _⟩ := h e; cases h

theorem infoCl32 : (Try.prog.info? 32).map (fun i => (i.zero, i.size, i.bytes)) = some (some (.agg #[.int .i64 0, .string ⟨#[]⟩]), 2, 24) := by kernel_rfl
set_option maxHeartbeats 1000000 in
theorem clone37_c (A : Option Addr) (n c : Nat) (cs : List Value) (w : World) (hl : cs.length = n * 2) (hA : Cells w.heap.size w A cs) (h1 : ∀ u ∈ cs, u.oneCell' = true) (hn : n * 24 ≤ 140737488355328) :
    Calls Try.prog 37 #[.slice A n c] w fun e w' => ∃ v, e = .returned v ∧ w'.ownsRow w.heap.size 32 2 v n cs ∧ Below w.heap.size w w' := by
  have hq := Lib.run_eql_slice_nil (P := Try.prog) w 28 32 A n c 0 0 Try.underlying28
  cases A with
  | none =>
    obtain rfl := cells_none hA
    have hn0 : n = 0 := by simp at hl; omega
    subst hn0
    clear hA h1 hl
    simp only [Option.isNone_none] at hq
    go_enter Try.func37, Try.ntmps37
    go_wp2
    go_ret
    exact ⟨_, rfl, World.ownsRow_nil _ _ _ _, Below.refl _ _⟩
  | some ad =>
    have H := hide (And.intro hA (And.intro h1 hl))
    clear hA h1 hl
    simp only [Option.isNone_some] at hq
    obtain ⟨i0, hi, hz0, hz1, hz2⟩ := info_parts infoCl32
    have ho0 : (w.alloc (.cells #[] 32)).ownsRow w.heap.size 32 2 (.slice (some ⟨w.heap.size, 0, none⟩) 0 0) 0 [] := World.ownsRow_lit (base := w.heap.size) (e := 32) (size := 2) w #[] 0 (Nat.le_refl _) (by unfold maxLen; omega) (by simp)
    have hs0 : (w.alloc (.cells #[] 32)).heap.size = w.heap.size + 1 := by simp
    go_enter Try.func37, Try.ntmps37
    go_wp2_with (at_builtin; go_must (refine wpList_append_src _ rfl _ _ 28 rfl w.heap.size 32 i0 (.agg #[.int .i64 0, .string ⟨#[]⟩]) 2 24 Try.underlying28 hi hz0 hz1 hz2 rfl (by decide) _ 0 [] rfl ho0 w.heap.size (some ad) n c cs rfl H.out.2.2 (fun hne => by obtain ⟨b, off, e1, e2, e3⟩ := H.out.1 hne; exact ⟨b, off, e1, by omega, fun i u hu => ((Below.heap_cell_alloc w _ ⟨b, off + i, none⟩ e2).trans (e3 i u hu))⟩) H.out.2.1 (by unfold maxLen; omega) (by omega) (by omega) ?_); intro v' w1 hown hg hat; rw [Nat.zero_add, List.nil_append] at hown; have H2 := hide (And.intro hown hg); obtain ⟨A', c', rfl⟩ := own_slice hown; clear hown hg hat)
    go_ret
    exact ⟨_, rfl, H2.out.1, ((Below.refl _ w).alloc (Nat.le_refl _) _).grown H2.out.2 (by rw [hs0]; exact Nat.le_succ _) (fun k hk => Nat.le_of_eq (Option.some.inj hk))⟩

theorem infoCl35 : (Try.prog.info? 35).map (fun i => (i.zero, i.size, i.bytes)) = some (some (.agg #[.int .i64 0, .slice none 0 0]), 2, 32) := by kernel_rfl
set_option maxHeartbeats 1000000 in
theorem clone45_c (A : Option Addr) (n c : Nat) (cs : List Value) (w : World) (hl : cs.length = n * 2) (hA : Cells w.heap.size w A cs) (h1 : ∀ u ∈ cs, u.oneCell' = true) (hn : n * 32 ≤ 140737488355328) :
    Calls Try.prog 45 #[.slice A n c] w fun e w' => ∃ v, e = .returned v ∧ w'.ownsRow w.heap.size 35 2 v n cs ∧ Below w.heap.size w w' := by
  have hq := Lib.run_eql_slice_nil (P := Try.prog) w 27 35 A n c 0 0 Try.underlying27
  cases A with
  | none =>
    obtain rfl := cells_none hA
    have hn0 : n = 0 := by simp at hl; omega
    subst hn0
    clear hA h1 hl
    simp only [Option.isNone_none] at hq
    go_enter Try.func45, Try.ntmps45
    go_wp2
    go_ret
    exact ⟨_, rfl, World.ownsRow_nil _ _ _ _, Below.refl _ _⟩
  | some ad =>
    have H := hide (And.intro hA (And.intro h1 hl))
    clear hA h1 hl
    simp only [Option.isNone_some] at hq
    obtain ⟨i0, hi, hz0, hz1, hz2⟩ := info_parts infoCl35
    have ho0 : (w.alloc (.cells #[] 35)).ownsRow w.heap.size 35 2 (.slice (some ⟨w.heap.size, 0, none⟩) 0 0) 0 [] := World.ownsRow_lit (base := w.heap.size) (e := 35) (size := 2) w #[] 0 (Nat.le_refl _) (by unfold maxLen; omega) (by simp)
    have hs0 : (w.alloc (.cells #[] 35)).heap.size = w.heap.size + 1 := by simp
    go_enter Try.func45, Try.ntmps45
    go_wp2_with (at_builtin; go_must (refine wpList_append_src _ rfl _ _ 27 rfl w.heap.size 35 i0 (.agg #[.int .i64 0, .slice none 0 0]) 2 32 Try.underlying27 hi hz0 hz1 hz2 rfl (by decide) _ 0 [] rfl ho0 w.heap.size (some ad) n c cs rfl H.out.2.2 (fun hne => by obtain ⟨b, off, e1, e2, e3⟩ := H.out.1 hne; exact ⟨b, off, e1, by omega, fun i u hu => ((Below.heap_cell_alloc w _ ⟨b, off + i, none⟩ e2).trans (e3 i u hu))⟩) H.out.2.1 (by unfold maxLen; omega) (by omega) (by omega) ?_); intro v' w1 hown hg hat; rw [Nat.zero_add, List.nil_append] at hown; have H2 := hide (And.intro hown hg); obtain ⟨A', c', rfl⟩ := own_slice hown; clear hown hg hat)
    go_ret
    exact ⟨_, rfl, H2.out.1, ((Below.refl _ w).alloc (Nat.le_refl _) _).grown H2.out.2 (by rw [hs0]; exact Nat.le_succ _) (fun k hk => Nat.le_of_eq (Option.some.inj hk))⟩

theorem infoCl5 : (Try.prog.info? 5).map (fun i => (i.zero, i.size, i.bytes)) = some (some (.int .u8 0), 1, 1) := by kernel_rfl
set_option maxHeartbeats 1000000 in
theorem clone46_c (A : Option Addr) (n c : Nat) (cs : List Value) (w : World) (hl : cs.length = n * 1) (hA : Cells w.heap.size w A cs) (h1 : ∀ u ∈ cs, u.oneCell' = true) (hn : n * 1 ≤ 140737488355328) :
    Calls Try.prog 46 #[.slice A n c] w fun e w' => ∃ v, e = .returned v ∧ w'.ownsRow w.heap.size 5 1 v n cs ∧ Below w.heap.size w w' := by
  have hq := Lib.run_eql_slice_nil (P := Try.prog) w 33 5 A n c 0 0 Try.underlying33
  cases A with
  | none =>
    obtain rfl := cells_none hA
    have hn0 : n = 0 := by simp at hl; omega
    subst hn0
    clear hA h1 hl
    simp only [Option.isNone_none] at hq
    go_enter Try.func46, Try.ntmps46
    go_wp2
    go_ret
    exact ⟨_, rfl, World.ownsRow_nil _ _ _ _, Below.refl _ _⟩
  | some ad =>
    have H := hide (And.intro hA (And.intro h1 hl))
    clear hA h1 hl
    simp only [Option.isNone_some] at hq
    obtain ⟨i0, hi, hz0, hz1, hz2⟩ := info_parts infoCl5
    have ho0 : (w.alloc (.cells #[] 5)).ownsRow w.heap.size 5 1 (.slice (some ⟨w.heap.size, 0, none⟩) 0 0) 0 [] := World.ownsRow_lit (base := w.heap.size) (e := 5) (size := 1) w #[] 0 (Nat.le_refl _) (by unfold maxLen; omega) (by simp)
    have hs0 : (w.alloc (.cells #[] 5)).heap.size = w.heap.size + 1 := by simp
    go_enter Try.func46, Try.ntmps46
    go_wp2_with (at_builtin; go_must (refine wpList_append_src _ rfl _ _ 33 rfl w.heap.size 5 i0 (.int .u8 0) 1 1 Try.underlying33 hi hz0 hz1 hz2 rfl (by decide) _ 0 [] rfl ho0 w.heap.size (some ad) n c cs rfl H.out.2.2 (fun hne => by obtain ⟨b, off, e1, e2, e3⟩ := H.out.1 hne; exact ⟨b, off, e1, by omega, fun i u hu => ((Below.heap_cell_alloc w _ ⟨b, off + i, none⟩ e2).trans (e3 i u hu))⟩) H.out.2.1 (by unfold maxLen; omega) (by omega) (by omega) ?_); intro v' w1 hown hg hat; rw [Nat.zero_add, List.nil_append] at hown; have H2 := hide (And.intro hown hg); obtain ⟨A', c', rfl⟩ := own_slice hown; clear hown hg hat)
    go_ret
    exact ⟨_, rfl, H2.out.1, ((Below.refl _ w).alloc (Nat.le_refl _) _).grown H2.out.2 (by rw [hs0]; exact Nat.le_succ _) (fun k hk => Nat.le_of_eq (Option.some.inj hk))⟩

end Go.Proofs.Ytnmlmbbacicojaa
namespace Go.Proofs.Ytnmlmbbacicojaa
set_option linter.unusedVariables false
set_option linter.unusedSimpArgs false
open Go.RowKit Go.Proofs.YtnmlmbbacicojaaW.PrintWords Go.Proofs.YtnmlmbbacicojaaW.PrintLast Go.Proofs.YtnmlmbbacicojaaW.PrintMore Go.Proofs.Ytnmlmbbacicojaa.PWalkSame

theorem addr_zero {w : World} {ad : Addr} {u : Value} (h : w.cell? (ad.add 0) = some u) : ad.spot = none := by simpa [Addr.add] using World.cell?_spot h
theorem addr_off {w : World} {ad : Addr} {t : Nat} {u : Value} (hs : ad.spot = none) (h : w.cell? (ad.add t) = some u) : w.cell? ⟨ad.block, ad.off + t, none⟩ = some u := by
  obtain ⟨b, off, spot⟩ := ad
  dsimp only at hs
  subst hs
  by_cases e : t = 0
  · subst e; simpa [Addr.add] using h
  · simpa [Addr.add, e] using h
/-- a row that reads: its cells, one behind the other -/
theorem cells_of_C {α : Type} {d : Kd α} {w : World} {A : Option Addr} {n : Nat} {l : List α} (h : Kd.C d w A n l) (hsz : 0 < d.sz) :
    ∃ cs, cs.length = n * d.sz ∧ Reps (d.K w) d.sz l cs ∧ Cells w.heap.size w A cs ∧ ∀ u ∈ cs, u.oneCell' = true := by
  have hn : l.length = n := h.1
  rcases Nat.eq_zero_or_pos n with h0 | h0
  · subst h0
    obtain rfl : l = [] := List.length_eq_zero_iff.1 hn
    exact ⟨[], by simp, Reps.none _ _, fun h => absurd rfl h, by simp⟩
  · obtain ⟨ad, rfl, _⟩ := h.2.2 h0
    obtain ⟨inner, hr, hc⟩ := ReadsRow.inner_ h
    have hlen : inner.length = n * d.sz := by rw [hr.1, hn]
    have h1 : ∀ u ∈ inner, u.oneCell' = true := by
      intro u hu
      obtain ⟨t, ht, rfl⟩ := List.getElem_of_mem hu
      have hj : t / d.sz < l.length := by rw [hn]; exact Nat.div_lt_of_lt_mul (by rw [Nat.mul_comm]; omega)
      have hK := hr.2 (t / d.sz) _ (List.getElem?_eq_getElem hj)
      refine d.K_one hK _ ?_
      have hdm := Nat.div_add_mod t d.sz
      have hml := Nat.mod_lt t hsz
      rw [List.mem_iff_getElem?]
      refine ⟨t % d.sz, ?_⟩
      rw [List.getElem?_take_of_lt hml, List.getElem?_drop, show t / d.sz * d.sz + t % d.sz = t by rw [Nat.mul_comm]; omega, List.getElem?_eq_getElem ht]
    have hpos : 0 < inner.length := by rw [hlen]; exact Nat.mul_pos h0 hsz
    have h00 := hc 0 _ (List.getElem?_eq_getElem hpos)
    have hsp := addr_zero h00
    have hblk := World.block_lt_of_cell? w _ (addr_off hsp h00)
    refine ⟨inner, hlen, hr, fun _ => ⟨ad.block, ad.off, ?_, hblk, fun i u hu => addr_off hsp (hc i u hu)⟩, h1⟩
    obtain ⟨b, off, spot⟩ := ad
    dsimp only at hsp
    rw [hsp]
theorem reps_imp {α : Type} {R R' : α → List Value → Prop} {sz : Nat} {xs : List α} {cs : List Value} (h : Reps R sz xs cs) (hi : ∀ x ∈ xs, ∀ c, R x c → R' x c) : Reps R' sz xs cs :=
  ⟨h.1, fun j p hp => hi p (List.mem_of_getElem? hp) _ (h.2 j p hp)⟩
/-- whole numbers of one kind: a row of the call's own -/
theorem kdR_u8 {w : World} {base base' n : Nat} {v : Value} {xs : List Int} (h : w.ownsRow base' 5 1 v n (xs.map (Value.int .u8))) (hb : base ≤ base') (ok : Nat → Prop) (hok : ∀ k, v.ownBlock = some k → ok k) : Kd.R (Kd.int .u8) 5 w base ok v xs := by
  have hn : n = xs.length := by have := h.1; simpa using this.symm
  subst hn
  refine Kd.R_lower (base := base') ⟨hok, xs.map (Value.int .u8), h, by simp [Kd.int, Kd.scalar], fun j p hp => ?_⟩ hb
  obtain ⟨hj, rfl⟩ := List.getElem?_eq_some_iff.1 hp
  show ((xs.map (Value.int .u8)).drop (j * 1)).take 1 = [Value.int .u8 xs[j]]
  rw [Nat.mul_one, ← List.map_drop, ← List.map_take, List.drop_eq_getElem_cons hj]
  rfl
theorem C_ints {k : IntKind} {w : World} {A : Option Addr} {n : Nat} {xs : List Int} (h : (Kd.int k).C w A n xs) : Cells w.heap.size w A (xs.map (Value.int k)) := by
  obtain ⟨cs, h1, h2, h3, _⟩ := cells_of_C h (by show 0 < 1; omega)
  have : cs = xs.map (Value.int k) := by
    have hl : cs.length = xs.length := by have := h2.1; rw [show (Kd.int k).sz = 1 from rfl] at this; omega
    refine List.ext_getElem (by simp [hl]) fun i hi hi' => ?_
    have hj : i < xs.length := by omega
    have hK : ((cs.drop (i * 1)).take 1) = [Value.int k xs[i]] := h2.2 i _ (List.getElem?_eq_getElem hj)
    have h0 := congrArg (·[0]?) hK
    simp only [List.getElem?_take_of_lt (show 0 < 1 by omega), List.getElem?_drop, Nat.add_zero, Nat.mul_one, List.getElem?_eq_getElem hi] at h0
    simpa using h0
  rw [← this]; exact h3
theorem chunk_set {xs : List Value} {i j sz : Nat} {t : Nat} (ht : t < sz) (u : Value) (hne : j ≠ i) : ((xs.set (i * sz + t) u).drop (j * sz)).take sz = (xs.drop (j * sz)).take sz := by
  refine List.ext_getElem? fun q => ?_
  by_cases hq : q < sz
  · rw [List.getElem?_take_of_lt hq, List.getElem?_take_of_lt hq, List.getElem?_drop, List.getElem?_drop, List.getElem?_set_ne]
    intro e
    rcases Nat.lt_or_ge i j with h | h
    · have : (i + 1) * sz ≤ j * sz := Nat.mul_le_mul_right _ h
      rw [Nat.add_mul, Nat.one_mul] at this; omega
    · have : (j + 1) * sz ≤ i * sz := Nat.mul_le_mul_right _ (by omega)
      rw [Nat.add_mul, Nat.one_mul] at this; omega
  · rw [List.getElem?_eq_none (by rw [List.length_take]; omega), List.getElem?_eq_none (by rw [List.length_take]; omega)]
theorem chunk2 {xs : List Value} {k : Nat} {a b : Value} (h : (xs.drop (k * 2)).take 2 = [a, b]) : xs[k * 2]? = some a ∧ xs[k * 2 + 1]? = some b := by
  have h0 := congrArg (·[0]?) h
  have h1 := congrArg (·[1]?) h
  simp only [List.getElem?_take_of_lt (show 0 < 2 by omega), List.getElem?_take_of_lt (show 1 < 2 by omega), List.getElem?_drop, Nat.add_zero] at h0 h1
  exact ⟨by rw [h0]; rfl, by rw [h1]; rfl⟩
theorem chunk2_mk {xs : List Value} {k : Nat} {a b : Value} (h0 : xs[k * 2]? = some a) (h1 : xs[k * 2 + 1]? = some b) : (xs.drop (k * 2)).take 2 = [a, b] := by
  refine List.ext_getElem? fun q => ?_
  match q with
  | 0 => rw [List.getElem?_take_of_lt (by omega), List.getElem?_drop, Nat.add_zero, h0]; rfl
  | 1 => rw [List.getElem?_take_of_lt (by omega), List.getElem?_drop, h1]; rfl
  | q + 2 => rw [List.getElem?_eq_none (by rw [List.length_take]; omega)]; rfl

theorem own_below {W W' : World} {base : Nat} {e : TypeId} {size n : Nat} {v : Value} {xs : List Value} (h : W.ownsRow base e size v n xs) (hb : Below W.heap.size W W') : W'.ownsRow base e size v n xs := by
  refine ⟨h.1, ?_⟩
  rcases h.2 with h2 | ⟨g, cap, cur, h1, h2, h3, h4⟩
  · exact .inl h2
  · exact .inr ⟨g, cap, cur, h1, h2, (hb.block g (Array.getElem?_eq_some_iff.1 h3).1).trans h3, h4⟩
set_option maxHeartbeats 4000000 in
set_option maxRecDepth 100000 in
theorem rparts_c (A : Option Addr) (c : Nat) (l : List S35) (w : World) (hC : Kd.C k35 w A l.length l) (hc : l.length ≤ c) (hl : l.length * 32 ≤ 140737488355328) (hd : ∀ p ∈ l, p.f1.length ≤ 140737488355328) :
    Calls Try.prog 38 #[.slice A l.length c] w fun e w' => ∃ v, e = .returned v ∧ Kd.R k35 35 w' w.heap.size (fun _ => True) v l ∧ Below w.heap.size w w' := by
  obtain ⟨cs, h1, h2, h3, h4⟩ := cells_of_C hC (by show 0 < 2; omega)
  rw [show k35.sz = 2 from rfl] at h1 h2
  have HCL := hide (clone45_c A l.length c cs w h1 h3 h4 hl)
  have H2 := hide h2
  have HD := hide hd
  clear h1 h2 h3 h4 hC hd
  go_enter Try.func38, Try.ntmps38
  go_upto_region 3 with (go_at_call 45; refine HCL.out.mono ?_; rintro e w1 ⟨v, rfl, hown, hb⟩; have HO := hide hown; obtain ⟨A1, c1, rfl⟩ := own_slice hown; have HB := hide hb; clear hown hb)
  go_wp2
  go_loopw [8] (fun i wr => ∃ k : Nat, k ≤ l.length ∧ i = .int .i64 k ∧ ∃ inner, Hid (wr.ownsRow w.heap.size 35 2 (.slice A1 l.length c1) l.length inner) ∧ Hid (∀ j x, l[j]? = some x → (j < k → k35.M wr w.heap.size (fun b => True ∧ some b ≠ (Value.slice A1 l.length c1).ownBlock) x ((inner.drop (j * 2)).take 2)) ∧ (k ≤ j → k35.K w x ((inner.drop (j * 2)).take 2))) ∧ Hid (Below w.heap.size w wr)) (fun i _ => l.length - (intOf i).toNat)
  case atStart => exact ⟨0, by omega, rfl, cs, HO, hide (fun j x hx => ⟨fun h => absurd h (by omega), fun _ => H2.out.2 j x hx⟩), HB⟩
  case round =>
    obtain ⟨k, hk, rfl, inner, HOW, HI, HBR⟩ := hrel
    by_cases hlt : k < l.length
    · obtain ⟨g, cap, hv, hbg, hg⟩ := HOW.out.form (by omega)
      injection hv with hA1 _ hc1
      subst hA1 hc1
      obtain ⟨A2, c2, hch, l2, g2⟩ := k35_open ((HI.out k _ (List.getElem?_eq_getElem hlt)).2 (Nat.le_refl _))
      obtain ⟨e0, e1⟩ := chunk2 hch
      have hsz := HBR.out.size
      have x1 := HOW.out.cellAt (k * 2 + 1) (by omega)
      rw [e1] at x1
      have x2 := HOW.out.frozenAt (k * 2 + 1)
      have hdl := HD.out _ (List.getElem_mem hlt)
      have HCl := hide (clone46_c A2 (l[k]).f1.length c2 ((l[k]).f1.map (Value.int .u8)) wr (by simp) (C_ints (Kd.C_below g2 HBR.out)) (by simp [Value.oneCell']) (by omega))
      have o1 : (0 : Int) ≤ (k : Int) := by omega
      have o2 : (k : Int) < (l.length : Int) := by omega
      have E0 := hide e0
      have E1 := hide e1
      clear hch e0 e1 l2 g2
      go_upto_region 6 with (go_at_call 46; refine HCl.out.mono ?_; rintro e w2 ⟨v2, rfl, hown2, hb2⟩; have y1 : w2.cell? ⟨g, k * 2 + 1, none⟩ = _ := (hb2.cell (p := ⟨g, k * 2 + 1, none⟩) hg).trans x1; have y2 : w2.frozen? ⟨g, k * 2 + 1, none⟩ = _ := (hb2.frozen (p := ⟨g, k * 2 + 1, none⟩) hg).trans x2; have HO2 := hide hown2; have HB2 := hide hb2; obtain ⟨A3, c3, rfl⟩ := own_slice hown2; clear hown2 hb2)
      have HOm := own_below HOW.out (HB2.out)
      have hst := HOm.stored (k * 2 + 1) (.slice A3 (l[k]).f1.length c3)
      have hne3 : (Value.slice A3 (l[k]).f1.length c3).ownBlock ≠ some g := by
        intro e
        have := (HO2.out.lt g e).1
        omega
      have hM : ∀ b, b ≠ g → b < wr.heap.size → (w2.setCell ⟨g, k * 2 + 1, none⟩ (.slice A3 (l[k]).f1.length c3)).heap[b]? = wr.heap[b]? := fun b h1 h2 => (Below.heap_setCell w2 ⟨g, k * 2 + 1, none⟩ _ b h1).trans (HB2.out.block b h2)
      have HI2 := hide (show ∀ j x, l[j]? = some x → (j < k + 1 → k35.M (w2.setCell ⟨g, k * 2 + 1, none⟩ (.slice A3 (l[k]).f1.length c3)) w.heap.size (fun b => True ∧ some b ≠ (Value.slice (some ⟨g, 0, none⟩) l.length c1).ownBlock) x (((inner.set (k * 2 + 1) (.slice A3 (l[k]).f1.length c3)).drop (j * 2)).take 2)) ∧ (k + 1 ≤ j → k35.K w x (((inner.set (k * 2 + 1) (.slice A3 (l[k]).f1.length c3)).drop (j * 2)).take 2)) from fun j x hx => by
        by_cases e : j = k
        · subst e
          refine ⟨fun _ => ?_, fun h => absurd h (by omega)⟩
          obtain rfl : x = l[j] := by rw [List.getElem?_eq_getElem hlt] at hx; exact (Option.some.inj hx).symm
          have hil := (List.getElem?_eq_some_iff.1 E1.out).1
          rw [chunk2_mk (a := .int .i64 (l[j]).f0) (b := .slice A3 (l[j]).f1.length c3) (by rw [List.getElem?_set_ne (by omega)]; exact E0.out) (by rw [List.getElem?_set_self hil])]
          refine k35_mkM _ _ _ _ (kdR_u8 (base' := wr.heap.size) (ownsRow_setCell_other HO2.out hne3 _) hsz _ fun b hb => ⟨trivial, fun e => ?_⟩)
          have := (HO2.out.lt b hb).1
          rw [show (Value.slice (some ⟨g, 0, none⟩) l.length c1).ownBlock = some g from rfl] at e
          injection e with e
          omega
        · rw [chunk_set (by omega) _ e]
          refine ⟨fun h => Kd.M_step ((HI.out j x hx).1 (by omega)) (fun b hb hlt => hM b (fun e => hb.2 (by rw [e]; rfl)) hlt), fun h => (HI.out j x hx).2 (by omega)⟩)
      have HBf := hide (Below.setCell (p := ⟨g, k * 2 + 1, none⟩) (HBR.out.trans (HB2.out.mono hsz)) (by simpa using hbg) (.slice A3 (l[k]).f1.length c3))
      have HOf := hide hst.1
      clear y1 y2 HOm hst hM hne3
      go_wp2
      go_roundw
      case rel => exact ⟨k + 1, by omega, by go_num, _, HOf, HI2, HBf⟩
      case measure => simp [intOf]; omega
    · have hkl : k = l.length := by omega
      have H3 := hide (show ∀ j x, l[j]? = some x → k35.M wr w.heap.size (fun b => True ∧ some b ≠ (Value.slice A1 l.length c1).ownBlock) x ((inner.drop (j * 2)).take 2) from fun j x hx => (HI.out j x hx).1 (by have := (List.getElem?_eq_some_iff.1 hx).1; omega))
      have hge : (l.length : Int) ≤ (k : Int) := by omega
      clear HI hkl hlt hk
      go_wp2
      go_ret
      exact ⟨_, rfl, ⟨fun _ _ => trivial, inner, HOW.out, by have := HOW.out.1; exact this, H3.out⟩, HBR.out⟩
end Go.Proofs.Ytnmlmbbacicojaa
namespace Go.Proofs.Ytnmlmbbacicojaa
set_option linter.unusedVariables false
set_option linter.unusedSimpArgs false
open Go.RowKit Go.Maps

abbrev heldR (v : Value) : Option (DataW Value × List MemPlace) := some (.held v, [])
abbrev kV (k : Int) : Lit := .int .i64 k
theorem kV_key (k : Int) : WideAt.IsKeyLit (kV k) := trivial
theorem kV_ne {a b : Int} (h : a ≠ b) : kV a ≠ kV b := fun e => h (by injection e)
/-- what a map holds: by each key; how many -/
def MapV (D : DataW Value) (f : Int → Option Value) (s : Nat) : Prop := Tidy D ∧ size D = s ∧ ∀ k, has D (kV k) = (f k).isSome ∧ ∀ z, D.atKey (kV k) z = match f k with | some v => .held v | none => z
theorem MapV.none_ : MapV (.map []) (fun _ => none) 0 := ⟨tidy_empty, rfl, fun k => ⟨rfl, fun z => rfl⟩⟩
theorem MapV.put {D : DataW Value} {f : Int → Option Value} {s : Nat} (h : MapV D f s) (k : Int) (v : Value) : MapV (D.put (kV k) (.held v)) (fun x => if x = k then some v else f x) (if (f k).isSome then s else s + 1) := by
  obtain ⟨h1, h2, h3⟩ := h
  refine ⟨h1.put (kV_key k) _, ?_, fun x => ?_⟩
  · rw [size_put h1, (h3 k).1, h2]
  · by_cases e : x = k
    · subst e
      dsimp only
      rw [if_pos rfl]
      exact ⟨has_put_same h1.isMap (kV_key _) _, fun z => atKey_put_same h1.isMap (kV_key _) _ _⟩
    · dsimp only
      rw [if_neg e]
      exact ⟨(has_put_other (kV_ne e) _).trans (h3 x).1, fun z => (atKey_put_other (kV_ne e) _ _).trans ((h3 x).2 z)⟩
theorem MapV.del {D : DataW Value} {f : Int → Option Value} {s : Nat} (h : MapV D f s) (k : Int) : MapV (D.del (kV k)) (fun x => if x = k then none else f x) (if (f k).isSome then s - 1 else s) := by
  obtain ⟨h1, h2, h3⟩ := h
  refine ⟨h1.del _, ?_, fun x => ?_⟩
  · have := size_del (k := kV k) h1
    rw [(h3 k).1, h2] at this
    split <;> rename_i e
    · rw [if_pos e] at this; omega
    · rw [if_neg e] at this; omega
  · by_cases e : x = k
    · subst e
      dsimp only
      rw [if_pos rfl]
      exact ⟨has_del_same, fun z => atKey_del_same z⟩
    · dsimp only
      rw [if_neg e]
      exact ⟨(has_del_other (kV_ne e)).trans (h3 x).1, fun z => (atKey_del_other (kV_ne e) z).trans ((h3 x).2 z)⟩
def OwnV (P : Program) (kt : TypeId) (w : World) (b : Nat) (f : Int → Option Value) (s : Nat) : Prop := ∃ D : DataW Value, w.ownsMap P kt heldR b s D ∧ MapV D f s
theorem ownsMap_tight {H : Type} {P : Program} {k : TypeId} {R : Value → Option (DataW H × List MemPlace)} {w : World} {b n : Nat} {D : DataW H} (h : w.ownsMap P k R b n D) : w.ownsMap P k R b (size D) D := by
  obtain ⟨es, clock, h1, h2, h3, rfl⟩ := h
  exact ⟨es, clock, h1, h2, by have := length_sorted (es.toList.map (WideElems.rg P k R)); simp [Maps.size, this], rfl⟩
section
variable {P : Program} {kt et t : TypeId} {w w' : World} {b s : Nat} {f : Int → Option Value}
theorem OwnV.made (w : World) (P : Program) (kt : TypeId) : OwnV P kt (w.alloc (.map #[] 0)) w.heap.size (fun _ => none) 0 := ⟨_, World.ownsMap_made _ _ _ _, MapV.none_⟩
theorem OwnV.same (h : OwnV P kt w b f s) (hb : w'.heap[b]? = w.heap[b]?) : OwnV P kt w' b f s := by
  obtain ⟨D, ⟨es, clock, h1, h2⟩, h3⟩ := h
  exact ⟨D, ⟨es, clock, hb.trans h1, h2⟩, h3⟩
theorem OwnV.obj (h : OwnV P kt w b f s) : ∃ es clock, w.heap[b]? = some (.map es clock) := by obtain ⟨D, ⟨es, clock, h1, _⟩, _⟩ := h; exact ⟨es, clock, h1⟩
theorem OwnV.lt (h : OwnV P kt w b f s) : b < w.heap.size := by obtain ⟨D, h1, _⟩ := h; exact h1.lt
theorem OwnV.kept {row : Option Nat} (h : OwnV P kt w b f s) (hg : w.grownBy w' row) (hne : some b ≠ row) : OwnV P kt w' b f s := h.same (hg.block b h.lt hne)
theorem OwnV.alloc (h : OwnV P kt w b f s) (o : Obj) : OwnV P kt (w.alloc o) b f s := h.kept (World.grownBy_alloc w o none) (by simp)
theorem OwnV.below {B : Nat} (h : OwnV P kt w b f s) (hb : Below B w w') (hB : b < B) : OwnV P kt w' b f s := h.same (hb.block b hB)
theorem OwnV.setCell (h : OwnV P kt w b f s) {a : Addr} (hne : b ≠ a.block) (u : Value) : OwnV P kt (w.setCell a u) b f s := h.same (Below.heap_setCell w a u b hne)
theorem OwnV.look (h : OwnV P kt w b f s) (hk : P.underlying kt = some (.int .i64)) (ht : P.underlying t = some (.map kt et)) {z : Value} (hz : (zeroValue et).run P w = .ok z w) (k : Int) (hw : (Lit.int .i64 k).wf = true) :
    (Instr.lookup t (.map (some b)) (.int .i64 k) true).run P w = .ok (.tuple #[(f k).getD z, .bool (f k).isSome]) w := by
  obtain ⟨D, h1, h2, h3, h4⟩ := h
  obtain ⟨v, ps, hrun, hv⟩ := h1.look_ok (int_keyed hk) ht hz (zd := .held z) (zp := []) rfl (keyOf_int_mk hk hw)
  rw [show (Lit.int .i64 k) = kV k from rfl, (h4 k).2] at hv
  rw [hrun, show Maps.has D (.int .i64 k) = _ from (h4 k).1]
  have e : v = (f k).getD z := by
    cases hf : f k with
    | none => rw [hf] at hv; injection hv with hv; injection hv with hv _; injection hv
    | some x => rw [hf] at hv; injection hv with hv; injection hv with hv _; injection hv
  rw [e]
theorem OwnV.look0 (h : OwnV P kt w b f s) (hk : P.underlying kt = some (.int .i64)) (ht : P.underlying t = some (.map kt et)) {z : Value} (hz : (zeroValue et).run P w = .ok z w) (k : Int) (hw : (Lit.int .i64 k).wf = true) :
    (Instr.lookup t (.map (some b)) (.int .i64 k) false).run P w = .ok ((f k).getD z) w := by
  obtain ⟨D, h1, h2, h3, h4⟩ := h
  obtain ⟨v, ps, hrun, hv⟩ := h1.lookup (int_keyed hk) ht hz (zd := .held z) (zp := []) rfl (keyOf_int_mk hk hw)
  rw [show (Lit.int .i64 k) = kV k from rfl, (h4 k).2] at hv
  rw [hrun]
  have e : v = (f k).getD z := by
    cases hf : f k with
    | none => rw [hf] at hv; injection hv with hv; injection hv with hv _; injection hv
    | some x => rw [hf] at hv; injection hv with hv; injection hv with hv _; injection hv
  rw [e]
theorem OwnV.len (h : OwnV P kt w b f s) (ht : P.underlying t = some (.map kt et)) (ty : TypeId) : (Builtin.len_ #[t] ty #[.map (some b)]).run P w = .ok (.int .i64 s) w := by
  obtain ⟨D, h1, h2, h3, h4⟩ := h
  rw [h1.len ht ty, h3]
theorem OwnV.update (h : OwnV P kt w b f s) (hk : P.underlying kt = some (.int .i64)) (ht : P.underlying t = some (.map kt et)) (hs : s < maxLen) (k : Int) (hw : (Lit.int .i64 k).wf = true) (v : Value) :
    ∃ w', (Instr.mapUpdate t (.map (some b)) (.int .i64 k) v).run P w = .ok () w' ∧ OwnV P kt w' b (fun x => if x = k then some v else f x) (if (f k).isSome then s else s + 1) ∧ w.grownBy w' (some b) := by
  obtain ⟨D, h1, h2⟩ := h
  obtain ⟨w', hrun, r1, r2⟩ := h1.update (int_keyed hk) ht hs (key := .int .i64 k) (val := v) (kl := kV k) (d := .held v) (ps := []) (keyOf_int_mk hk hw) rfl
  have h3 := h2.put k v
  have r3 := ownsMap_tight r1
  rw [h3.2.1] at r3
  exact ⟨w', hrun, ⟨_, r3, h3⟩, r2⟩
theorem OwnV.drop (h : OwnV P kt w b f s) (hk : P.underlying kt = some (.int .i64)) (ht : P.underlying t = some (.map kt et)) (k : Int) (hw : (Lit.int .i64 k).wf = true) (ty : TypeId) :
    ∃ w', (Builtin.delete_ #[t, kt] ty #[.map (some b), .int .i64 k]).run P w = .ok (.tuple #[]) w' ∧ OwnV P kt w' b (fun x => if x = k then none else f x) (if (f k).isSome then s - 1 else s) ∧ w.grownBy w' (some b) := by
  obtain ⟨D, h1, h2⟩ := h
  obtain ⟨w', hrun, r1, r2⟩ := h1.drop (int_keyed hk) ht (key := .int .i64 k) (kl := kV k) (keyOf_int_mk hk hw) ty
  have h3 := h2.del k
  have r3 := ownsMap_tight r1
  rw [h3.2.1] at r3
  exact ⟨w', hrun, ⟨_, r3, h3⟩, r2.grown⟩
theorem wpList_putV {ops : Array Oper} {rest : List Oper} {o : Oper} {a : Act} {Q : Exit → Act → World → Prop} (hg : o.guard = none) (m x v : Operand) (t : TypeId) (hop : o.op = Op.mapUpdate t m x v ∨ o.op = Op.insert t m x v)
    (kt et : TypeId) (hk : P.underlying kt = some (.int .i64)) (ht : P.underlying t = some (.map kt et)) (b s : Nat) (f : Int → Option Value) (hm : a.eval m = .map (some b)) (h : OwnV P kt w b f s) (hs : s < maxLen)
    (k : Int) (val : Value) (hx : a.eval x = .int .i64 k) (hv : a.eval v = val) (hw : (Lit.int .i64 k).wf = true)
    (hK : ∀ w', OwnV P kt w' b (fun x => if x = k then some val else f x) (if (f k).isSome then s else s + 1) → w.grownBy w' (some b) → wpList P ops Q rest (a.put o.dst undef) w') :
    wpList P ops Q (o :: rest) a w := by
  refine wpList_plain hg fun K' hK' => ?_
  obtain ⟨w', hrun, r1, r2⟩ := h.update hk ht hs k hw val
  unfold Oper.wp
  rcases hop with hop | hop <;> simp [execOp, hop, hm, hx, hv, hrun, Result.andThen] <;> exact hK' _ _ (hK w' r1 r2)
theorem wpList_delV {ops : Array Oper} {rest : List Oper} {o : Oper} {a : Act} {Q : Exit → Act → World → Prop} (hg : o.guard = none) (m x : Operand) (t : TypeId) (kt : TypeId) (hop : o.op = Op.call { callee := Callee.builtin Builtin.delete, args := #[m, x], argTypes := #[t, kt] })
    (et : TypeId) (hk : P.underlying kt = some (.int .i64)) (ht : P.underlying t = some (.map kt et)) (b s : Nat) (f : Int → Option Value) (hm : a.eval m = .map (some b)) (h : OwnV P kt w b f s)
    (k : Int) (hx : a.eval x = .int .i64 k) (hw : (Lit.int .i64 k).wf = true)
    (hK : ∀ w', OwnV P kt w' b (fun x => if x = k then none else f x) (if (f k).isSome then s - 1 else s) → w.grownBy w' (some b) → wpList P ops Q rest (a.put o.dst (.tuple #[])) w') :
    wpList P ops Q (o :: rest) a w := by
  refine wpList_plain hg fun K' hK' => ?_
  obtain ⟨w', hrun, r1, r2⟩ := h.drop hk ht k hw o.type
  unfold Oper.wp
  simp [execOp, hop, resolve, invoke, builtin, hm, hx, hrun, Result.andThen]
  exact hK' _ _ (hK w' r1 r2)
end
end Go.Proofs.Ytnmlmbbacicojaa
namespace Go.Proofs.Ytnmlmbbacicojaa
set_option linter.unusedVariables false
set_option linter.unusedSimpArgs false
open Go.RowKit Go.Maps Go.Proofs.YtnmlmbbacicojaaW.PrintWords Go.Proofs.YtnmlmbbacicojaaW.PrintLast Go.Proofs.YtnmlmbbacicojaaW.PrintMore Go.Proofs.Ytnmlmbbacicojaa.PWalkSame

/-- what is no row of whole numbers, and not in S, lies as it lay -/
def Tn (S : Nat → Prop) (A B : World) : Prop := A.heap.size ≤ B.heap.size ∧ ∀ k o, A.heap[k]? = some o → ¬ S k → (∀ c f, o ≠ .cells c 3 f) → B.heap[k]? = some o
theorem Tn.refl (S : Nat → Prop) (A : World) : Tn S A A := ⟨Nat.le_refl _, fun _ _ h _ _ => h⟩
theorem Tn.trans {S S' : Nat → Prop} {A B C : World} (h : Tn S A B) (k : Tn S' B C) (hs : ∀ b, b < A.heap.size → S' b → S b) : Tn S A C :=
  ⟨Nat.le_trans h.1 k.1, fun b o h1 h2 h3 => k.2 b o (h.2 b o h1 h2 h3) (fun e => h2 (hs b (Array.getElem?_eq_some_iff.1 h1).1 e)) h3⟩
theorem Tn.below {S : Nat → Prop} {A B C : World} (h : Tn S A B) (hb : Below B.heap.size B C) : Tn S A C :=
  ⟨Nat.le_trans h.1 hb.size, fun b o h1 h2 h3 => (hb.block b (Array.getElem?_eq_some_iff.1 (h.2 b o h1 h2 h3)).1).trans (h.2 b o h1 h2 h3)⟩
theorem Tn.alloc {S : Nat → Prop} {A B : World} (h : Tn S A B) (o : Obj) : Tn S A (B.alloc o) := h.below ((Below.refl _ _).alloc (Nat.le_refl _) o)
theorem Tn.set {S : Nat → Prop} {A B : World} (h : Tn S A B) {a : Addr} (ha : A.heap.size ≤ a.block ∨ S a.block) (u : Value) : Tn S A (B.setCell a u) := by
  refine ⟨by have := h.1; simpa using this, fun b o h1 h2 h3 => (Below.heap_setCell B a u b (fun e => ?_)).trans (h.2 b o h1 h2 h3)⟩
  subst e
  rcases ha with ha | ha
  · have := (Array.getElem?_eq_some_iff.1 h1).1; omega
  · exact h2 ha
theorem Tn.grown {S : Nat → Prop} {A B C : World} (h : Tn S A B) {r : Nat} (hg : B.grownBy C (some r)) (hr : S r) : Tn S A C :=
  ⟨Nat.le_trans h.1 hg.size, fun b o h1 h2 h3 => (hg.block b (Array.getElem?_eq_some_iff.1 (h.2 b o h1 h2 h3)).1 (fun e => by injection e with e; subst e; exact h2 hr)).trans (h.2 b o h1 h2 h3)⟩
/-- a row of whole numbers has grown -/
theorem Tn.row {S : Nat → Prop} {A B C : World} (h : Tn S A B) {base n : Nat} {v : Value} {xs : List Value} (ho : B.ownsRow base 3 1 v n xs) (hg : B.grownBy C v.ownBlock) : Tn S A C :=
  ⟨Nat.le_trans h.1 hg.size, fun b o h1 h2 h3 => (hg.block b (Array.getElem?_eq_some_iff.1 (h.2 b o h1 h2 h3)).1 (fun e => by
    obtain ⟨cells, hc⟩ := own_typed ho b e.symm
    rw [h.2 b o h1 h2 h3] at hc
    injection hc with hc
    exact h3 _ _ hc)).trans (h.2 b o h1 h2 h3)⟩
theorem Tn.drewN {S : Nat → Prop} {A B : World} (h : Tn S A B) (q : Nat) : Tn S A (B.drewN q) := h
theorem Tn.blk {S : Nat → Prop} {A B : World} (h : Tn S A B) {b : Nat} {cs : Array Value} {t : TypeId} (hb : Blk A b cs t) (hs : ¬ S b) (ht : t ≠ 3) : Blk B b cs t := h.2 b _ hb hs (fun c f e => by injection e with _ e _; exact ht e)
theorem Tn.ii {S : Nat → Prop} {A B : World} (h : Tn S A B) {P : Program} {kt et b n : Nat} {f : Int → Option Int} (hi : OwnII P kt et A b n f) (hs : ¬ S b) : OwnII P kt et B b n f := by
  obtain ⟨es, ck, e⟩ := hi.obj
  exact hi.same ((h.2 b _ e hs (fun c f e => by cases e)).trans e.symm)
theorem Tn.R {S : Nat → Prop} {A B : World} (h : Tn S A B) {α : Type} {d : Kd α} {e base : Nat} {v : Value} {xs : List α} {ok : Nat → Prop} (hr : Kd.R d e A base ok v xs) (h3 : 3 ∉ e :: d.E) (hs : ∀ k q, q ∈ e :: d.E → (∃ c, A.heap[k]? = some (.cells c q (0, 0))) → ok k → ¬ S k) : Kd.R d e B base (fun k => ok k ∧ k < A.heap.size) v xs := by
  refine Kd.R_mono (Kd.R_step (Kd.R_bound hr) (fun k hk _ => ?_)) (fun k hk => ⟨hk.1, hk.2.2.1⟩)
  obtain ⟨hok, _, _, q, hq, c, hc⟩ := hk
  rw [hc]
  exact h.2 k _ hc (hs k q hq ⟨c, hc⟩ hok) (fun c' f e => by injection e with _ e _; subst e; exact h3 hq)
theorem Tn.v {S : Nat → Prop} {A B : World} (h : Tn S A B) {P : Program} {kt b n : Nat} {f : Int → Option Value} (hi : OwnV P kt A b f n) (hs : ¬ S b) : OwnV P kt B b f n := by
  obtain ⟨es, ck, e⟩ := hi.obj
  exact hi.same ((h.2 b _ e hs (fun c f e => by cases e)).trans e.symm)
theorem Tn.own {S : Nat → Prop} {A B : World} (h : Tn S A B) {base e size n : Nat} {v : Value} {xs : List Value} (ho : A.ownsRow base e size v n xs) (he : e ≠ 3) (hs : ∀ b, v.ownBlock = some b → ¬ S b) : B.ownsRow base e size v n xs := by
  refine ⟨ho.1, ?_⟩
  rcases ho.2 with h2 | ⟨g, cap, cur, rfl, h2, h3, h4⟩
  · exact .inl h2
  · exact .inr ⟨g, cap, cur, rfl, h2, h.2 g _ h3 (hs g rfl) (fun c f e' => by injection e' with _ e' _; exact he e'), h4⟩
theorem ent_here {done rest : List S32} {e : S32} {s : Nat} (hs : done.length = s) : (done.flatMap (fun x : S32 => [Value.int .i64 x.f0, .string x.f1]) ++ ([Value.int .i64 e.f0, .string e.f1] ++ rest.flatMap (fun x : S32 => [Value.int .i64 x.f0, .string x.f1])))[s * 2]? = some (.int .i64 e.f0) ∧ (done.flatMap (fun x : S32 => [Value.int .i64 x.f0, .string x.f1]) ++ ([Value.int .i64 e.f0, .string e.f1] ++ rest.flatMap (fun x : S32 => [Value.int .i64 x.f0, .string x.f1])))[s * 2 + 1]? = some (.string e.f1) := by
  have hl : (done.flatMap (fun x : S32 => [Value.int .i64 x.f0, .string x.f1])).length = s * 2 := by
    rw [← hs]
    clear hs
    induction done with
    | nil => rfl
    | cons x l ih => rw [List.flatMap_cons, List.length_append, ih]; simp; omega
  refine ⟨?_, ?_⟩
  · rw [List.getElem?_append_right (by omega), hl, Nat.sub_self]; rfl
  · rw [List.getElem?_append_right (by omega), hl, show s * 2 + 1 - s * 2 = 1 by omega]; rfl
def wayL (l : List S30) (ord : List Nat) : List Value := ord.map fun p => Value.int .i64 (l.getD p z30).f0
def numV (l : List S30) (ord : List Nat) (x : Int) : Option Value := (numF l ord x).map (Value.int .i64)
def entC (x : S32) : List Value := [.int .i64 x.f0, .string x.f1]
def entsC (l : List S32) : List Value := l.flatMap entC
theorem entsC_len (l : List S32) : (entsC l).length = l.length * 2 := by
  induction l with
  | nil => rfl
  | cons x l ih => show (entC x ++ entsC l).length = _; rw [List.length_append, ih]; simp [entC]; omega
theorem entsC_append (a b : List S32) : entsC (a ++ b) = entsC a ++ entsC b := by simp [entsC]
theorem entsC_at {l : List S32} {s : Nat} (h : s < l.length) : (entsC l)[s * 2]? = some (.int .i64 l[s].f0) ∧ (entsC l)[s * 2 + 1]? = some (.string l[s].f1) := by
  have e : l = l.take s ++ l[s] :: l.drop (s + 1) := by rw [← List.drop_eq_getElem_cons h, List.take_append_drop]
  have hl := entsC_len (l.take s)
  rw [List.length_take, Nat.min_eq_left (by omega)] at hl
  have e2 : entsC l = entsC (l.take s) ++ (entC l[s] ++ entsC (l.drop (s + 1))) := by
    conv => lhs; rw [e]
    rw [entsC_append]; rfl
  rw [e2]
  refine ⟨?_, ?_⟩
  · rw [List.getElem?_append_right (by omega), hl, Nat.sub_self]; rfl
  · rw [List.getElem?_append_right (by omega), hl, show s * 2 + 1 - s * 2 = 1 by omega]; rfl
theorem entsC_reps (w : World) (base : Nat) (ok : Nat → Prop) (l : List S32) : Reps (k32.M w base ok) 2 l (entsC l) := by
  refine ⟨by rw [entsC_len], fun j p hp => ?_⟩
  obtain ⟨hj, rfl⟩ := List.getElem?_eq_some_iff.1 hp
  obtain ⟨h0, h1⟩ := entsC_at hj
  rw [chunk2_mk h0 h1]
  exact k32_mkM _ _ _ _
theorem ents_of_C {w : World} {A : Option Addr} {n : Nat} {l : List S32} (h : Kd.C k32 w A n l) : Cells w.heap.size w A (entsC l) := by
  obtain ⟨cs, h1, h2, h3, _⟩ := cells_of_C h (by show 0 < 2; omega)
  have : cs = entsC l := by
    have hl : l.length = n := h.1
    rw [show k32.sz = 2 from rfl] at h1 h2
    refine List.ext_getElem (by rw [h1, entsC_len, hl]) fun i hi hi' => ?_
    have hj : i / 2 < l.length := by omega
    obtain ⟨e0, e1⟩ := entsC_at hj
    obtain ⟨c0, c1⟩ := chunk2 (k32_open (h2.2 (i / 2) _ (List.getElem?_eq_getElem hj)))
    rcases (show i = i / 2 * 2 ∨ i = i / 2 * 2 + 1 by omega) with e | e
    · rw [← e] at e0 c0
      rw [List.getElem?_eq_getElem hi] at c0; rw [List.getElem?_eq_getElem hi'] at e0
      rw [Option.some.inj c0, Option.some.inj e0]
    · rw [← e] at e1 c1
      rw [List.getElem?_eq_getElem hi] at c1; rw [List.getElem?_eq_getElem hi'] at e1
      rw [Option.some.inj c1, Option.some.inj e1]
  rw [← this]; exact h3
theorem set_pair {done rest : List S32} {e x : S32} {s : Nat} (hs : done.length = s) : ((entsC (done ++ e :: rest)).set (s * 2) (.int .i64 x.f0)).set (s * 2 + 1) (.string x.f1) = entsC (done ++ x :: rest) := by
  have hl := entsC_len done
  rw [entsC_append, entsC_append]
  show ((entsC done ++ (entC e ++ entsC rest)).set _ _).set _ _ = entsC done ++ (entC x ++ entsC rest)
  rw [List.set_append_right _ _ (by omega), List.set_append_right _ _ (by omega), hl, hs, Nat.sub_self, show s * 2 + 1 - s * 2 = 1 by omega]
  rfl
theorem set_ino {done rest : List S32} {e : S32} {i : Int} {s : Nat} (hs : done.length = s) : (entsC (done ++ e :: rest)).set (s * 2) (.int .i64 i) = entsC (done ++ ⟨i, e.f1⟩ :: rest) := by
  have hl := entsC_len done
  rw [entsC_append, entsC_append]
  show (entsC done ++ (entC e ++ entsC rest)).set _ _ = entsC done ++ (entC _ ++ entsC rest)
  rw [List.set_append_right _ _ (by omega), hl, hs, Nat.sub_self]
  rfl
end Go.Proofs.Ytnmlmbbacicojaa
namespace Go.Proofs.Ytnmlmbbacicojaa
set_option linter.unusedVariables false
set_option linter.unusedSimpArgs false
open Go.RowKit Go.Maps Go.Proofs.YtnmlmbbacicojaaW.PrintWords Go.Proofs.YtnmlmbbacicojaaW.PrintLast Go.Proofs.YtnmlmbbacicojaaW.PrintMore Go.Proofs.Ytnmlmbbacicojaa.PWalkSame

theorem info3p : (Try.prog.info? 3).map (fun i => (i.zero, i.size, i.bytes)) = some (some (.int .i64 0), 1, 8) := by kernel_rfl
/-- what lies in memory at the head of a round -/
def RnP (l : List S30) (w : World) (ba m bn : Nat) (ord : List Nat) (vw vo : Value) (out : List S30) (W : World) : Prop :=
  OwnII Try.prog 3 3 W ba m (atF l) ∧ OwnV Try.prog 3 W bn (numV l ord) ord.length ∧ W.ownsRow w.heap.size 3 1 vw ord.length (wayL l ord) ∧ Kd.R k30 30 W w.heap.size (fun _ => True) vo out ∧ Below w.heap.size w W ∧ ba ≠ bn ∧ w.heap.size ≤ bn
/-- what lies in memory while a node's slots are numbered anew -/
def RiP (l : List S30) (w : World) (es : List S32) (ord : List Nat) (bn : Nat) (A7 : Option Addr) (c7 : Nat) (v5 : Value) (s : Nat) (W7 W : World) : Prop :=
  OwnV Try.prog 3 W bn (numV l (slotG l (es.take s) ord).2) (slotG l (es.take s) ord).2.length ∧ W.ownsRow w.heap.size 3 1 (.slice A7 (slotG l (es.take s) ord).2.length c7) (slotG l (es.take s) ord).2.length (wayL l (slotG l (es.take s) ord).2) ∧
    W.ownsRow w.heap.size 32 2 v5 es.length (entsC ((slotG l (es.take s) ord).1 ++ es.drop s)) ∧ Tn (fun b => b = bn ∨ some b = v5.ownBlock) W7 W ∧ Below w.heap.size w W
theorem wayL_at {l : List S30} {ord : List Nat} {k : Nat} (h : k < ord.length) (hp : ord[k] < l.length) : (wayL l ord)[k]? = some (.int .i64 (l[ord[k]]).f0) := by
  unfold wayL; simp [h, hp]
theorem wayL_push {l : List S30} {ord : List Nat} {p : Nat} (hp : p < l.length) : wayL l ord ++ [.int .i64 (l[p]).f0] = wayL l (ord ++ [p]) := by unfold wayL; simp [hp]
theorem own_ne {W : World} {b b' e e' sz sz' n n' g c : Nat} {v : Value} {xs ys : List Value} (h : W.ownsRow b e sz v n xs) (h' : W.ownsRow b' e' sz' (.slice (some ⟨g, 0, none⟩) n' c) n' ys) (hne : e ≠ e') : v.ownBlock ≠ some g := by
  rcases own_type_ne h h' hne with h1 | h1
  · rw [h1]; simp
  · exact h1
theorem R_own {α : Type} {d : Kd α} {e base : Nat} {W : World} {ok : Nat → Prop} {v : Value} {xs : List α} (h : Kd.R d e W base ok v xs) : ∃ inner, W.ownsRow base e d.sz v xs.length inner := by
  obtain ⟨_, inner, h1, _⟩ := h; exact ⟨inner, h1⟩
set_option maxHeartbeats 8000000 in
set_option maxRecDepth 100000 in
theorem renumber_c (l : List S30) (A : Option Addr) (N c : Nat) (w : World) (hN : l.length = N) (hNc : N ≤ c) (hok : NodesOk l) (hC : Kd.C k30 w A N l) :
    Calls Try.prog 24 #[.slice A N c] w fun e w' => ∃ v, e = .returned v ∧ Kd.R k30 30 w' w.heap.size (fun _ => True) v (renF l) ∧ Below w.heap.size w w' := by
  have hr47 := reach47
  have hll : l.length * 80 ≤ 140737488355328 := by have := hok.2; omega
  subst hN
  have HIX := hide (index_c A l.length c l w rfl hC hNc (by omega) (fun x hx => (hok.1 x hx).1))
  have HC := hide hC
  have HOK := hide hok
  clear hC hok
  have hmm := @run_makeMap Try.prog
  cases hq : atF l 1 with
  | none =>
    have HF := hide (show renF l = [] by unfold renF; rw [hq])
    go_enter Try.func24, Try.ntmps24
    go_upto_region 2 with (go_at_call 27; refine HIX.out.mono ?_; rintro e w1 ⟨ba, m, rfl, hba, hii, hm, hb⟩)
    have hlk := hii.look Try.underlying3 Try.underlying3 Try.underlying56 (zero3 _) 1 (by decide)
    rw [hq] at hlk
    simp only [Option.getD_none, Option.isSome_none] at hlk
    clear hq
    go_wp2
    go_ret
    rw [HF.out]
    exact ⟨_, rfl, Kd.R_nil _ _ _ _ _, hb⟩
  | some kk =>
    obtain ⟨p0, rfl, hp0, hf0⟩ := atF_lt hq
    have HF := hide (show renF l = renGo l (l.length + 1) 0 [p0] [] by unfold renF; rw [hq]; rfl)
    have HO0 := hide (show OrdOk l [p0] from ⟨by simp, fun p hp => by rw [List.mem_singleton] at hp; subst hp; exact ⟨hp0, by rw [hf0]; exact hq⟩⟩)
    have HN0 := hide (show numV l [p0] = fun x => if x = 1 then some (.int .i64 1) else none by
      have := numF_push (l := l) (ord := []) ⟨by simp, by simp⟩ hp0 (by rw [hf0]; exact hq) (by simp)
      funext x
      unfold numV
      rw [show [p0] = [] ++ [p0] from rfl, this]
      dsimp only
      rw [hf0]
      by_cases e : x = 1
      · rw [if_pos e, if_pos e]; rfl
      · rw [if_neg e, if_neg e]
        unfold numF
        cases atF l x <;> simp)
    have HW0 := hide (show wayL l [p0] = [.int .i64 1] by unfold wayL; simp [hp0, hf0])
    go_enter Try.func24, Try.ntmps24
    go_upto_region 2 with (go_at_call 27; refine HIX.out.mono ?_; rintro e w1 ⟨ba, m, rfl, hba, hii, hm, hb⟩)
    have hlk := hii.look Try.underlying3 Try.underlying3 Try.underlying56 (zero3 _) 1 (by decide)
    rw [hq] at hlk
    simp only [Option.getD_some, Option.isSome_some] at hlk
    clear hq hf0
    have HII := hide hii
    have hlt := hii.lt
    have HB := hide hb
    have hsz := hb.size
    clear hii hb
    go_upto_region 6 with (with_reducible refine wpList_putV rfl _ _ _ 56 (.inr rfl) 3 3 Try.underlying3 Try.underlying56 _ 0 _ rfl (OwnV.made _ _ _) (by unfold maxLen; omega) 1 _ rfl rfl (by decide) ?_; intro w2 hown hg; have HG := hide (And.intro hown hg); clear hown hg)
    go_upto_region 9 with (fail)
    have hbn : ba ≠ w1.heap.size := by omega
    have hsz2 : w1.heap.size + 1 ≤ w2.heap.size := by have := HG.out.2.size; simpa using this
    have HP0 := hide (show RnP l w ba m w1.heap.size [p0] (.slice (some ⟨w2.heap.size, 0, none⟩) 1 1) (.slice none 0 0) [] (w2.alloc (.cells #[.int .i64 1] 3)) by
      refine ⟨((HII.out.kept (World.grownBy_alloc w1 (.map #[] 0) none) (by simp)).kept HG.out.2 (by simp; omega)).kept (World.grownBy_alloc w2 _ none) (by simp), ?_, ?_, Kd.R_nil _ _ _ _ _, ?_, hbn, hsz⟩
      · rw [HN0.out]; exact HG.out.1.alloc _
      · rw [HW0.out]; exact World.ownsRow_lit (base := w.heap.size) (e := 3) (size := 1) w2 #[.int .i64 1] 1 (by omega) (by unfold maxLen; omega) (by simp)
      · exact ((HB.out.alloc hsz _).grown HG.out.2 (by simp; omega) (fun k hk => by cases hk; exact hsz)).alloc (by omega) _)
    have hlt2 : w1.heap.size < w2.heap.size := by omega
    clear hmm hlk
    generalize hWW : w2.alloc (.cells #[.int .i64 1] 3) = W0 at HP0 ⊢
    generalize w1.heap.size = bn at HP0 hbn ⊢
    clear hWW HG HN0 HW0 hlt hsz hsz2 hlt2 HII HB
    go_loopw [7, 8, 9] (fun v7 v8 i wr => ∃ (k : Nat) (ord : List Nat) (out : List S30) (f : Nat) (A7 : Option Addr) (c7 : Nat) (A8 : Option Addr) (c8 : Nat), k ≤ ord.length ∧ i = .int .i64 k ∧ v7 = .slice A7 ord.length c7 ∧ v8 = .slice A8 out.length c8 ∧ Hid (out.length = k) ∧ Hid (renGo l f k ord out = renF l) ∧ Hid (l.length - k < f) ∧ Hid (OrdOk l ord) ∧ Hid (RnP l w ba m bn ord (.slice A7 ord.length c7) (.slice A8 out.length c8) out wr)) (fun _ _ i _ => l.length + 1 - (intOf i).toNat)
    case atStart => exact ⟨0, [p0], [], l.length + 1, _, _, _, _, by omega, rfl, rfl, rfl, hide rfl, hide HF.out.symm, hide (by omega), HO0, HP0⟩
    case round =>
      obtain ⟨k, ord, out, f, A7, c7, A8, c8, hk, rfl, rfl, rfl, HLK, HT, HFU, HOO, HP⟩ := hrel
      have hol := HOO.out.len
      by_cases hlt : k < ord.length
      · obtain ⟨hp, hap⟩ := HOO.out.2 _ (List.getElem_mem hlt)
        have hpp : ord[k] = ord[k] := rfl
        obtain ⟨hii, hnv, hway, hout, hbel, hne, hbb⟩ := HP.out
        obtain ⟨gw, cap, hv, hbg, hgw⟩ := hway.form (by omega)
        injection hv with hA7 _ hc7
        subst hA7 hc7
        have y0 := hway.cellAt k (by omega)
        rw [wayL_at hlt hp] at y0
        obtain ⟨f', rfl⟩ : ∃ f', f = f' + 1 := ⟨f - 1, by have := HFU.out; omega⟩
        have HT2 := hide (show renGo l f' (k + 1) (slotG l (l[ord[k]]).f5 ord).2 (out ++ [⟨(k : Int) + 1, (l[ord[k]]).f1, (l[ord[k]]).f2, (l[ord[k]]).f3, (l[ord[k]]).f4, (slotG l (l[ord[k]]).f5 ord).1⟩]) = renF l by rw [← renGo_step l f' k ord out hlt hp]; exact HT.out)
        have hx := HOK.out.1 _ (List.getElem_mem hp)
        have hlk0 := hii.look0 Try.underlying3 Try.underlying3 Try.underlying56 (zero3 _) (l[ord[k]]).f0 hx.1
        rw [hap] at hlk0
        simp only [Option.getD_some] at hlk0
        generalize ord[k] = p at hp hap y0 HT2 hx hlk0
        obtain ⟨ad, A4, c4, A5, c5, e5, x0, x1, x2, x3, x4, x5, l4, g4, l5, g5⟩ := at_T30 (Kd.C_below HC.out hbel) (p : Int) (by omega) (by omega)
        rw [rd30 hp] at x0 x1 x2 x3 x4 x5 l4 g4 l5 g5
        rw [Int.toNat_natCast] at x0 x1 x2 x3 x4 x5
        subst e5
        have o1 : (0 : Int) ≤ (p : Int) := by omega
        have o2 : (p : Int) < (l.length : Int) := by omega
        have o3 : (0 : Int) ≤ (k : Int) := by omega
        have o4 : (k : Int) < (ord.length : Int) := by omega
        generalize l[p] = y at y0 HT2 hx hlk0 x0 x1 x2 x3 x4 x5 l4 g4 l5 g5 hap
        have hy4 := hx.2.2.2.2.1.2
        have hy5 := hx.2.2.2.2.2.2
        have HY := hide hx
        have HPC := hide (fun V (hb : Below wr.heap.size wr V) => rparts_c A4 c4 y.f4 V (Kd.C_below g4 hb) l4 (by omega) (fun q hq => by have := (hx.2.2.2.2.1.1 q hq).2.2; omega))
        have HSC := hide (fun V (hb : Below wr.heap.size wr V) => clone37_c A5 y.f5.length c5 (entsC y.f5) V (entsC_len _) (ents_of_C (Kd.C_below g5 hb)) (fun u hu => by
          unfold entsC entC at hu
          obtain ⟨x, _, hu⟩ := List.mem_flatMap.1 hu
          simp only [List.mem_cons, List.not_mem_nil, or_false] at hu
          rcases hu with rfl | rfl <;> rfl) (by omega))
        have hszr := hbel.size
        clear hii hnv hway hout hx g4 g5 hap hgw hbg hpp
        have HBW := hide hbel
        clear hbel
        go_upto_region 13 with (fail)
        have hbx : Blk (wr.alloc (.cells #[.int .i64 ((k : Int) + 1), .int .i64 y.f1, .int .i64 y.f2, .int .i64 y.f3, .slice A4 y.f4.length c4, .slice A5 y.f5.length c5] 30)) wr.heap.size #[.int .i64 ((k : Int) + 1), .int .i64 y.f1, .int .i64 y.f2, .int .i64 y.f3, .slice A4 y.f4.length c4, .slice A5 y.f5.length c5] 30 := Blk.new _ _ _
        have hb3 := (Below.refl wr.heap.size wr).alloc (Nat.le_refl _) (.cells #[.int .i64 ((k : Int) + 1), .int .i64 y.f1, .int .i64 y.f2, .int .i64 y.f3, .slice A4 y.f4.length c4, .slice A5 y.f5.length c5] 30)
        have ht3 := (Tn.refl (fun _ => False) wr).alloc (.cells #[.int .i64 ((k : Int) + 1), .int .i64 y.f1, .int .i64 y.f2, .int .i64 y.f3, .slice A4 y.f4.length c4, .slice A5 y.f5.length c5] 30)
        generalize wr.alloc (.cells #[.int .i64 ((k : Int) + 1), .int .i64 y.f1, .int .i64 y.f2, .int .i64 y.f3, .slice A4 y.f4.length c4, .slice A5 y.f5.length c5] 30) = W3 at hbx hb3 ht3 ⊢
        have hbxl := hbx.lt
        have HBX := hide hbx
        have HB3 := hide hb3
        have HT3 := hide ht3
        have z4 : W3.cell? ⟨wr.heap.size, 5, none⟩ = some (.slice A5 y.f5.length c5) := hbx.cell 5
        generalize hbxe : wr.heap.size = bx at hbx hb3 ht3 hbxl HBX HB3 z4 HPC HSC hszr ⊢
        have HBXE := hide hbxe
        clear hbx hb3 ht3 y0 x0 x1 x2 x3 x4 x5 hlk0 hbxe
        go_upto_region 14 with (go_at_call 37; refine (HSC.out _ HB3.out).mono ?_; rintro e w4 ⟨v5, rfl, ho5, hb4⟩; obtain ⟨A6, c6, rfl⟩ := own_slice ho5; have HO5 := hide ho5; have HB4 := hide hb4; have HBX4 := hide (HBX.out.below hb4 hbxl); have z5 : w4.cell? ⟨bx, 5, none⟩ = some (.slice A5 y.f5.length c5) := HBX4.out.cell 5; have z6 := HBX4.out.frozen 5; clear ho5 hb4)
        have HBX5 := hide (show Blk (w4.setCell ⟨bx, 5, none⟩ (.slice A6 y.f5.length c6)) bx #[.int .i64 ((k : Int) + 1), .int .i64 y.f1, .int .i64 y.f2, .int .i64 y.f3, .slice A4 y.f4.length c4, .slice A6 y.f5.length c6] 30 from HBX4.out.set 5 _)
        have hnb5 : (Value.slice A6 y.f5.length c6).ownBlock ≠ some bx := fun e => by have := (HO5.out.lt bx e).1; omega
        have HO5' := hide (ownsRow_setCell_other HO5.out (a := ⟨bx, 5, none⟩) hnb5 (.slice A6 y.f5.length c6))
        have HB5 := hide ((HB3.out.trans (HB4.out.mono (by omega))).setCell (p := ⟨bx, 5, none⟩) (Nat.le_refl _) (.slice A6 y.f5.length c6))
        have HT5 := hide ((HT3.out.below HB4.out).set (a := ⟨bx, 5, none⟩) (.inl (Nat.le_of_eq HBXE.out)) (.slice A6 y.f5.length c6))
        have hs4 : W3.heap.size ≤ (w4.setCell ⟨bx, 5, none⟩ (.slice A6 y.f5.length c6)).heap.size := by have := HB4.out.size; simpa using this
        generalize w4.setCell ⟨bx, 5, none⟩ (.slice A6 y.f5.length c6) = W5 at HBX5 HO5' HB5 HT5 hs4 ⊢
        have z7 : W5.cell? ⟨bx, 4, none⟩ = some (.slice A4 y.f4.length c4) := HBX5.out.cell 4
        have hbx5 := HBX5.out.lt
        clear z4 z5 z6
        go_upto_region 15 with (go_at_call 38; refine (HPC.out _ HB5.out).mono ?_; rintro e w6 ⟨v4, rfl, ho6, hb6⟩; obtain ⟨A9, c9, rfl⟩ := Kd.R_slice ho6; have HO6 := hide ho6; have HB6 := hide hb6; have HBX6 := hide (HBX5.out.below hb6 hbx5); have z8 : w6.cell? ⟨bx, 4, none⟩ = some (.slice A4 y.f4.length c4) := HBX6.out.cell 4; have z9 := HBX6.out.frozen 4; clear ho6 hb6)
        have HBX7 := hide (show Blk (w6.setCell ⟨bx, 4, none⟩ (.slice A9 y.f4.length c9)) bx #[.int .i64 ((k : Int) + 1), .int .i64 y.f1, .int .i64 y.f2, .int .i64 y.f3, .slice A9 y.f4.length c9, .slice A6 y.f5.length c6] 30 from HBX6.out.set 4 _)
        have HO7 := hide (ownsRow_setCell_other (own_below HO5'.out HB6.out) (a := ⟨bx, 4, none⟩) hnb5 (.slice A9 y.f4.length c9))
        have HR7 := hide (Kd.R_far (Kd.R_bound HO6.out) (p := ⟨bx, 4, none⟩) (fun b hb => by have := hb.2.1; dsimp only; omega) (.slice A9 y.f4.length c9))
        have HB7 := hide ((HB5.out.trans (HB6.out.mono (by omega))).setCell (p := ⟨bx, 4, none⟩) (Nat.le_refl _) (.slice A9 y.f4.length c9))
        have HT7 := hide ((HT5.out.below HB6.out).set (a := ⟨bx, 4, none⟩) (.inl (Nat.le_of_eq HBXE.out)) (.slice A9 y.f4.length c9))
        have hs7 : W5.heap.size ≤ (w6.setCell ⟨bx, 4, none⟩ (.slice A9 y.f4.length c9)).heap.size := by have := HB6.out.size; simpa using this
        generalize w6.setCell ⟨bx, 4, none⟩ (.slice A9 y.f4.length c9) = W7 at HBX7 HO7 HR7 HB7 HT7 hs7 ⊢
        have z1 : W7.cell? ⟨bx, 5, none⟩ = some (.slice A6 y.f5.length c6) := HBX7.out.cell 5
        clear z7 z8 z9 hs4
        go_upto_region 16 with (fail)
        clear z1
        have hbw7 : Below wr.heap.size wr W7 := by rw [HBXE.out]; exact HB7.out
        have hbnl : bn < bx := by rw [← HBXE.out]; exact HP.out.2.1.lt
        have hown5 : ∀ b, (Value.slice A6 y.f5.length c6).ownBlock = some b → W3.heap.size ≤ b ∧ b < W7.heap.size := fun b hb => HO7.out.lt b hb
        have HI0 := hide (show RiP l w y.f5 ord bn (some ⟨gw, 0, none⟩) c7 (.slice A6 y.f5.length c6) 0 W7 W7 by
          refine ⟨HP.out.2.1.same (hbw7.block bn (by rw [HBXE.out]; exact hbnl)), own_below HP.out.2.2.1 hbw7, ?_, Tn.refl _ _, HBW.out.trans (hbw7.mono (by rw [HBXE.out]; exact hszr))⟩
          exact own_less HO7.out (by omega))
        have HII7 := hide (HP.out.1.same (hbw7.block ba HP.out.1.lt))
        have HOUT7 := hide (Kd.R_below (Kd.R_bound HP.out.2.2.2.1) hbw7)
        clear hbw7
        obtain ⟨wo, rfl⟩ : ∃ wo : World, wo = wr := ⟨_, rfl⟩
        go_loopw [7, 56] (fun v7 i W => ∃ (s : Nat) (A7 : Option Addr) (cc7 : Nat), s ≤ y.f5.length ∧ i = .int .i64 s ∧ v7 = .slice A7 (slotG l (y.f5.take s) ord).2.length cc7 ∧ Hid (RiP l w y.f5 ord bn A7 cc7 (.slice A6 y.f5.length c6) s W7 W)) (fun _ i _ => y.f5.length - (intOf i).toNat)
        case atStart => exact ⟨0, _, _, by omega, rfl, rfl, HI0⟩
        case round =>
          obtain ⟨W, rfl⟩ : ∃ W : World, W = wr := ⟨_, rfl⟩
          obtain ⟨s, A7, cc7, hs, rfl, rfl, HIN⟩ := hrel
          by_cases hsl : s < y.f5.length
          · have hst := slotG_step (l := l) (ord := ord) hsl
            have hdl : (slotG l (y.f5.take s) ord).1.length = s := by rw [slotG_len, List.length_take]; omega
            have hok' := slotG_ok (y.f5.take s) HOO.out
            obtain ⟨iv, iw, io, it, ib⟩ := HIN.out
            rw [List.drop_eq_getElem_cons hsl] at io
            have hent := (HY.out.2.2.2.2.2.1 _ (List.getElem_mem hsl))
            have HST := hide (show ∀ A cc W', (slotS l (slotG l (y.f5.take s) ord).2 y.f5[s]).2 = (slotG l (y.f5.take (s + 1)) ord).2 ∧ ((slotG l (y.f5.take s) ord).1 ++ [(slotS l (slotG l (y.f5.take s) ord).2 y.f5[s]).1] = (slotG l (y.f5.take (s + 1)) ord).1) ∧ (RiP l w y.f5 ord bn A cc (.slice A6 y.f5.length c6) (s + 1) W7 W' ↔ OwnV Try.prog 3 W' bn (numV l (slotS l (slotG l (y.f5.take s) ord).2 y.f5[s]).2) (slotS l (slotG l (y.f5.take s) ord).2 y.f5[s]).2.length ∧ W'.ownsRow w.heap.size 3 1 (.slice A (slotS l (slotG l (y.f5.take s) ord).2 y.f5[s]).2.length cc) (slotS l (slotG l (y.f5.take s) ord).2 y.f5[s]).2.length (wayL l (slotS l (slotG l (y.f5.take s) ord).2 y.f5[s]).2) ∧
              W'.ownsRow w.heap.size 32 2 (.slice A6 y.f5.length c6) y.f5.length (entsC ((slotG l (y.f5.take s) ord).1 ++ (slotS l (slotG l (y.f5.take s) ord).2 y.f5[s]).1 :: y.f5.drop (s + 1))) ∧ Tn (fun b => b = bn ∨ some b = (Value.slice A6 y.f5.length c6).ownBlock) W7 W' ∧ Below w.heap.size w W') from fun A cc W' => by
              unfold RiP
              rw [hst]
              refine ⟨rfl, rfl, ?_⟩
              dsimp only
              rw [List.append_assoc, List.singleton_append])
            clear hst
            generalize (slotG l (y.f5.take s) ord).1 = done at hdl io HST
            generalize (slotG l (y.f5.take s) ord).2 = ords at hok' iv iw HST ⊢
            generalize y.f5[s] = e at io hent HST
            have holn := hok'.len
            obtain ⟨gs, cap, hv, hbg, hgs⟩ := io.form (by omega)
            injection hv with hA6 _ hc6
            subst hA6 hc6
            have HE := hide (ent_here (done := done) (rest := y.f5.drop (s + 1)) (e := e) hdl)
            have a0 : W.cell? ⟨gs, s * 2, none⟩ = some (.int .i64 e.f0) := by rw [io.cellAt (s * 2) (by omega), entsC_append]; exact HE.out.1
            have a1 : W.cell? ⟨gs, s * 2 + 1, none⟩ = some (.string e.f1) := by rw [io.cellAt (s * 2 + 1) (by omega), entsC_append]; exact HE.out.2
            have q1 : (0 : Int) ≤ (s : Int) := by omega
            have q2 : (s : Int) < (y.f5.length : Int) := by omega
            have HIO := hide io
            have HIT := hide it
            have HIB := hide ib
            have HIV := hide iv
            have HIW := hide iw
            have HENT := hide hent
            have HOK2 := hide hok'
            clear io it ib iv iw HIN hok' hent HE
            go_upto_region 18 with (fail)
            have hx12 : Blk (W.alloc (.cells #[.int .i64 e.f0, .string e.f1] 32)) W.heap.size #[.int .i64 e.f0, .string e.f1] 32 := Blk.new _ _ _
            have hbA := (Below.refl W.heap.size W).alloc (Nat.le_refl _) (.cells #[.int .i64 e.f0, .string e.f1] 32)
            generalize W.alloc (.cells #[.int .i64 e.f0, .string e.f1] 32) = Wa at hx12 hbA ⊢
            have HX12 := hide hx12
            have HIOa := hide (own_below HIO.out hbA)
            have HITa := hide (HIT.out.below hbA)
            have HIBa := hide (HIB.out.trans (hbA.mono HIB.out.size))
            have HIVa := hide (HIV.out.below hbA HIV.out.lt)
            have HIWa := hide (own_below HIW.out hbA)
            have hWs : W.heap.size < Wa.heap.size := hx12.lt
            have hbxa : Blk Wa bx #[.int .i64 ((k : Int) + 1), .int .i64 y.f1, .int .i64 y.f2, .int .i64 y.f3, .slice A9 y.f4.length c9, .slice (some ⟨gs, 0, none⟩) y.f5.length c6] 30 := HITa.out.blk HBX7.out (fun h => by
              rcases h with h | h
              · omega
              · have := hown5 bx h.symm; omega) (by decide)
            have hgsb := hown5 gs rfl
            have hiia : OwnII Try.prog 3 3 Wa ba m (atF l) := HITa.out.ii HII7.out (fun h => by
              rcases h with h | h
              · exact hne h
              · obtain ⟨es, ck, eo⟩ := HII7.out.obj
                have e2 : ba = gs := Option.some.inj h
                obtain ⟨cells, hc⟩ := own_typed HO7.out gs rfl
                rw [e2, hc] at eo
                cases eo)
            have hwf := HENT.out.1
            have hlkA := hiia.look Try.underlying3 Try.underlying3 Try.underlying56 (zero3 _) e.f0 hwf
            have hgW : gs < W.heap.size := by have := HIT.out.1; omega
            generalize hb12 : W.heap.size = b12 at HX12 hx12 hbA hWs hgW ⊢
            have hb12n : bx < b12 ∧ bn < b12 := by have := HIT.out.1; have := HBX7.out.lt; rw [← hb12]; omega
            have t0 : Wa.cell? ⟨b12, 0, none⟩ = some (.int .i64 e.f0) := HX12.out.cell 0
            have HBXA := hide hbxa
            have HIIA := hide hiia
            clear a0 a1 hx12 hbA hb12 hgs hbxa hiia
            cases ht : targ l e with
            | none =>
              have HSS := hide (show slotS l ords e = (z32, ords) by unfold slotS; rw [ht])
              have z1 : Wa.cell? ⟨bx, 5, none⟩ = some (.slice (some ⟨gs, 0, none⟩) y.f5.length c6) := HBXA.out.cell 5
              have a0 : Wa.cell? ⟨gs, s * 2, none⟩ = some (.int .i64 e.f0) := by rw [HIOa.out.cellAt (s * 2) (by omega), entsC_append]; exact (ent_here hdl).1
              have a1 : Wa.cell? ⟨gs, s * 2 + 1, none⟩ = some (.string e.f1) := by rw [HIOa.out.cellAt (s * 2 + 1) (by omega), entsC_append]; exact (ent_here hdl).2
              have f0 := HIOa.out.frozenAt (s * 2)
              have f1 := HIOa.out.frozenAt (s * 2 + 1)
              have hz : e.f0 = 0 ∨ (e.f0 ≠ 0 ∧ atF l e.f0 = none) := by
                unfold targ at ht
                by_cases h0 : e.f0 = 0
                · exact .inl h0
                · rw [if_neg h0] at ht
                  exact .inr ⟨h0, by cases hh : atF l e.f0 with
                    | none => rfl
                    | some c => rw [hh] at ht; cases ht⟩
              clear ht
              rcases hz with hz | ⟨h0, hz⟩
              · have e1 : (e.f0 == 0) = true := by simpa using hz
                generalize (atF l e.f0).isSome = okb at hlkA
                generalize (atF l e.f0).getD 0 = nb at hlkA
                clear hz
                go_upto_region 25 with (fail)
                have hwn := own_ne HIWa.out HIOa.out (by decide)
                have HN1 := hide (show RiP l w y.f5 ord bn A7 cc7 (.slice (some ⟨gs, 0, none⟩) y.f5.length c6) (s + 1) W7 ((Wa.setCell ⟨gs, s * 2, none⟩ (.int .i64 0)).setCell ⟨gs, s * 2 + 1, none⟩ (.string ⟨#[]⟩)) by
                  refine (HST.out A7 cc7 _).2.2.2 ?_
                  rw [HSS.out]
                  refine ⟨(HIVa.out.setCell (by dsimp only; omega) _).setCell (by dsimp only; omega) _, ownsRow_setCell_other (ownsRow_setCell_other HIWa.out hwn _) hwn _, ?_, (HITa.out.set (a := ⟨gs, s * 2, none⟩) (.inr (.inr rfl)) _).set (a := ⟨gs, s * 2 + 1, none⟩) (.inr (.inr rfl)) _, (HIBa.out.setCell (p := ⟨gs, s * 2, none⟩) hbg _).setCell (p := ⟨gs, s * 2 + 1, none⟩) hbg _⟩
                  rw [← set_pair (e := e) (x := z32) hdl]
                  exact ((HIOa.out.stored (s * 2) (.int .i64 0)).1.stored (s * 2 + 1) (.string ⟨#[]⟩)).1)
                have HL1 := hide (show ords = (slotG l (y.f5.take (s + 1)) ord).2 by rw [← (HST.out A7 cc7 Wa).1, HSS.out])
                clear z1 a0 a1 f0 f1 t0 hlkA hwn
                generalize (Wa.setCell ⟨gs, s * 2, none⟩ (.int .i64 0)).setCell ⟨gs, s * 2 + 1, none⟩ (.string ⟨#[]⟩) = Wz at HN1 ⊢
                go_wp2
                go_roundw
                case rel => exact ⟨s + 1, A7, cc7, by omega, by go_num, by rw [← HL1.out], HN1⟩
                case measure => simp [intOf]; omega
              · have e1 : (e.f0 == 0) = false := by simpa using h0
                rw [hz] at hlkA
                simp only [Option.getD_none, Option.isSome_none] at hlkA
                clear hz h0
                go_upto_region 25 with (fail)
                have hwn := own_ne HIWa.out HIOa.out (by decide)
                have HN1 := hide (show RiP l w y.f5 ord bn A7 cc7 (.slice (some ⟨gs, 0, none⟩) y.f5.length c6) (s + 1) W7 ((Wa.setCell ⟨gs, s * 2, none⟩ (.int .i64 0)).setCell ⟨gs, s * 2 + 1, none⟩ (.string ⟨#[]⟩)) by
                  refine (HST.out A7 cc7 _).2.2.2 ?_
                  rw [HSS.out]
                  refine ⟨(HIVa.out.setCell (by dsimp only; omega) _).setCell (by dsimp only; omega) _, ownsRow_setCell_other (ownsRow_setCell_other HIWa.out hwn _) hwn _, ?_, (HITa.out.set (a := ⟨gs, s * 2, none⟩) (.inr (.inr rfl)) _).set (a := ⟨gs, s * 2 + 1, none⟩) (.inr (.inr rfl)) _, (HIBa.out.setCell (p := ⟨gs, s * 2, none⟩) hbg _).setCell (p := ⟨gs, s * 2 + 1, none⟩) hbg _⟩
                  rw [← set_pair (e := e) (x := z32) hdl]
                  exact ((HIOa.out.stored (s * 2) (.int .i64 0)).1.stored (s * 2 + 1) (.string ⟨#[]⟩)).1)
                have HL1 := hide (show ords = (slotG l (y.f5.take (s + 1)) ord).2 by rw [← (HST.out A7 cc7 Wa).1, HSS.out])
                clear z1 a0 a1 f0 f1 t0 hlkA hwn
                generalize (Wa.setCell ⟨gs, s * 2, none⟩ (.int .i64 0)).setCell ⟨gs, s * 2 + 1, none⟩ (.string ⟨#[]⟩) = Wz at HN1 ⊢
                go_wp2
                go_roundw
                case rel => exact ⟨s + 1, A7, cc7, by omega, by go_num, by rw [← HL1.out], HN1⟩
                case measure => simp [intOf]; omega
            | some p1 =>
              obtain ⟨hp1, hf1, ha1, h0⟩ := targ_some ht
              have e1 : (e.f0 == 0) = false := by simpa using h0
              rw [ha1] at hlkA
              simp only [Option.getD_some, Option.isSome_some] at hlkA
              have hnz := numF_zero (ord := ords) ht
              have hlkN := HIVa.out.look0 Try.underlying3 Try.underlying56 (zero3 _) e.f0 hwf
              by_cases hm : p1 ∈ ords
              · have HSS := hide (show slotS l ords e = (⟨(ords.idxOf p1 : Int) + 1, e.f1⟩, ords) by unfold slotS; rw [ht]; simp only []; rw [if_pos hm])
                rw [if_pos hm] at hnz
                have hlkN2 : (Instr.lookup 56 (.map (some bn)) (.int .i64 e.f0) false).run Try.prog Wa = .ok (.int .i64 ((ords.idxOf p1 : Int) + 1)) Wa := by rw [hlkN]; unfold numV; rw [hnz]; rfl
                have hidx : ords.idxOf p1 < ords.length := List.idxOf_lt_length_of_mem hm
                clear hlkN hnz ht ha1 hf1 h0 hm
                generalize ords.idxOf p1 = ix at HSS hlkN2 hidx
                have e2 : (((ix : Int) + 1) == 0) = false := by rw [beq_eq_false_iff_ne]; omega
                have z1 : Wa.cell? ⟨bx, 5, none⟩ = some (.slice (some ⟨gs, 0, none⟩) y.f5.length c6) := HBXA.out.cell 5
                have a0 : Wa.cell? ⟨gs, s * 2, none⟩ = some (.int .i64 e.f0) := by rw [HIOa.out.cellAt (s * 2) (by omega), entsC_append]; exact (ent_here hdl).1
                have f0 := HIOa.out.frozenAt (s * 2)
                go_upto_region 25 with (fail)
                have hwn := own_ne HIWa.out HIOa.out (by decide)
                have HN1 := hide (show RiP l w y.f5 ord bn A7 cc7 (.slice (some ⟨gs, 0, none⟩) y.f5.length c6) (s + 1) W7 (Wa.setCell ⟨gs, s * 2, none⟩ (.int .i64 ((ix : Int) + 1))) by
                  refine (HST.out A7 cc7 _).2.2.2 ?_
                  rw [HSS.out]
                  refine ⟨HIVa.out.setCell (by dsimp only; omega) _, ownsRow_setCell_other HIWa.out hwn _, ?_, HITa.out.set (a := ⟨gs, s * 2, none⟩) (.inr (.inr rfl)) _, HIBa.out.setCell (p := ⟨gs, s * 2, none⟩) hbg _⟩
                  rw [← set_ino (e := e) hdl]
                  exact (HIOa.out.stored (s * 2) _).1)
                have HL1 := hide (show ords = (slotG l (y.f5.take (s + 1)) ord).2 by rw [← (HST.out A7 cc7 Wa).1, HSS.out])
                clear z1 a0 f0 t0 hlkA hwn hlkN2 e2
                generalize Wa.setCell ⟨gs, s * 2, none⟩ (.int .i64 ((ix : Int) + 1)) = Wz at HN1 ⊢
                go_wp2
                go_roundw
                case rel => exact ⟨s + 1, A7, cc7, by omega, by go_num, by rw [← HL1.out], HN1⟩
                case measure => simp [intOf]; omega
              · have HSS := hide (show slotS l ords e = (⟨((ords.length + 1 : Nat) : Int), e.f1⟩, ords ++ [p1]) by unfold slotS; rw [ht]; simp only []; rw [if_neg hm]; rfl)
                have HNP := hide (show numV l (ords ++ [p1]) = fun x => if x = e.f0 then some (.int .i64 ((ords.length + 1 : Nat) : Int)) else numV l ords x by
                  have := numF_push HOK2.out hp1 (by rw [hf1]; exact ha1) hm
                  funext x
                  unfold numV
                  rw [this, hf1]
                  dsimp only
                  split <;> rfl)
                have HWP := hide (show wayL l ords ++ [.int .i64 e.f0] = wayL l (ords ++ [p1]) by rw [← wayL_push hp1, hf1])
                rw [if_neg hm] at hnz
                have HNN := hide (show numV l ords e.f0 = none by unfold numV; rw [hnz]; rfl)
                have hlkN2 : (Instr.lookup 56 (.map (some bn)) (.int .i64 e.f0) false).run Try.prog Wa = .ok (.int .i64 0) Wa := by rw [hlkN, HNN.out]; rfl
                have HLEN := hide ((HOK2.out.push hp1 (by rw [hf1]; exact ha1) hm).len)
                clear hlkN hnz ht ha1 hf1 h0 hm
                obtain ⟨i0, hi, hz0, hz1, hz2⟩ := info_parts info3p
                go_upto_region 23 with (at_builtin; go_must (refine wpList_append_own _ rfl _ _ 52 rfl w.heap.size 3 i0 (.int .i64 0) 1 8 Try.underlying52 hi hz0 hz1 hz2 rfl (by decide) _ _ _ rfl (HIWa.out.alloc _) ⟨Wa.heap.size, 0, none⟩ 1 1 [.int .i64 e.f0] rfl rfl (cell_one_new _ _ _) (by simp [Value.oneCell']) (by unfold maxLen; omega) (by omega) (by have := HIBa.out.size; simp; omega) ?_); intro v8 w8 hown8 hg8 _; have HO8 := hide hown8; have HG8 := hide hg8; obtain ⟨A8', c8', rfl⟩ := own_slice hown8; clear hown8 hg8)
                have HT8 := hide (((Tn.refl (fun _ => False) Wa).alloc _).row (HIWa.out.alloc _) HG8.out)
                have HX8 := hide (HT8.out.blk HX12.out (fun h => h) (by decide))
                have HV8 := hide (HT8.out.v HIVa.out (fun h => h))
                have HB8 := hide ((HIBa.out.alloc HIBa.out.size _).grown HG8.out (by have := HIBa.out.size; simp; omega) (fun b hb => (HIWa.out.lt b hb).1))
                have t8 : w8.cell? ⟨b12, 0, none⟩ = some (.int .i64 e.f0) := HX8.out.cell 0
                rw [HWP.out] at HO8
                clear t0 hi hz0 hz1 hz2
                go_upto_region 24 with (with_reducible refine wpList_putV rfl _ _ _ 56 (.inl rfl) 3 3 Try.underlying3 Try.underlying56 _ _ _ rfl HV8.out (by unfold maxLen; omega) e.f0 (.int .i64 ((ords.length + 1 : Nat) : Int)) rfl rfl hwf ?_; intro w9 hown9 hg9; have HV9 := hide hown9; have HG9 := hide hg9; clear hown9 hg9)
                rw [HNN.out, ← HNP.out] at HV9
                have HT9 := hide ((HITa.out.trans HT8.out (fun _ _ h => h.elim)).grown HG9.out (.inl rfl))
                have HX9 := hide (HX8.out.kept HG9.out (by intro h; injection h with h; omega))
                have hbx9 : Blk w9 bx #[.int .i64 ((k : Int) + 1), .int .i64 y.f1, .int .i64 y.f2, .int .i64 y.f3, .slice A9 y.f4.length c9, .slice (some ⟨gs, 0, none⟩) y.f5.length c6] 30 := HT9.out.blk HBX7.out (fun h => by
                  rcases h with h | h
                  · omega
                  · have := hown5 bx h.symm; omega) (by decide)
                have HO9 := hide (HO8.out.kept HG9.out (.inr (fun h => by
                  obtain ⟨cells, hc⟩ := own_typed HO8.out bn h
                  obtain ⟨es, ck, eo⟩ := HV8.out.obj
                  rw [eo] at hc; cases hc)))
                have HS9 := hide ((HT8.out.own HIOa.out (by decide) (fun _ _ h => h)).kept HG9.out (.inr (fun h => by
                  have : gs = bn := Option.some.inj h
                  omega)))
                have HB9 := hide (HB8.out.grown HG9.out HB8.out.size (fun b hb => by cases hb; exact hbb))
                have hlk9 := HV9.out.look0 Try.underlying3 Try.underlying56 (zero3 _) e.f0 hwf
                rw [HNP.out] at hlk9
                simp only [if_true, Option.getD_some] at hlk9
                have t9 : w9.cell? ⟨b12, 0, none⟩ = some (.int .i64 e.f0) := HX9.out.cell 0
                have z1 : w9.cell? ⟨bx, 5, none⟩ = some (.slice (some ⟨gs, 0, none⟩) y.f5.length c6) := hbx9.cell 5
                have a0 : w9.cell? ⟨gs, s * 2, none⟩ = some (.int .i64 e.f0) := by rw [HS9.out.cellAt (s * 2) (by omega), entsC_append]; exact (ent_here hdl).1
                have f0 := HS9.out.frozenAt (s * 2)
                clear t8 hbx9
                go_upto_region 25 with (fail)
                have hwn := own_ne HO9.out HS9.out (by decide)
                have HN1 := hide (show RiP l w y.f5 ord bn A8' c8' (.slice (some ⟨gs, 0, none⟩) y.f5.length c6) (s + 1) W7 (w9.setCell ⟨gs, s * 2, none⟩ (.int .i64 ((ords.length : Int) + 1))) by
                  refine (HST.out A8' c8' _).2.2.2 ?_
                  rw [HSS.out]
                  dsimp only
                  rw [List.length_append, List.length_singleton]
                  refine ⟨HV9.out.setCell (by dsimp only; omega) _, ownsRow_setCell_other HO9.out hwn _, ?_, HT9.out.set (a := ⟨gs, s * 2, none⟩) (.inr (.inr rfl)) _, HB9.out.setCell (p := ⟨gs, s * 2, none⟩) hbg _⟩
                  rw [← set_ino (e := e) hdl]
                  exact (HS9.out.stored (s * 2) _).1)
                have HL1 := hide (show ords ++ [p1] = (slotG l (y.f5.take (s + 1)) ord).2 by rw [← (HST.out A7 cc7 Wa).1, HSS.out])
                clear z1 a0 f0 hlkA hwn hlkN2 t9 hlk9
                generalize w9.setCell ⟨gs, s * 2, none⟩ (.int .i64 ((ords.length : Int) + 1)) = Wz at HN1 ⊢
                go_wp2
                go_roundw
                case rel => exact ⟨s + 1, A8', c8', by omega, by go_num, by rw [← HL1.out, List.length_append, List.length_singleton], HN1⟩
                case measure => simp [intOf]; omega
          · have hsn : s = y.f5.length := by omega
            obtain ⟨iv, iw, io, it, ib⟩ := HIN.out
            rw [hsn, List.take_length] at iv iw io
            rw [List.drop_length, List.append_nil] at io
            have HOK3 := hide (slotG_ok y.f5 HOO.out)
            have hge : (y.f5.length : Int) ≤ (s : Int) := by omega
            rw [hsn, List.take_length] 
            have hbxw : Blk W bx #[.int .i64 ((k : Int) + 1), .int .i64 y.f1, .int .i64 y.f2, .int .i64 y.f3, .slice A9 y.f4.length c9, .slice A6 y.f5.length c6] 30 := it.blk HBX7.out (fun h => by
              rcases h with h | h
              · omega
              · have := hown5 bx h.symm; omega) (by decide)
            have hgsb : ∀ b, (Value.slice A6 y.f5.length c6).ownBlock = some b → W3.heap.size ≤ b := fun b hb => (hown5 b hb).1
            have hr35 := it.R HR7.out (by decide) (fun b q hq hc hok h => by
              rcases h with h | h
              · subst h
                obtain ⟨c', hc⟩ := hc
                obtain ⟨es, ck, eo⟩ := HI0.out.1.obj
                rw [eo] at hc; cases hc
              · obtain ⟨c', hc⟩ := hc
                obtain ⟨cells, hc2⟩ := own_typed HO7.out b h.symm
                rw [hc2] at hc
                injection hc with hc
                injection hc with _ hc _
                rw [← hc] at hq
                revert hq
                decide)
            have hr30 := it.R HOUT7.out (by decide) (fun b q hq hc hok h => by
              rcases h with h | h
              · subst h
                obtain ⟨c', hc⟩ := hc
                obtain ⟨es, ck, eo⟩ := HI0.out.1.obj
                rw [eo] at hc; cases hc
              · have := hgsb b h.symm
                have := hok.2.2.1
                rw [HBXE.out] at this
                omega)
            have hv8 : ∀ b, (Value.slice A8 out.length c8).ownBlock = some b → b < bx := fun b hb => by
              obtain ⟨inner, hi⟩ := R_own HP.out.2.2.2.1
              have := (hi.lt b hb).2
              rw [← HBXE.out]; exact this
            have hM := hide (k30_mkM W w.heap.size (fun b => bx < b) (⟨(k : Int) + 1, y.f1, y.f2, y.f3, y.f4, (slotG l y.f5 ord).1⟩ : S30) (v4 := .slice A9 y.f4.length c9) (v5 := .slice A6 y.f5.length c6)
              (Kd.R_mono (Kd.R_lower hr35 (by omega)) (fun b hb => by have := hb.1.2.1; omega))
              ⟨fun b hb => by have := hgsb b hb; omega, _, by rw [slotG_len]; exact io, by have := entsC_reps W w.heap.size (fun b => bx < b ∧ some b ≠ (Value.slice A6 y.f5.length c6).ownBlock) (slotG l y.f5 ord).1; exact this⟩)
            have HR30 := hide (Kd.R_mono hr30 (fun b _ => trivial) : Kd.R k30 30 W w.heap.size (fun _ => True) (.slice A8 out.length c8) out)
            have HBXW := hide hbxw
            have HIT := hide it
            have HIB := hide ib
            have HIV := hide iv
            have HIW := hide iw
            have hlk := HLK.out
            have hkl : (out.length + 1) * 80 ≤ 140737488355328 := by omega
            have w0 : W.cell? ⟨bx, 0, none⟩ = some (.int .i64 ((k : Int) + 1)) := hbxw.cell 0
            have w1' : W.cell? ⟨bx, 1, none⟩ = some (.int .i64 y.f1) := hbxw.cell 1
            have w2' : W.cell? ⟨bx, 2, none⟩ = some (.int .i64 y.f2) := hbxw.cell 2
            have w3' : W.cell? ⟨bx, 3, none⟩ = some (.int .i64 y.f3) := hbxw.cell 3
            have w4' : W.cell? ⟨bx, 4, none⟩ = some (.slice A9 y.f4.length c9) := hbxw.cell 4
            have w5' : W.cell? ⟨bx, 5, none⟩ = some (.slice A6 y.f5.length c6) := hbxw.cell 5
            have HHV8 := hide hv8
            have HHK := hide hlk
            clear it ib iv iw io hbxw hr35 hr30 hgsb hown5 hv8 hlk HIN hsl hs hsn
            have hmo : ord.length ≤ (slotG l y.f5 ord).2.length := by obtain ⟨more, hm⟩ := slotG_mono l y.f5 ord; rw [hm, List.length_append]; omega
            generalize (slotG l y.f5 ord).2 = ord2 at hmo HIV HIW HOK3 HT2 ⊢
            generalize (slotG l y.f5 ord).1 = sl2 at hM HT2
            go_upto_region 10 with (at_builtin; refine Kd.R_append k30 (w0 := w) w.heap.size rfl (.tmp 105) (.tmp 107) 22 30 (.agg #[(.int .i64 0), (.int .i64 0), (.int .i64 0), (.int .i64 0), (.slice none 0 0), (.slice none 0 0)]) 80 rfl Try.underlying22 info30 rfl (by decide) (by omega) (.slice A8 out.length c8) out (⟨(k : Int) + 1, y.f1, y.f2, y.f3, y.f4, sl2⟩ : S30) [.int .i64 ((k : Int) + 1), .int .i64 y.f1, .int .i64 y.f2, .int .i64 y.f3, .slice A9 y.f4.length c9, .slice A6 y.f5.length c6] (fun _ => True) (fun b => bx < b) rfl rfl hM.out (fun b hb => ⟨trivial, fun e => by have := HHV8.out b e.symm; omega⟩) (fun _ _ => trivial) HR30.out HIB.out HIB.out.size hkl ?_; intro v1 w1 ho hb hg hat; have HRO := hide ho; have HRB := hide hb; have HRG := hide hg; obtain ⟨A1n, c1n, rfl⟩ := Kd.R_slice ho; clear ho hb hg hat)
            have hr8 : ∀ b, some b = (Value.slice A8 out.length c8).ownBlock → ∃ cells, W.heap[b]? = some (.cells cells 30 (0, 0)) := fun b hb => by
              obtain ⟨inner, hi⟩ := R_own HR30.out
              exact own_typed hi b hb.symm
            have HPN := hide (show RnP l w ba m bn ord2 (.slice A7 ord2.length cc7) (.slice A1n (out ++ [(⟨(k : Int) + 1, y.f1, y.f2, y.f3, y.f4, sl2⟩ : S30)]).length c1n) (out ++ [(⟨(k : Int) + 1, y.f1, y.f2, y.f3, y.f4, sl2⟩ : S30)]) w1 from by
              have hi2 := HIT.out.ii HII7.out (fun h => by
                rcases h with h | h
                · exact hne h
                · obtain ⟨es, ck, eo⟩ := HII7.out.obj
                  obtain ⟨cells, hc⟩ := own_typed HO7.out ba h.symm
                  rw [hc] at eo
                  cases eo)
              refine ⟨hi2.kept HRG.out (fun h => ?_), HIV.out.kept HRG.out (fun h => ?_), HIW.out.kept HRG.out (.inr fun h => ?_), HRO.out, HRB.out, hne, hbb⟩
              · obtain ⟨cells, hc⟩ := hr8 ba h
                obtain ⟨es, ck, eo⟩ := hi2.obj
                rw [hc] at eo; cases eo
              · obtain ⟨cells, hc⟩ := hr8 bn h
                obtain ⟨es, ck, eo⟩ := HIV.out.obj
                rw [hc] at eo; cases eo
              · cases hA : (Value.slice A8 out.length c8).ownBlock with
                | none =>
                  rw [hA] at h
                  have h7 := HIW.out.2
                  rcases h7 with ⟨h7, h8⟩ | ⟨g7, _, _, h7, _⟩
                  · omega
                  · injection h7 with h7 _ _
                    subst h7
                    cases h
                | some b =>
                  rw [hA] at h
                  obtain ⟨cells, hc⟩ := hr8 b hA.symm
                  obtain ⟨cells2, hc2⟩ := own_typed HIW.out b h
                  rw [hc] at hc2
                  injection hc2 with hc2
                  injection hc2 with _ hc2 _
                  cases hc2)
            have HLN := hide (show (out ++ [(⟨(k : Int) + 1, y.f1, y.f2, y.f3, y.f4, sl2⟩ : S30)]).length = k + 1 by rw [List.length_append, HHK.out]; rfl)
            have hfu := HFU.out
            clear w0 w1' w2' w3' w4' w5' hr8
            go_wp2
            go_roundw
            case rel => exact ⟨k + 1, ord2, _, f', A7, cc7, A1n, c1n, by omega, by go_num, rfl, by first | rfl | simp, HLN, HT2, hide (by omega), HOK3, HPN⟩
            case measure => simp [intOf]; omega
      · have HR := hide (show out = renF l by rw [← HT.out, renGo_end l f k ord out (by omega)])
        have hge : (ord.length : Int) ≤ (k : Int) := by omega
        go_wp2
        go_ret
        refine ⟨_, rfl, ?_, HP.out.2.2.2.2.1⟩
        rw [← HR.out]
        exact HP.out.2.2.2.1
end Go.Proofs.Ytnmlmbbacicojaa
