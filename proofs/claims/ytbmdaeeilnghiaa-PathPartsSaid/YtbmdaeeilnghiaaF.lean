/-
  Plain laws of the document's own Name, Split, Join and of the comparison of two lists: what their printed forms answer. Condition of Split: none; of Join: what it makes is short.
-/
import Derived.Test.YtbmdaeeilnghiaaC
import Derived.Test.YtbmdaeeilnghiaaPPathJoinsx
namespace Go.Proofs.Ytbmdaeeilnghiaa
set_option linter.unusedVariables false
set_option linter.unusedSimpArgs false
open Go.RowKit Go.Proofs.YtbmdaeeilnghiaaW.PrintWords Go.Proofs.Ytbmdaeeilnghiaa.PPathJoins

theorem bt_at (s : ByteArray) (i : Nat) (c : UInt8) (h : s.data.toList[i]? = some c) : bt s (i : Int) = (c.toNat : Int) := by
  obtain ⟨hi, hc⟩ := List.getElem?_eq_some_iff.1 h
  have hi' : i < s.size := by rw [size_toList]; exact hi
  unfold bt
  rw [dif_pos (by simpa using hi')]
  congr 2
theorem wrap_succ (i : Nat) (h : i ≤ 4611686018427387904) : wrap64 ((i : Int) + 1) = ((i + 1 : Nat) : Int) := by unfold wrap64; omega
/-- what Name's loop answers from place i on -/
def nameF (l : Bytes8) (i : Nat) : Bool := if (l.drop i).contains 0 || (l.drop i).contains 47 then false else !l.isEmpty && decide (l.length ≤ 27)
theorem nameF_zero (l : Bytes8) : nameF l 0 = nameL l := by
  unfold nameF nameL
  rw [List.drop_zero]
  cases l.contains 0 <;> cases l.contains 47 <;> simp
theorem name_ev (s : ByteArray) (hs : s.size ≤ 4611686018427387904) (d : Nat) : ∀ i : Nat, i + d = s.size → Ev (fun k => lockgateref1_Name.l0 k s (i : Int)) (nameF s.data.toList i) := by
  induction d with
  | zero =>
    intro i hi
    refine Ev.step (f := fun _ => some (nameF s.data.toList i)) (fun k => ?_) (Ev.now _)
    simp only [lockgateref1_Name.l0]
    rw [if_neg (by omega)]
    have hd : s.data.toList.drop i = [] := List.drop_eq_nil_of_le (by rw [← size_toList]; omega)
    unfold nameF
    rw [hd, ByteArray.toList_eq]
    by_cases e : s.data.toList = []
    · rw [if_pos e, e]; rfl
    · rw [if_neg e, size_toList]
      have : s.data.toList.isEmpty = false := by simpa using e
      rw [this]; simp; omega
  | succ d ih =>
    intro i hi
    have hlt : i < s.data.toList.length := by rw [← size_toList]; omega
    obtain ⟨c, hc⟩ : ∃ c, s.data.toList[i]? = some c := ⟨_, List.getElem?_eq_getElem hlt⟩
    have hd : s.data.toList.drop i = c :: s.data.toList.drop (i + 1) := by
      rw [List.drop_eq_getElem_cons hlt]
      congr 1
      rw [List.getElem?_eq_getElem hlt] at hc; injection hc
    have hb := bt_at s i c hc
    by_cases c0 : c = 0
    · subst c0
      refine Ev.step (f := fun _ => some (nameF s.data.toList i)) (fun k => ?_) (Ev.now _)
      simp only [lockgateref1_Name.l0]
      rw [if_pos (by omega), if_pos (by omega), hb, if_pos (by rfl)]
      unfold nameF; rw [hd]; simp
    · by_cases c47 : c = 47
      · subst c47
        refine Ev.step (f := fun _ => some (nameF s.data.toList i)) (fun k => ?_) (Ev.now _)
        simp only [lockgateref1_Name.l0]
        rw [if_pos (by omega), if_pos (by omega), hb, if_neg (by decide), if_pos (by rfl)]
        unfold nameF; rw [hd]; simp
      · have e0 : ¬ ((c.toNat : Int) = 0) := fun h => c0 (by apply UInt8.toNat_inj.1; simpa using h)
        have e47 : ¬ ((c.toNat : Int) = 47) := fun h => c47 (by apply UInt8.toNat_inj.1; simpa using (by omega : c.toNat = 47))
        have hn : nameF s.data.toList i = nameF s.data.toList (i + 1) := by
          unfold nameF; rw [hd]; simp [c0, c47, Ne.symm c0, Ne.symm c47]
        rw [hn]
        refine Ev.step (f := fun k => lockgateref1_Name.l0 k s ((i + 1 : Nat) : Int)) (fun k => ?_) (ih (i + 1) (by omega))
        simp only [lockgateref1_Name.l0]
        rw [if_pos (by omega), if_pos (by omega), hb, if_neg e0, if_neg e47, wrap_succ i (by omega)]
theorem nameR (s : ByteArray) (hs : s.size ≤ 4611686018427387904) : Ev (fun k => lockgateref1_Name.f k s) (nameL s.data.toList) := by
  have := name_ev s hs s.size 0 (by omega)
  rw [nameF_zero] at this
  exact this
/-- what Split's loop answers from place i on, a part begun at from -/
def splitF (l : Bytes8) (out : List ByteArray) (fr : Nat) : List ByteArray × Bool :=
  if (partsL (l.drop fr)).all okP then (out ++ (partsL (l.drop fr)).map bs, true) else ([], false)
theorem okP_split (p : Bytes8) : okP p = true ↔ nameL p = true ∧ p ≠ [46] ∧ p ≠ [46, 46] := by simp [okP, and_assoc]
theorem split_end (s : ByteArray) (hs : s.size ≤ 500) (out : List ByteArray) (fr i : Nat) (p : Bytes8) (r : List ByteArray × Bool) (hfi : fr ≤ i) (hi : i ≤ s.size) (ho : out.length ≤ 500)
    (hp : (s.data.toList.drop fr).take (i - fr) = p)
    (hbad : okP p = false → r = ([], false)) (hgood : okP p = true → Ev (fun k => lockgateref1_Split.l0 k s (out ++ [bs p]) ((i + 1 : Nat) : Int) ((i + 1 : Nat) : Int)) r) :
    Ev (fun k => lockgateref1_Split.j2 k s out (fr : Int) (i : Int) false) r := by
  have hex : s.extract ((fr : Int)).toNat ((i : Int)).toNat = bs p := by
    apply ba_ext; rw [Lib.extract_data, bs_data]; simpa using hp
  have hN := nameR (bs p) (by rw [bs_size, ← hp, List.length_take]; omega)
  rw [bs_data] at hN
  have hlen : ¬ ¬ (out.length < 8796093022208) := by omega
  refine Ev.step (f := fun k => (lockgateref1_Name.f k (bs p)).bind fun t104 => (if t104 = true then (if (bs p).toList = ([46] : List UInt8) then (some (([] : List ByteArray), false)) else (if (bs p).toList = ([46, 46] : List UInt8) then (some (([] : List ByteArray), false)) else (lockgateref1_Split.l0 k s (out ++ [bs p]) ((i + 1 : Nat) : Int) ((i + 1 : Nat) : Int)))) else (some (([] : List ByteArray), false)))) (fun k => ?_) ?_
  · simp only [lockgateref1_Split.j2]
    rw [if_neg (by simp), if_pos (by omega), if_pos (by omega), if_pos (by omega), hex, wrap_succ i (by omega), if_pos (show out.length < 8796093022208 by omega)]
  · refine Ev.bind hN ?_
    rw [ByteArray.toList_eq, bs_data]
    by_cases e : okP p = true
    · obtain ⟨e1, e2, e3⟩ := (okP_split p).1 e
      refine Ev.congr (fun k => ?_) (hgood e)
      rw [if_pos e1, if_neg e2, if_neg e3]
    · have e' : okP p = false := by simpa using e
      rw [hbad e']
      refine Ev.congr (f := fun _ => some ([], false)) (fun k => ?_) (Ev.now _)
      by_cases e1 : nameL p = true
      · rw [if_pos e1]
        by_cases e2 : p = [46]
        · rw [if_pos e2]
        · rw [if_neg e2]
          by_cases e3 : p = [46, 46]
          · rw [if_pos e3]
          · exact absurd ((okP_split p).2 ⟨e1, e2, e3⟩) e
      · rw [if_neg e1]
theorem drop_split (l : Bytes8) {fr i : Nat} (h : fr ≤ i) : l.drop fr = (l.drop fr).take (i - fr) ++ l.drop i := by
  conv => lhs; rw [← List.take_append_drop (i - fr) (l.drop fr)]
  rw [List.drop_drop]; congr 2; omega
theorem splitF_last {l : Bytes8} {out : List ByteArray} {fr : Nat} {p : Bytes8} (hp : l.drop fr = p) (hn : (47 : UInt8) ∉ p) : splitF l out fr = if okP p then (out ++ [bs p], true) else ([], false) := by
  unfold splitF; rw [hp, partsL_one hn]; simp
theorem splitF_cut {l : Bytes8} {out : List ByteArray} {fr i : Nat} {p : Bytes8} (hp : l.drop fr = p ++ 47 :: l.drop (i + 1)) (hn : (47 : UInt8) ∉ p) : splitF l out fr = if okP p then splitF l (out ++ [bs p]) (i + 1) else ([], false) := by
  unfold splitF; rw [hp, partsL_cut hn]
  by_cases e : okP p = true
  · rw [if_pos e]; simp [e]
  · rw [if_neg e]; simp [e]
theorem split_ev (s : ByteArray) (hs : s.size ≤ 500) (d : Nat) : ∀ (i fr : Nat) (out : List ByteArray), i + d = s.size → fr ≤ i → 1 ≤ fr → out.length < fr → (47 : UInt8) ∉ (s.data.toList.drop fr).take (i - fr) →
    Ev (fun k => lockgateref1_Split.l0 k s out (fr : Int) (i : Int)) (splitF s.data.toList out fr) := by
  have hsl := size_toList s
  induction d with
  | zero =>
    intro i fr out hi hfi h1 ho hn
    have hp : (s.data.toList.drop fr).take (i - fr) = s.data.toList.drop fr := List.take_of_length_le (by rw [List.length_drop]; omega)
    rw [hp] at hn
    rw [splitF_last rfl hn]
    refine Ev.step (f := fun k => lockgateref1_Split.j2 k s out (fr : Int) (i : Int) false) (fun k => ?_) ?_
    · simp only [lockgateref1_Split.l0]
      rw [if_pos (by omega), if_neg (by omega)]
    · refine split_end s hs out fr i _ _ hfi (by omega) (by omega) hp (fun e => by rw [e]; rfl) (fun e => ?_)
      rw [e]
      refine Ev.step (f := fun k => some (out ++ [bs (s.data.toList.drop fr)], true)) (fun k => ?_) (Ev.now _)
      simp only [lockgateref1_Split.l0]
      rw [if_neg (by omega)]
  | succ d ih =>
    intro i fr out hi hfi h1 ho hn
    have hlt : i < s.data.toList.length := by omega
    obtain ⟨c, hc⟩ : ∃ c, s.data.toList[i]? = some c := ⟨_, List.getElem?_eq_getElem hlt⟩
    have hd : s.data.toList.drop i = c :: s.data.toList.drop (i + 1) := by
      rw [List.drop_eq_getElem_cons hlt]
      congr 1
      rw [List.getElem?_eq_getElem hlt] at hc; injection hc
    have hb := bt_at s i c hc
    have hsp := drop_split s.data.toList hfi
    rw [hd] at hsp
    by_cases c47 : c = 47
    · subst c47
      rw [splitF_cut hsp hn]
      refine Ev.step (f := fun k => lockgateref1_Split.j2 k s out (fr : Int) (i : Int) false) (fun k => ?_) ?_
      · simp only [lockgateref1_Split.l0]
        rw [if_pos (by omega), if_pos (by omega), if_pos (by omega), hb]
        rfl
      · refine split_end s hs out fr i _ _ hfi (by omega) (by omega) rfl (fun e => by rw [e]; rfl) (fun e => ?_)
        rw [e]
        exact ih (i + 1) (i + 1) _ (by omega) (by omega) (by omega) (by simp; omega) (by simp)
    · refine Ev.step (f := fun k => lockgateref1_Split.j2 k s out (fr : Int) (i : Int) true) (fun k => ?_) ?_
      · simp only [lockgateref1_Split.l0]
        have e47 : ¬ ((c.toNat : Int) = 47) := fun h => c47 (by apply UInt8.toNat_inj.1; simpa using (by omega : c.toNat = 47))
        rw [if_pos (by omega), if_pos (by omega), if_pos (by omega), hb]
        congr 1
        simpa using e47
      · refine Ev.step (f := fun k => lockgateref1_Split.l0 k s out (fr : Int) ((i + 1 : Nat) : Int)) (fun k => ?_) ?_
        · simp only [lockgateref1_Split.j2]
          rw [if_pos trivial, wrap_succ i (by omega)]
        · refine ih (i + 1) fr out (by omega) (by omega) h1 ho ?_
          have : (s.data.toList.drop fr).take (i + 1 - fr) = (s.data.toList.drop fr).take (i - fr) ++ [c] := by
            have e : i + 1 - fr = (i - fr) + 1 := by omega
            have hk : i - fr < (s.data.toList.drop fr).length := by rw [List.length_drop]; omega
            rw [e, List.take_succ_eq_append_getElem hk]
            congr 2
            rw [List.getElem_drop]
            rw [List.getElem?_eq_getElem hlt] at hc
            injection hc with hc
            rw [← hc]; congr 1; omega
          rw [this]
          simp [hn, Ne.symm c47]
/-- the document's Split -/
theorem splitR (s : ByteArray) (hs : s.size ≤ 4611686018427387904) : Ev (fun k => lockgateref1_Split.f k s) (((splitL s.data.toList).getD []).map bs, (splitL s.data.toList).isSome) := by
  have hsl := size_toList s
  have none_ : ∀ k, lockgateref1_Split.j0 (k + 1) s true = some ([], false) := fun k => by simp [lockgateref1_Split.j0]
  cases hl : s.data.toList with
  | nil =>
    refine Ev.step (f := fun _ => some ([], false)) (fun k => ?_) (Ev.now _)
    unfold lockgateref1_Split.f
    rw [ByteArray.toList_eq, if_pos hl, none_]
  | cons c l =>
    rw [hl] at hsl
    have hne : ¬ s.toList = ([] : List UInt8) := by rw [ByteArray.toList_eq, hl]; simp
    have hb := bt_at s 0 c (by rw [hl]; rfl)
    have hpos : (0 : Int) < (s.size : Int) := by simp at hsl; omega
    rw [splitL_cons]
    by_cases c47 : c = 47
    · subst c47
      by_cases hlong : 500 < s.size
      · rw [if_pos (.inr (by simp at hsl; omega))]
        refine Ev.step (f := fun _ => some ([], false)) (fun k => ?_) (Ev.now _)
        unfold lockgateref1_Split.f
        rw [if_neg hne, if_pos hpos, show bt s 0 = _ from hb, if_pos (by rfl), decide_eq_true (by omega), none_]
      · rw [if_neg (by simp at hsl ⊢; omega)]
        have hj : ∀ k, lockgateref1_Split.f k s = lockgateref1_Split.j0 k s false := fun k => by
          unfold lockgateref1_Split.f
          rw [if_neg hne, if_pos hpos, show bt s 0 = _ from hb, if_pos (by rfl), decide_eq_false (by omega)]
        by_cases hnil : l = []
        · subst hnil
          rw [if_pos rfl]
          refine Ev.congr hj (Ev.step (f := fun _ => some ([], true)) (fun k => ?_) (Ev.now _))
          simp only [lockgateref1_Split.j0]
          rw [if_neg (by simp), ByteArray.toList_eq, if_pos hl]
        · rw [if_neg hnil]
          refine Ev.congr hj (Ev.step (f := fun k => lockgateref1_Split.l0 k s [] 1 1) (fun k => ?_) ?_)
          · simp only [lockgateref1_Split.j0]
            rw [if_neg (by simp), ByteArray.toList_eq, if_neg (by rw [hl]; simpa using hnil)]
          · have := split_ev s (by omega) (s.size - 1) 1 1 [] (by omega) (by omega) (by omega) (by simp) (by simp)
            have e : splitF s.data.toList [] 1 = (((if (partsL l).all okP then some (partsL l) else none : Option (List Bytes8)).getD []).map bs, (if (partsL l).all okP then some (partsL l) else none : Option (List Bytes8)).isSome) := by
              unfold splitF; rw [hl]
              show (if (partsL l).all okP = true then ([] ++ (partsL l).map bs, true) else ([], false)) = _
              by_cases e : (partsL l).all okP = true
              · rw [if_pos e, if_pos e]; rfl
              · rw [if_neg e, if_neg e]; rfl
            rw [← e]
            exact this
    · rw [if_pos (.inl c47)]
      have e47 : ¬ ((c.toNat : Int) = 47) := fun h => c47 (by apply UInt8.toNat_inj.1; simpa using (by omega : c.toNat = 47))
      refine Ev.step (f := fun _ => some ([], false)) (fun k => ?_) (Ev.now _)
      unfold lockgateref1_Split.f
      rw [if_neg hne, if_pos hpos, show bt s 0 = _ from hb, if_neg e47, none_]
/-- the comparison of two lists -/
theorem same_ev (a b : List ByteArray) (hab : a = b) (hl : a.length ≤ 4611686018427387904) (d : Nat) : ∀ i : Nat, i + d = a.length → Ev (fun k => lockgatelaw8_same.l0 k a b (i : Int)) true := by
  subst hab
  induction d with
  | zero =>
    intro i hi
    refine Ev.step (f := fun _ => some true) (fun k => ?_) (Ev.now _)
    simp only [lockgatelaw8_same.l0]
    rw [if_neg (by omega)]
  | succ d ih =>
    intro i hi
    refine Ev.step (f := fun k => lockgatelaw8_same.l0 k a a ((i + 1 : Nat) : Int)) (fun k => ?_) (ih (i + 1) (by omega))
    simp only [lockgatelaw8_same.l0]
    rw [if_pos (by omega), if_pos (by omega), if_pos (by omega), if_pos trivial, wrap_succ i (by omega)]
theorem sameR (a : List ByteArray) (hl : a.length ≤ 4611686018427387904) : Ev (fun k => lockgatelaw8_same.f k a a) true := by
  refine Ev.congr (f := fun k => lockgatelaw8_same.l0 k a a 0) (fun k => ?_) (same_ev a a rfl hl a.length 0 (by omega))
  unfold lockgatelaw8_same.f
  rw [if_pos rfl]
/-- the document's Join, from place i on -/
def slashed (ss : List ByteArray) : Bytes8 := ss.flatMap fun s => 47 :: s.data.toList
theorem slashed_append (a b : List ByteArray) : slashed (a ++ b) = slashed a ++ slashed b := List.flatMap_append
theorem join_ev (ss : List ByteArray) (hl : (slashed ss).length ≤ 1000000) (hn : ss.length ≤ 1000000) (d : Nat) : ∀ (i : Nat) (acc : ByteArray), i + d = ss.length → acc.data.toList = slashed (ss.take i) →
    Ev (fun k => lockgateref1_Join.l0 k ss acc (i : Int)) (if slashed ss = [] then bs [47] else bs (slashed ss)) := by
  induction d with
  | zero =>
    intro i acc hi ha
    have : ss.take i = ss := List.take_of_length_le (by omega)
    rw [this] at ha
    refine Ev.step (f := fun _ => some (if slashed ss = [] then bs [47] else bs (slashed ss))) (fun k => ?_) (Ev.now _)
    simp only [lockgateref1_Join.l0]
    rw [if_neg (by omega), ByteArray.toList_eq, ha]
    by_cases e : slashed ss = []
    · rw [if_pos e, if_pos e]; rfl
    · rw [if_neg e, if_neg e, ← ha, bs_of]
  | succ d ih =>
    intro i acc hi ha
    have hlt : i < ss.length := by omega
    have hr : rdOf ByteArray.empty ss (i : Int) = ss[i] := by unfold rdOf; simp [hlt]
    have hnew : (acc ++ (⟨#[47]⟩ : ByteArray) ++ ss[i]).data.toList = slashed (ss.take (i + 1)) := by
      rw [List.take_succ_eq_append_getElem hlt, slashed_append, ← ha, ByteArray.data_append, ByteArray.data_append]
      simp only [Array.toList_append]
      simp [slashed]
    have hle : (slashed (ss.take (i + 1))).length ≤ (slashed ss).length := by
      have := congrArg List.length (slashed_append (ss.take (i + 1)) (ss.drop (i + 1)))
      rw [List.take_append_drop, List.length_append] at this
      omega
    have hsz : (acc ++ (⟨#[47]⟩ : ByteArray) ++ ss[i]).size ≤ 1000000 := by rw [size_toList, hnew]; omega
    have hsz2 : (acc ++ (⟨#[47]⟩ : ByteArray)).size + ss[i].size ≤ 1000000 := by rw [ByteArray.size_append] at hsz; exact hsz
    have hsz3 : acc.size + 1 ≤ 1000000 := by
      have : (acc ++ (⟨#[47]⟩ : ByteArray)).size = acc.size + 1 := by rw [ByteArray.size_append]; rfl
      omega
    refine Ev.step (f := fun k => lockgateref1_Join.l0 k ss (acc ++ (⟨#[47]⟩ : ByteArray) ++ ss[i]) ((i + 1 : Nat) : Int)) (fun k => ?_) (ih (i + 1) _ (by omega) hnew)
    simp only [lockgateref1_Join.l0]
    rw [if_pos (by omega), if_pos (by omega), if_pos (by omega), hr, if_pos (by omega), wrap_succ i (by omega)]
theorem slashed_joinL (ss : List ByteArray) : (if slashed ss = [] then bs [47] else bs (slashed ss)) = bs (47 :: joinL (ss.map (·.data.toList))) := by
  have key : ∀ ss : List ByteArray, ss ≠ [] → slashed ss = 47 :: joinL (ss.map (·.data.toList)) := by
    intro ss
    induction ss with
    | nil => intro h; exact absurd rfl h
    | cons s ss ih =>
      intro _
      cases ss with
      | nil => simp [slashed, joinL]
      | cons t ts =>
        have := ih (by simp)
        show 47 :: s.data.toList ++ slashed (t :: ts) = _
        rw [this]; rfl
  by_cases h : ss = []
  · subst h; rfl
  · have := key ss h
    rw [if_neg (by rw [this]; simp), this]
theorem joinR (ss : List ByteArray) (hl : (slashed ss).length ≤ 1000000) (hn : ss.length ≤ 1000000) : Ev (fun k => lockgateref1_Join.f k ss) (bs (47 :: joinL (ss.map (·.data.toList)))) := by
  have := join_ev ss hl hn ss.length 0 ⟨#[]⟩ (by omega) rfl
  rw [slashed_joinL] at this
  exact this
end Go.Proofs.Ytbmdaeeilnghiaa
