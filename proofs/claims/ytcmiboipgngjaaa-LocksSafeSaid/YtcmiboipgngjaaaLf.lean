/-
  LocksFirst in plain words. No program.
-/
import Derived.Test.YtcmiboipgngjaaaWs
namespace Go.Proofs.Ytcmiboipgngjaaa
set_option linter.unusedVariables false
set_option linter.unusedSimpArgs false
open Go.RowKit

def fx (x : Int) : Lk := ⟨x, 7, true⟩
def fR (l : List Int) : List Lk := l.map fx
theorem onT_fR (l : List Int) : onT 7 (fR l) = fR l := onT_all fun x hx => by obtain ⟨y, -, rfl⟩ := List.mem_map.1 hx; rfl
theorem fR_waits {l : List Int} {x : Int} (h : x ∉ l) : waitsP (fR l) x = false := by
  cases hq : waitsP (fR l) x with
  | false => rfl
  | true =>
    obtain ⟨y, hy, e⟩ := waitsP_mem.1 hq
    obtain ⟨z, hz, rfl⟩ := List.mem_map.1 hy
    exact absurd (e ▸ hz) h
theorem fR_snoc (l : List Int) (x : Int) : fR (l ++ [x]) = fR l ++ [fx x] := by unfold fR; rw [List.map_append]; rfl
theorem f_ask {l : List Int} {x y : Int} (h : x ∉ l) (hy : x ≠ y) : askB [fx y] (fR l) (fx x) = false ∧ askH [fx y] (fR l) (fx x) = [fx y] ∧ askR [fx y] (fR l) (fx x) = fR (l ++ [x]) := by
  have h1 : waitsP (fR l) (fx x).th = false := fR_waits h
  have h2 : holdsP [fx y] (fx x).th (fx x).tg = false := by
    unfold holdsP
    have : ¬ y = x := fun e => hy e.symm
    simp [fx, this]
  have h3 : freeP [fx y] (fR l) (fx x) = false := by
    unfold freeP
    have : besideL (onT (fx x).tg [fx y]) (fx x) = false := beside_false.2 ⟨fx y, mem_onT.2 ⟨by simp, rfl⟩, .inl rfl⟩
    rw [this, Bool.and_false]
  unfold askB askH askR askB
  rw [h1, h2, h3, fR_snoc]
  exact ⟨rfl, rfl, rfl⟩
theorem f_ask0 : askB [] [] (fx (-1)) = true ∧ askH [] [] (fx (-1)) = [fx (-1)] ∧ askR [] [] (fx (-1)) = [] := ⟨rfl, rfl, rfl⟩
theorem f_off (x : Int) : offT x 7 [fx x] = [] := by simp [offT, fx]
theorem f_rel {x y : Int} {l : List Int} (h : y ∉ l) : gotP [fx x] (fR (y :: l)) x 7 = [fx y] ∧ relH [fx x] (fR (y :: l)) x 7 = [fx y] ∧ relR [fx x] (fR (y :: l)) x 7 = fR l := by
  have e : gotP [fx x] (fR (y :: l)) x 7 = [fx y] := by
    unfold gotP
    rw [f_off, onT_fR]
    show (grantL [] (fx y :: fR l)).1 = _
    rw [grant_yes rfl]
    cases l with
    | nil => rfl
    | cons z l =>
      show fx y :: (grantL [fx y] (fx z :: fR l)).1 = _
      rw [grant_no rfl]
  refine ⟨e, by unfold relH; rw [e, f_off]; rfl, ?_⟩
  unfold relR
  rw [e]
  show (fx y :: fR l).filter _ = _
  rw [List.filter_cons, if_neg (by simp)]
  refine List.filter_eq_self.2 fun z hz => ?_
  obtain ⟨u, hu, rfl⟩ := List.mem_map.1 hz
  have : ¬ y = u := fun e => h (e ▸ hu)
  simp [fx, this]
theorem f_end (x : Int) : gotP [fx x] [] x 7 = [] ∧ relH [fx x] [] x 7 = [] ∧ relR [fx x] [] x 7 = [] := by
  have e : gotP [fx x] [] x 7 = [] := by unfold gotP; rw [f_off]; rfl
  exact ⟨e, by unfold relH; rw [e, f_off]; rfl, rfl⟩
theorem f_holds (x : Int) : holdsP [fx x] x 7 = true := holdsP_mem.2 ⟨fx x, by simp, rfl, rfl⟩
theorem wf_7 : (Lit.int .i64 7).wf = true := wf_small (by decide)
theorem f_ok {l : List Int} (hn : l.Nodup) (h0 : ∀ x ∈ l, 0 ≤ x) (hw : ∀ x ∈ l, (Lit.int .i64 x).wf = true) : ∀ i, i ≤ l.length → Ok [fx (-1)] (fR (l.take i))
  | 0, _ => (Ok.nil.ask (x := fx (-1)) ⟨wf_small (by decide), wf_7⟩ : Ok (askH [] [] (fx (-1))) _)
  | i + 1, h => by
    have hlt : i < l.length := by omega
    have hno : l[i] ∉ l.take i := by
      intro hm
      obtain ⟨j, hj, e⟩ := List.getElem_of_mem hm
      rw [List.length_take] at hj
      rw [List.getElem_take] at e
      have := (List.getElem_inj hn).1 e
      omega
    obtain ⟨-, e1, e2⟩ := f_ask (l := l.take i) (x := l[i]) (y := -1) hno (by have := h0 l[i] (List.getElem_mem hlt); omega)
    have := (f_ok hn h0 hw i (by omega)).ask (x := fx l[i]) ⟨hw _ (List.getElem_mem hlt), wf_7⟩
    rw [e1, e2] at this
    rwa [List.take_succ_eq_append_getElem hlt]
/-- who holds the thing when k have had it -/
def nowF (l : List Int) (k : Nat) : Int := if k = 0 then -1 else l.getD (k - 1) 0
theorem nowF_succ {l : List Int} {k : Nat} (h : k < l.length) : nowF l (k + 1) = l[k] := by unfold nowF; rw [if_neg (by omega)]; simp [h]
end Go.Proofs.Ytcmiboipgngjaaa
