/-
  LocksOrder in plain words. No program.
-/
import Derived.Test.YtcmiboipgngjaaaWr
namespace Go.Proofs.Ytcmiboipgngjaaa
set_option linter.unusedVariables false
set_option linter.unusedSimpArgs false
open Go.RowKit

structure Ord (H R : List Lk) (L : List Int) : Prop where
  hl : ∀ h ∈ H, 0 ≤ h.th ∧ h.th < L.length ∧ h.tg ≤ L.getD h.th.toNat 0
  rl : ∀ x ∈ R, ∀ h ∈ H, h.th = x.th → h.tg < x.tg
theorem Ord.ask {H R : List Lk} {L : List Int} (h : Ord H R L) {x : Lk} (h0 : 0 ≤ x.th ∧ x.th < L.length) (hw : L.getD x.th.toNat 0 < x.tg) (hq : waitsP R x.th = false) : Ord (askH H R x) (askR H R x) (L.set x.th.toNat x.tg) := by
  have hset : ∀ y ∈ H, y.tg ≤ (L.set x.th.toNat x.tg).getD y.th.toNat 0 := fun y hy => by
    obtain ⟨a, b, c⟩ := h.hl y hy
    by_cases e : y.th = x.th
    · have e2 : y.th.toNat = x.th.toNat := by rw [e]
      rw [e2] at c ⊢
      rw [List.getD_eq_getElem?_getD, List.getElem?_set_self (by omega)]
      show y.tg ≤ x.tg
      omega
    · have : ¬ x.th.toNat = y.th.toNat := by omega
      rw [List.getD_eq_getElem?_getD, List.getElem?_set_ne this, ← List.getD_eq_getElem?_getD]; exact c
  have hold : ∀ y ∈ H, 0 ≤ y.th ∧ y.th < (L.set x.th.toNat x.tg).length ∧ y.tg ≤ (L.set x.th.toNat x.tg).getD y.th.toNat 0 := fun y hy => ⟨(h.hl y hy).1, by rw [List.length_set]; exact (h.hl y hy).2.1, hset y hy⟩
  unfold askH askR askB
  rw [hq]
  cases h2 : holdsP H x.th x.tg with
  | true => exact ⟨by simpa using hold, by simpa using h.rl⟩
  | false =>
    cases h3 : freeP H R x with
    | true =>
      simp only [Bool.not_false, Bool.and_self, Bool.and_true, if_true, Bool.not_true, Bool.and_false, Bool.false_eq_true, if_false]
      refine ⟨fun y hy => ?_, fun y hy z hz e => ?_⟩
      · rcases List.mem_append.1 hy with hy | hy
        · exact hold y hy
        · rw [List.mem_singleton.1 hy]
          refine ⟨h0.1, by rw [List.length_set]; exact h0.2, ?_⟩
          rw [List.getD_eq_getElem?_getD, List.getElem?_set_self (by omega)]
          exact Int.le_refl _
      · rcases List.mem_append.1 hz with hz | hz
        · exact h.rl y hy z hz e
        · rw [List.mem_singleton.1 hz] at e
          have : waitsP R x.th = true := waitsP_mem.2 ⟨y, hy, e.symm⟩
          rw [hq] at this; cases this
    | false =>
      simp only [Bool.not_false, Bool.and_self, Bool.and_true, if_true, Bool.not_true, Bool.and_false, Bool.false_eq_true, if_false]
      refine ⟨hold, fun y hy z hz e => ?_⟩
      rcases List.mem_append.1 hy with hy | hy
      · exact h.rl y hy z hz e
      · rw [List.mem_singleton.1 hy] at e ⊢
        have := (h.hl z hz).2.2
        rw [e] at this
        omega
theorem Ord.none_ {H R : List Lk} {L : List Int} (h : Ord H R L) (hd : (R.map Lk.th).Nodup) (u : Int) : ¬ stuckP H R u := by
  rintro ⟨T, hT, hu⟩
  obtain ⟨B, hB⟩ : ∃ B : Int, ∀ x ∈ R, x.tg ≤ B := by
    clear hd hT hu h
    induction R with
    | nil => exact ⟨0, by simp⟩
    | cons a R ih =>
      obtain ⟨B, hB⟩ := ih
      refine ⟨max a.tg B, fun x hx => ?_⟩
      rcases List.mem_cons.1 hx with rfl | hx
      · omega
      · have := hB x hx; omega
  have key : ∀ d : Nat, ∀ x ∈ R, T x.th → (B - x.tg).toNat = d → False := by
    intro d
    induction d using Nat.strongRecOn with
    | ind d ih =>
      intro x hx hTx hdx
      obtain ⟨a, z, b, e2, hz, hf⟩ := first_with (l := onT x.tg R) (p := fun y : Lk => T y.th) ⟨x, mem_onT.2 ⟨hx, rfl⟩, hTx⟩
      have hzm : z ∈ onT x.tg R := by rw [e2]; simp
      obtain ⟨hzR, hzt⟩ := mem_onT.1 hzm
      obtain ⟨z', hz', e3, h3⟩ := hT z.th hz
      obtain rfl := nd_inj hd hz' hzR e3
      rw [hzt] at h3
      rcases h3 with ⟨pre, post, e4, y, hy, hTy⟩ | ⟨y, hy, -, hTy⟩
      · have := split_uniq (e2 ▸ nodup_of_map (nd_onT hd x.tg)) (e2.symm.trans e4)
        rw [← this] at hy
        exact hf y hy hTy
      · obtain ⟨q1, q2⟩ := mem_onT.1 hy
        obtain ⟨v, hv, e5, -⟩ := hT y.th hTy
        have h5 := h.rl v hv y q1 e5.symm
        have h6 := hB v hv
        exact ih (B - v.tg).toNat (by omega) v hv (by rw [e5]; exact hTy) rfl
  obtain ⟨x, hx, e, -⟩ := hT u hu
  exact key _ x hx (by rw [e]; exact hu) rfl
theorem Ord.nil (N : Nat) : Ord [] [] (List.replicate N 0) := ⟨by simp, by simp⟩
end Go.Proofs.Ytcmiboipgngjaaa
