/-
  Contracts of path.Join, of the laws' example and of a conversion; a slice that reads as strings. Condition of Join: what it makes is shorter than 2^47 bytes.
-/
import Derived.Test.YtbmdaeeilnghiaaB
namespace Go.Proofs.Ytbmdaeeilnghiaa
set_option linter.unusedVariables false
set_option linter.unusedSimpArgs false
open Go.RowKit Go.Shelf

/-- a slice of strings below block B that reads as ss -/
def Strs (B : Nat) (w : World) (A : Option Addr) (ss : List ByteArray) : Prop :=
  ss ≠ [] → ∃ b off, A = some ⟨b, off, none⟩ ∧ b < B ∧ ∀ i, i < ss.length → w.cell? ⟨b, off + i, none⟩ = some (.string (ss.getD i ByteArray.empty))
theorem Strs.below {B B' : Nat} {w w' : World} {A : Option Addr} {ss : List ByteArray} (h : Strs B w A ss) (hb : Below B' w w') (hB : B ≤ B') : Strs B w' A ss := fun hne => by
  obtain ⟨b, off, rfl, hlt, hc⟩ := h hne
  exact ⟨b, off, rfl, hlt, fun i hi => (hb.cell (p := ⟨b, off + i, none⟩) (show b < B' by omega)).trans (hc i hi)⟩
theorem Strs.more {B B' : Nat} {w : World} {A : Option Addr} {ss : List ByteArray} (h : Strs B w A ss) (hB : B ≤ B') : Strs B' w A ss := fun hne => by
  obtain ⟨b, off, rfl, hlt, hc⟩ := h hne
  exact ⟨b, off, rfl, by omega, hc⟩
theorem strs_len (ps : List Bytes8) : (strs ps).length = ps.length := by simp [strs]
theorem Strs.of_own {B base : Nat} {w : World} {A : Option Addr} {n c : Nat} {ps : List Bytes8} (h : w.ownsRow base 9 1 (.slice A n c) n (strs ps)) (hB : w.heap.size ≤ B) : Strs B w A (ps.map bs) := fun hne => by
  have hl : 0 < ps.length := by rcases ps with _ | ⟨p, ps⟩ <;> simp at hne ⊢
  have hlen : ps.length = n := by have := h.1; rw [strs_len] at this; simpa using this
  rcases h.2 with ⟨hv, h0⟩ | ⟨g, cap, cur, hv, _, hg, _⟩
  · omega
  · injection hv with hA _ hcap
    subst hA
    subst hcap
    have hlt : g < w.heap.size := (Array.getElem?_eq_some_iff.1 hg).1
    refine ⟨g, 0, rfl, by omega, fun i hi => ?_⟩
    have hi' : i < ps.length := by simpa using hi
    rw [Nat.zero_add, h.cellAt i (by omega)]
    simp [strs, hi']
theorem OwnS.form {w : World} {n₀ : Nat} {v : Value} {ps : List Bytes8} (h : OwnS w n₀ v ps) : ∃ A c, v = .slice A ps.length c ∧ Strs w.heap.size w A (ps.map bs) := by
  obtain ⟨A, c, rfl⟩ := own_slice h
  exact ⟨A, c, rfl, Strs.of_own h (Nat.le_refl _)⟩

theorem num_c (e : Int) (w : World) : Calls Try.prog 9 #[.int .i64 e] w fun r w' => r = .returned (.int .i64 e) ∧ w = w' := by
  go_enter Try.func9, Try.ntmps9
  go_wp2
  go_ret
  exact ⟨rfl, rfl⟩

theorem bs_append (a b : Bytes8) : bs a ++ bs b = bs (a ++ b) := by
  apply ba_ext; simp
theorem joinL_inter (ps : List Bytes8) : Lib.join ps [47] = joinL ps := by
  match ps with
  | [] => rfl
  | [p] => simp [Lib.join, joinL, List.intercalate]
  | p :: q :: ps =>
    have ih := joinL_inter (q :: ps)
    show _ = p ++ 47 :: joinL (q :: ps)
    rw [← ih]
    simp [Lib.join, List.intercalate, List.intersperse]
theorem join_c (A : Option Addr) (n c : Nat) (ss : List ByteArray) (w : World) (hn : ss.length = n) (hs : Strs w.heap.size w A ss) (hc : n ≤ c) (hl : (joinL (ss.map (·.data.toList))).length ≤ 1000000) (hn' : n ≤ 1000000) :
    Calls Try.prog 12 #[.slice A n c] w fun e w' => e = .returned (.string (bs (47 :: joinL (ss.map (·.data.toList))))) ∧ Below w.heap.size w w' := by
  by_cases h0 : ss = []
  · subst h0
    simp at hn
    subst hn
    go_enter Try.func12, Try.ntmps12
    go_wp2_with (go_at_call 18; refine (Try.strings_Join_none A c ⟨#[47]⟩ _).mono ?_; rintro e w' ⟨rfl, rfl⟩)
    go_ret
    exact ⟨by first | rfl | (simp [bs_append]; done) | (rw [show joinL (List.map (fun x : ByteArray => x.data.toList) []) = [] from rfl]; rfl), Below.refl _ _⟩
  · obtain ⟨b, off, rfl, hlt, hcell⟩ := hs h0
    subst hn
    have hJ := hide (joinL_inter (ss.map (·.data.toList)))
    have H := hide (Try.strings_Join b off c ss ⟨#[47]⟩ w (fun j x hx => by
      obtain ⟨hj, rfl⟩ := List.getElem?_eq_some_iff.1 hx
      rw [hcell j hj]; simp [hj]) hlt (by omega) hc (by
      have e : Lib.join (ss.map (·.data.toList)) (⟨#[47]⟩ : ByteArray).data.toList = joinL (ss.map (·.data.toList)) := hJ.out
      rw [e]; omega))
    have HL := hide hl
    have hl2 : ((bs (joinL (ss.map (·.data.toList)))).size : Int) ≤ 1000000 := by rw [bs_size]; omega
    clear hl h0 hcell
    have hlen : ((⟨#[47]⟩ : ByteArray).size : Int) = 1 := rfl
    go_enter Try.func12, Try.ntmps12
    go_wp2_with (go_at_call 18; refine H.out.mono ?_; rintro e w' ⟨rfl, hb⟩; rw [show (⟨(Lib.join (ss.map (·.data.toList)) (⟨#[47]⟩ : ByteArray).data.toList).toArray⟩ : ByteArray) = bs (joinL (ss.map (·.data.toList))) from congrArg bs hJ.out])
    go_ret
    exact ⟨by first | rfl | (simp [bs_append]; done), hb⟩
set_option maxHeartbeats 1000000 in
theorem alive_c (w : World) : Calls Try.prog 7 #[] w fun e w' => e = .returned (.bool true) ∧ Below w.heap.size w w' := by
  have hsp : splitL [47, 97, 47, 98] = some [[97], [98]] := by decide
  have hS : Calls Try.prog 8 #[.string ⟨#[47, 97, 47, 98]⟩] w fun e w' => ∃ c b off, e = .returned (.tuple #[.slice (some ⟨b, off, none⟩) 2 c, .int .i64 0]) ∧ w'.cell? ⟨b, off, none⟩ = some (.string ⟨#[97]⟩) ∧ w'.cell? ⟨b, off + 1, none⟩ = some (.string ⟨#[98]⟩) ∧ Below w.heap.size w w' := by
    refine (split_c ⟨#[47, 97, 47, 98]⟩ w (by decide)).mono ?_
    rintro e w' ⟨v, he, ho, hb⟩
    have e1 : splitL (⟨#[47, 97, 47, 98]⟩ : ByteArray).data.toList = some [[97], [98]] := hsp
    rw [e1] at he ho
    obtain ⟨A, c, rfl, hr⟩ := ho.form
    obtain ⟨b, off, rfl, _, hc⟩ := hr (by simp)
    exact ⟨c, b, off, he, hc 0 (by simp), hc 1 (by simp), hb⟩
  have HS := hide hS
  clear hS hsp
  go_enter Try.func7, Try.ntmps7
  go_wp2_with (first | (go_at_call 8; refine HS.out.mono ?_; rintro e w' ⟨c, b, off, rfl, hc0, hc1, hb⟩; have HB := hide hb; clear hb) | (go_at_call 9; refine (num_c _ _).mono ?_; rintro e w' ⟨rfl, rfl⟩))
  go_ret
  exact ⟨by first | rfl | simp, HB.out⟩
end Go.Proofs.Ytbmdaeeilnghiaa
