/-
  Contracts of the small functions under path.Split: Cut at a slash, Name, the iterator's maker. Conditions: a string's length is one.
-/
import Derived.Test.YtbmdaeeilnghiaaG
import Derived.Test.YtbmdaeeilnghiaaU
import Derived.Test.YtbmdaeeilnghiaaS
import Derived.Lib.CutLaws
import Derived.Deep.QuietTactic
import Derived.BigQuiet
import Derived.Deep.RegionWith
namespace Go.Proofs.Ytbmdaeeilnghiaa
set_option linter.unusedVariables false
set_option linter.unusedSimpArgs false
open Go.RowKit

def slash : ByteArray := ⟨#[47]⟩
theorem cut_c (s : ByteArray) (w : World) (hs : s.size ≤ 140737488355328) :
    Calls Try.prog 27 #[.string s, .string ⟨#[47]⟩] w fun e w' => ∃ a b f, e = .returned (.tuple #[.string (bs a), .string (bs b), .bool f]) ∧ (∃ n, w' = w.drewN n) ∧
      ((f = false ∧ a = s.data.toList ∧ b = [] ∧ (47 : UInt8) ∉ a) ∨ (f = true ∧ s.data.toList = a ++ 47 :: b ∧ (47 : UInt8) ∉ a)) := by
  rcases idx_cases s.data.toList 47 with ⟨h1, h2⟩ | ⟨a, b, hab, h2, h3⟩
  · have E := hide h1
    clear h1
    go_enter Try.func27, Try.ntmps27
    go_wp2_with (go_at_call 31; refine (Try.stringslite_Index_one s 47 _).mono ?_; rintro e w' ⟨rfl, rfl⟩; rw [E.out])
    go_ret3
    exact ⟨s.data.toList, [], false, by rw [bs_of]; rfl, ⟨0, rfl⟩, .inl ⟨rfl, rfl, rfl, h2⟩⟩
  · have E := hide h3
    have hl : s.size = a.length + (b.length + 1) := by rw [size_toList, hab]; simp
    have HA := hide (show s.extract 0 a.length = bs a from ba_ext (by rw [Lib.extract_data, hab]; simp))
    have HB := hide (show s.extract (a.length + 1) s.size = bs b from ba_ext (by rw [Lib.extract_to_end, hab]; simp))
    have HX := hide hab
    clear h3 hab
    have c1 : (0 : Int) ≤ ↑a.length := by omega
    have c2 : (↑a.length : Int) ≤ ↑s.size := by omega
    have c3 : (0 : Int) ≤ ↑a.length + 1 := by omega
    have c4 : (↑a.length + 1 : Int) ≤ ↑s.size := by omega
    clear hl
    go_enter Try.func27, Try.ntmps27
    go_wp2_with (go_at_call 31; refine (Try.stringslite_Index_one s 47 _).mono ?_; rintro e w' ⟨rfl, rfl⟩; rw [E.out])
    go_quiet (fail)
    go_wp2
    go_ret3
    exact ⟨a, b, true, by first | rfl | (simp [HA.out, HB.out]), ⟨_, rfl⟩, .inr ⟨rfl, HX.out, h2⟩⟩
/-- strings.Cut at a slash -/
theorem strCut_c (s : ByteArray) (w : World) (hs : s.size ≤ 140737488355328) :
    Calls Try.prog 21 #[.string s, .string ⟨#[47]⟩] w fun e w' => ∃ a b f, e = .returned (.tuple #[.string (bs a), .string (bs b), .bool f]) ∧ (∃ n, w' = w.drewN n) ∧
      ((f = false ∧ a = s.data.toList ∧ b = [] ∧ (47 : UInt8) ∉ a) ∨ (f = true ∧ s.data.toList = a ++ 47 :: b ∧ (47 : UInt8) ∉ a)) := by
  go_enter Try.func21, Try.ntmps21
  go_wp2_with (go_at_call 27; refine (cut_c s _ hs).mono ?_; rintro e w' ⟨a, b, f, rfl, ⟨n, rfl⟩, hc⟩; have HC := hide hc; clear hc)
  go_ret3
  exact ⟨a, b, f, rfl, ⟨_, rfl⟩, HC.out⟩
theorem nameL_nil {l : Bytes8} (h : l = []) : nameL l = false := by subst h; rfl
theorem nameL_long {l : Bytes8} (h : 27 < l.length) : nameL l = false := by
  have : ¬ l.length ≤ 27 := by omega
  simp [nameL, this]
theorem nameL_mid {l : Bytes8} (h0 : l ≠ []) (h : l.length ≤ 27) : nameL l = (!(l.contains 0) && !(l.contains 47)) := by
  have : l.isEmpty = false := by simpa using h0
  simp [nameL, this, h]
theorem name_c (s : ByteArray) (w : World) :
    Calls Try.prog 16 #[.string s] w fun e w' => e = .returned (.bool (nameL s.data.toList)) ∧ w = w' := by
  have E0 := hide (idx_neg s.data.toList 0)
  have E1 := hide (idx_neg s.data.toList 47)
  have hsz := size_toList s
  by_cases h0 : s.data.toList = []
  · have F := hide (nameL_nil h0)
    have e0 : s.toList.isEmpty = true := by rw [ByteArray.toList_eq, h0]; rfl
    have e1 : s.toList = [] := by rw [ByteArray.toList_eq, h0]
    clear h0 hsz
    go_enter Try.func16, Try.ntmps16
    go_wp2
    go_ret
    exact ⟨by rw [F.out]; simp, rfl⟩
  · have e0 : s.toList.isEmpty = false := by rw [ByteArray.toList_eq]; simpa using h0
    by_cases h1 : 27 < s.data.toList.length
    · have F := hide (nameL_long h1)
      have h1' : (27 : Int) < (s.size : Int) := by omega
      clear h0 hsz h1
      go_enter Try.func16, Try.ntmps16
      go_wp2
      go_ret
      exact ⟨by rw [F.out]; simp, rfl⟩
    · have F := hide (nameL_mid h0 (by omega))
      have h1' : (s.size : Int) ≤ (27 : Int) := by omega
      clear h0 hsz h1
      obtain ⟨i0, hi0⟩ : ∃ i, Lib.indexByte s.data.toList 0 = i := ⟨_, rfl⟩
      obtain ⟨i1, hi1⟩ : ∃ i, Lib.indexByte s.data.toList 47 = i := ⟨_, rfl⟩
      have I0 := hide (show Lib.indexByte s.data.toList ((0 : Int).toNat.toUInt8) = i0 from hi0)
      have I1 := hide (show Lib.indexByte s.data.toList ((47 : Int).toNat.toUInt8) = i1 from hi1)
      have E0' := E0.out
      have E1' := E1.out
      rw [hi0] at E0'
      rw [hi1] at E1'
      have G := hide (show (decide (i0 < 0) && decide (i1 < 0)) = (!(s.data.toList.contains 0) && !(s.data.toList.contains 47)) by rw [E0', E1'])
      clear hi0 hi1 E0 E1 E0' E1'
      by_cases a0 : i0 < 0
      · by_cases a1 : i1 < 0
        · go_enter Try.func16, Try.ntmps16
          go_wp2_with (first | (go_at_call_of 22 (Value.int IntKind.u8 0); refine (Try.strings_IndexByte s 0 _).mono ?_; rintro e w' ⟨rfl, rfl⟩; rw [I0.out]) | (go_at_call_of 22 (Value.int IntKind.u8 47); refine (Try.strings_IndexByte s 47 _).mono ?_; rintro e w' ⟨rfl, rfl⟩; rw [I1.out]))
          go_ret
          exact ⟨by rw [F.out, ← G.out]; simp [a0, a1], rfl⟩
        · go_enter Try.func16, Try.ntmps16
          go_wp2_with (first | (go_at_call_of 22 (Value.int IntKind.u8 0); refine (Try.strings_IndexByte s 0 _).mono ?_; rintro e w' ⟨rfl, rfl⟩; rw [I0.out]) | (go_at_call_of 22 (Value.int IntKind.u8 47); refine (Try.strings_IndexByte s 47 _).mono ?_; rintro e w' ⟨rfl, rfl⟩; rw [I1.out]))
          go_ret
          exact ⟨by rw [F.out, ← G.out]; simp only [Ending.returned.injEq, Value.bool.injEq]; first | rfl | (simp; omega), rfl⟩
      · go_enter Try.func16, Try.ntmps16
        go_wp2_with (first | (go_at_call_of 22 (Value.int IntKind.u8 0); refine (Try.strings_IndexByte s 0 _).mono ?_; rintro e w' ⟨rfl, rfl⟩; rw [I0.out]) | (go_at_call_of 22 (Value.int IntKind.u8 47); refine (Try.strings_IndexByte s 47 _).mono ?_; rintro e w' ⟨rfl, rfl⟩; rw [I1.out]))
        go_ret
        exact ⟨by rw [F.out, ← G.out]; simp only [Ending.returned.injEq, Value.bool.injEq]; first | rfl | (simp; omega), rfl⟩
end Go.Proofs.Ytbmdaeeilnghiaa
