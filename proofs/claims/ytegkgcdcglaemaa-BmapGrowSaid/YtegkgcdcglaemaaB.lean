/-
  The contract of bmap.Meta: how many places its map has, as the length of a list of pairs that are gathered once each. Condition: the slice reads as the list.
-/
import Derived.Test.YtegkgcdcglaemaaA
import Derived.Maps.OwnSet
import Derived.WideKeyPair
import Derived.DeepKeys4
import Derived.WideKeyArgs
namespace Go.Proofs.Ytegkgcdcglaemaa
set_option linter.unusedSimpArgs false
set_option linter.unusedVariables false
open Go.RowKit Go.Maps

theorem laidOut : laidOutB Try.prog = true := by kernel_rfl
theorem cells35 : Try.prog.cellsOf 35 = 2 := by kernel_rfl
theorem arr35 : WideMaps.ArrKey Try.prog 35 3 2 := ⟨Try.underlying35, by kernel_rfl, by kernel_rfl, cells35⟩
theorem row35 : (35 : TypeId) < Try.prog.types.size := of_decide_eq_true (by kernel_rfl)
theorem wide35 : (match Try.prog.underlying 35 with | some (.array _ _) | some (.struct _) => true | _ => false) = true := by rw [Try.underlying35]
theorem law35 : Keyed Try.prog 35 := Keyed.of_law (deep_law_laid laidOut (m := 2) (by omega) row35 (by kernel_rfl) wide35)
theorem zero3 (w : World) : (zeroValue 3).run Try.prog w = .ok (.int .i64 0) w := by kernel_rfl

def kl (p : Int × Int) : Lit := .string (keyBytes [.int .i64 p.1, .int .i64 p.2])
theorem key_kl (a b : Int) (ha : I64 a) (hb : I64 b) : keyOf Try.prog 35 (.agg #[.int .i64 a, .int .i64 b]) = some (kl (a, b)) :=
  WideMaps.keyOf_pair arr35 Try.underlying3 ⟨_, rfl⟩ (wf64 ha) (wf64 hb)
theorem kl_inj {p q : Int × Int} (hp : I64 p.1 ∧ I64 p.2) (hq : I64 q.1 ∧ I64 q.2) (h : kl p = kl q) : p = q := by
  obtain ⟨a, b⟩ := p
  obtain ⟨c, d⟩ := q
  have := law35.inj (key_kl a b hp.1 hp.2) ((key_kl c d hq.1 hq.2).trans (by rw [h]))
  simp at this
  simp [this]

def ins (p : Int × Int) (S : List (Int × Int)) : List (Int × Int) := if p ∈ S then S else p :: S
def metaStep (S : List (Int × Int)) (n : Int) : List (Int × Int) :=
  if n < 8 ∨ n ≥ 65800 then S else if n < 264 then ins (1, 0) S else ins (2, (n - 264) / 256) (ins (2, -1) S)
def metaS (zs : List Int) : List (Int × Int) := zs.foldl metaStep []
theorem metaS_snoc (zs : List Int) (n : Int) : metaS (zs ++ [n]) = metaStep (metaS zs) n := by simp [metaS]
theorem take_snoc (zs : List Int) (k : Nat) (h : k < zs.length) : zs.take (k + 1) = zs.take k ++ [zs.getD k 0] := by
  rw [List.take_succ_eq_append_getElem h]; simp [h]
theorem metaS_take (zs : List Int) (k : Nat) (h : k < zs.length) : metaS (zs.take (k + 1)) = metaStep (metaS (zs.take k)) (zs.getD k 0) := by
  rw [take_snoc zs k h, metaS_snoc]

def MapD (D : DataW Unit) (S : List (Int × Int)) : Prop := (∀ p : Int × Int, I64 p.1 → I64 p.2 → Maps.has D (kl p) = decide (p ∈ S)) ∧ Maps.size D = S.length ∧ Tidy D
theorem MapD.none_ : MapD (.map []) [] := ⟨fun p _ _ => by simp [has_eq], rfl, tidy_empty⟩
theorem MapD.put {D : DataW Unit} {S : List (Int × Int)} (h : MapD D S) (a b : Int) (ha : I64 a) (hb : I64 b) (d : DataW Unit) : MapD (D.put (kl (a, b)) d) (ins (a, b) S) := by
  obtain ⟨h1, h2, h3⟩ := h
  have hk : WideAt.IsKeyLit (kl (a, b)) := law35.key (key_kl a b ha hb)
  have hh := h1 (a, b) ha hb
  refine ⟨fun p hp1 hp2 => ?_, ?_, h3.put hk d⟩
  · by_cases e : p = (a, b)
    · subst e
      rw [has_put_same h3.isMap hk]
      unfold ins; split <;> simp [*]
    · rw [has_put_other (fun he => e (kl_inj ⟨hp1, hp2⟩ ⟨ha, hb⟩ he)), h1 p hp1 hp2]
      unfold ins; split <;> simp [e]
  · rw [size_put h3, hh, h2]
    unfold ins; split <;> simp_all
def OwnM (w : World) (b n : Nat) (S : List (Int × Int)) : Prop := ∃ D : DataW Unit, w.ownsMap Try.prog 35 (plainElem Try.prog 3) b n D ∧ MapD D S

set_option maxHeartbeats 1000000 in
theorem meta_c (A : Option Addr) (c : Nat) (zs : List Int) (w : World) (hz : Ints w.heap.size w A zs) (hi : ∀ n ∈ zs, I64 n) (hl : zs.length ≤ 1000000) :
    Calls Try.prog 9 #[.slice A zs.length c] w fun e w' => e = .returned (.int .i64 (metaS zs).length) ∧ Below w.heap.size w w' := by
  have hmm := @run_makeMap Try.prog
  go_enter Try.func9, Try.ntmps9
  go_wp2
  go_loopw [13] (fun i wr => ∃ k : Nat, k ≤ zs.length ∧ i = .int .i64 k ∧ OwnM wr w.heap.size (2 * k) (metaS (zs.take k)) ∧ Below w.heap.size w wr) (fun i _ => zs.length - (intOf i).toNat)
  case atStart => exact ⟨0, by omega, rfl, ⟨_, World.ownsMap_made _ _ _ _, MapD.none_⟩, (Below.refl _ _).alloc (Nat.le_refl _) _⟩
  case round =>
    obtain ⟨k, hk, rfl, ⟨D, hown, hD⟩, hbel⟩ := hrel
    by_cases hlt : k < zs.length
    · have hM := hide (metaS_take zs k hlt)
      obtain ⟨b, off, rfl, hb, hc⟩ := hz (by intro h; simp [h] at hlt)
      have hmem : zs.getD k 0 ∈ zs := by simp [hlt]
      have hn := hi _ hmem
      have hx := (hbel.cell (p := ⟨b, off + k, none⟩) hb).trans (hc k hlt)
      clear hc hmem
      generalize zs.getD k 0 = n at hn hx hM
      obtain ⟨hn1, hn2⟩ := hn
      rcases (show (n < 0 ∨ n ≥ 65800) ∨ (0 ≤ n ∧ n < 8) ∨ (8 ≤ n ∧ n < 264) ∨ (264 ≤ n ∧ n < 65800) by omega) with h0 | ⟨h0, h1⟩ | ⟨h0, h1⟩ | ⟨h0, h1⟩
      · have E := hide (show plN n = (0, 0, 0, false) by unfold plN; rw [if_pos h0])
        have F := hide (show metaStep (metaS (zs.take k)) n = metaS (zs.take k) by unfold metaStep; rw [if_pos (by omega)])
        go_wp2_with (go_at_call 11; refine (place_c n _ hn1 hn2).mono ?_; rintro e w' ⟨rfl, rfl⟩; rw [E.out]; simp only [plV])
        go_roundw
        case rel => exact ⟨k + 1, by omega, by go_num, by rw [hM.out, F.out]; exact ⟨D, hown.mono (by omega), hD⟩, hbel⟩
        case measure => simp [intOf]; omega
      · have E := hide (show plN n = (0, n, 0, true) by unfold plN; rw [if_neg (by omega), if_pos (by omega)])
        have F := hide (show metaStep (metaS (zs.take k)) n = metaS (zs.take k) by unfold metaStep; rw [if_pos (by omega)])
        go_wp2_with (go_at_call 11; refine (place_c n _ hn1 hn2).mono ?_; rintro e w' ⟨rfl, rfl⟩; rw [E.out]; simp only [plV])
        go_roundw
        case rel => exact ⟨k + 1, by omega, by go_num, by rw [hM.out, F.out]; exact ⟨D, hown.mono (by omega), hD⟩, hbel⟩
        case measure => simp [intOf]; omega
      · have E := hide (show plN n = (1, n - 8, 0, true) by unfold plN; rw [if_neg (by omega), if_neg (by omega), if_pos (by omega)])
        have F := hide (show metaStep (metaS (zs.take k)) n = ins (1, 0) (metaS (zs.take k)) by unfold metaStep; rw [if_neg (by omega), if_pos (by omega)])
        go_wp2_with (first | (go_at_call 11; refine (place_c n _ hn1 hn2).mono ?_; rintro e w' ⟨rfl, rfl⟩; rw [E.out]; simp only [plV]) | (at_mapUpdate; refine wpList_mapUpdate_own _ rfl _ _ _ 34 rfl 35 3 law35 Try.underlying34 _ w.heap.size _ _ rfl hown (by unfold maxLen; omega) _ _ _ rfl rfl (key_kl 1 0 (by constructor <;> omega) (by constructor <;> omega)) _ [] (plainElem_int Try.underlying3 (by decide)) ?_; intro w1 hown1 hown1g))
        go_roundw
        case rel => exact ⟨k + 1, by omega, by go_num, by rw [hM.out, F.out]; exact ⟨_, hown1.mono (by omega), hD.put 1 0 (by constructor <;> omega) (by constructor <;> omega) _⟩, hbel.grown hown1g hbel.size (fun j hj => by cases hj; exact Nat.le_refl _)⟩
        case measure => simp [intOf]; omega
      · have E := hide (show plN n = (2, (n - 264) / 256, (n - 264) % 256, true) by unfold plN; rw [if_neg (by omega), if_neg (by omega), if_neg (by omega)])
        have F := hide (show metaStep (metaS (zs.take k)) n = ins (2, (n - 264) / 256) (ins (2, -1) (metaS (zs.take k))) by unfold metaStep; rw [if_neg (by omega), if_neg (by omega)])
        go_wp2_with (first | (go_at_call 11; refine (place_c n _ hn1 hn2).mono ?_; rintro e w' ⟨rfl, rfl⟩; rw [E.out]; simp only [plV]) | (at_mapUpdate; refine wpList_mapUpdate_own _ rfl _ _ _ 34 rfl 35 3 law35 Try.underlying34 _ w.heap.size _ _ rfl hown1 (by unfold maxLen; omega) _ _ _ rfl rfl (key_kl 2 ((n - 264) / 256) (by constructor <;> omega) (by constructor <;> omega)) _ [] (plainElem_int Try.underlying3 (by decide)) ?_; intro w2 hown2 hown2g) | (at_mapUpdate; refine wpList_mapUpdate_own _ rfl _ _ _ 34 rfl 35 3 law35 Try.underlying34 _ w.heap.size _ _ rfl hown (by unfold maxLen; omega) _ _ _ rfl rfl (key_kl 2 (-1) (by constructor <;> omega) (by constructor <;> omega)) _ [] (plainElem_int Try.underlying3 (by decide)) ?_; intro w1 hown1 hown1g))
        go_roundw
        case rel => exact ⟨k + 1, by omega, by go_num, by rw [hM.out, F.out]; exact ⟨_, hown2.mono (by omega), (hD.put 2 (-1) (by constructor <;> omega) (by constructor <;> omega) _).put 2 ((n - 264) / 256) (by constructor <;> omega) (by constructor <;> omega) _⟩, (hbel.grown hown1g hbel.size (fun j hj => by cases hj; exact Nat.le_refl _)).grown hown2g (Nat.le_trans hbel.size hown1g.size) (fun j hj => by cases hj; exact Nat.le_refl _)⟩
        case measure => simp [intOf]; omega
    · have hkl : k = zs.length := by omega
      have hS : Maps.size D = (metaS zs).length := by rw [hD.2.1, hkl, List.take_length]
      have HS := hide hS
      clear hkl hS
      go_wp2_with (at_len; refine wpList_len_own _ rfl _ 34 rfl 35 3 Try.underlying34 _ w.heap.size _ D rfl hown ?_)
      go_ret
      exact ⟨by rw [← HS.out]; rfl, hbel⟩
end Go.Proofs.Ytegkgcdcglaemaa
