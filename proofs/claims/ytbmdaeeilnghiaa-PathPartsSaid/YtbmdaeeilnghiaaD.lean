/-
  The walk of the law PathBounds: it answers true at every input.
-/
import Derived.Test.YtbmdaeeilnghiaaC
namespace Go.Proofs.Ytbmdaeeilnghiaa
set_option linter.unusedVariables false
set_option linter.unusedSimpArgs false
open Go.RowKit Go.Shelf

def nn (k : Nat) : Bytes8 := List.replicate k 110
def seg (j k : Nat) : Bytes8 := (List.replicate j (47 :: nn k)).flatten
theorem nn_succ (k : Nat) : nn (k + 1) = nn k ++ [110] := List.replicate_succ'
theorem seg_succ (j k : Nat) : seg (j + 1) k = seg j k ++ (47 :: nn k) := by simp [seg, List.replicate_succ', List.flatten_append]
theorem nn_len (k : Nat) : (nn k).length = k := by simp [nn]
theorem seg_len (j k : Nat) : (seg j k).length = j * (k + 1) := by simp [seg, nn]
theorem nn_noslash (k : Nat) : (47 : UInt8) ∉ nn k := by simp [nn]
theorem seg_parts (j k : Nat) : ∃ t, seg (j + 1) k = 47 :: t ∧ partsL t = List.replicate (j + 1) (nn k) := by
  induction j with
  | zero => exact ⟨nn k, by simp [seg], by rw [partsL_one (nn_noslash k)]; rfl⟩
  | succ j ih =>
    obtain ⟨t, h1, h2⟩ := ih
    refine ⟨nn k ++ 47 :: t, ?_, ?_⟩
    · have : seg (j + 1 + 1) k = 47 :: nn k ++ seg (j + 1) k := by simp [seg, List.replicate_succ]
      rw [this, h1]; rfl
    · rw [partsL_cut (nn_noslash k), h2]; rfl
theorem nn_ok (k : Nat) (hk : 1 ≤ k) : okP (nn k) = decide (k ≤ 27) := by
  have h0 : nn k ≠ [] := by intro h; have := nn_len k; rw [h] at this; simp at this; omega
  have h1 : (nn k).contains 0 = false := by simp [nn]
  have h2 : (nn k).contains 47 = false := by simp [nn]
  have h3 : (nn k == [46]) = false := by
    rw [beq_eq_false_iff_ne]; intro h
    have : (46 : UInt8) ∈ nn k := by rw [h]; simp
    simp [nn] at this
  have h4 : (nn k == [46, 46]) = false := by
    rw [beq_eq_false_iff_ne]; intro h
    have : (46 : UInt8) ∈ nn k := by rw [h]; simp
    simp [nn] at this
  have h5 : (nn k).isEmpty = false := by simpa using h0
  simp only [okP, nameL, h1, h2, h3, h4, h5, nn_len]
  simp
theorem seg_split (j k : Nat) (hk : 1 ≤ k) : (k ≤ 27 ∧ (seg (j + 1) k).length ≤ 500 ∧ splitL (seg (j + 1) k) = some (List.replicate (j + 1) (nn k)) ∧ (List.replicate (j + 1) (nn k)).length = j + 1) ∨ (¬ (k ≤ 27 ∧ (seg (j + 1) k).length ≤ 500) ∧ splitL (seg (j + 1) k) = none) := by
  obtain ⟨t, h1, h2⟩ := seg_parts j k
  have hl : (seg (j + 1) k).length = t.length + 1 := by rw [h1]; rfl
  rw [hl, h1, splitL_cons]
  have ht : t ≠ [] := by
    intro h; rw [h] at h2
    have : nn k = [] := by
      have := congrArg (fun l => l.head?) h2; simp [partsL, List.replicate_succ] at this; first | exact this | exact this.symm
    have := nn_len k; rw [‹nn k = []›] at this; simp at this; omega
  have hall : (partsL t).all okP = decide (k ≤ 27) := by
    rw [h2, Bool.eq_iff_iff, List.all_eq_true]
    constructor
    · intro h; rw [← nn_ok k hk]; exact h _ (by simp)
    · intro h x hx; rw [List.eq_of_mem_replicate hx, nn_ok k hk]; exact h
  by_cases a : t.length + 1 ≤ 500
  · rw [if_neg (by simp; omega), if_neg ht, hall]
    by_cases b : k ≤ 27
    · exact .inl ⟨b, a, by simp [b, h2], by simp⟩
    · exact .inr ⟨by omega, by simp [b]⟩
  · exact .inr ⟨by omega, by rw [if_pos (.inr (by omega))]⟩
theorem split_k (l : Bytes8) (ps : List Bytes8) (h : splitL l = some ps) (w : World) (hs : (bs l).size ≤ 140737488355328) :
    Calls Try.prog 8 #[.string (bs l)] w fun e w' => ∃ A c, e = .returned (.tuple #[.slice A ps.length c, .int .i64 0]) ∧ Below w.heap.size w w' :=
  (split_c (bs l) w hs).mono fun e w' ⟨v, h1, h2, h3⟩ => by
    rw [bs_data, h] at h1 h2
    obtain ⟨A, c, rfl⟩ := own_slice h2
    exact ⟨A, c, h1, h3⟩
theorem split_n (l : Bytes8) (h : splitL l = none) (w : World) (hs : (bs l).size ≤ 140737488355328) :
    Calls Try.prog 8 #[.string (bs l)] w fun e w' => ∃ A c, e = .returned (.tuple #[.slice A 0 c, .int .i64 15]) ∧ Below w.heap.size w w' :=
  (split_c (bs l) w hs).mono fun e w' ⟨v, h1, h2, h3⟩ => by
    rw [bs_data, h] at h1 h2
    obtain ⟨A, c, rfl⟩ := own_slice h2
    exact ⟨A, c, h1, h3⟩

set_option maxHeartbeats 2000000 in
set_option maxRecDepth 100000 in
theorem PathBounds_walk (w : World) (name : Int) (w0 : (Lit.int .i64 name).wf = true) (parts : Int) (w1 : (Lit.int .i64 parts).wf = true) :
    Calls Try.prog 3 #[.int .i64 name, .int .i64 parts] w fun e w' => e = .returned (.bool true) ∧ Below w.heap.size w w' := by
  clear w0 w1
  by_cases a1 : name < 1
  · go_enter Try.func3, Try.ntmps3
    go_wp2_with (go_at_call 7; refine (alive_c _).mono ?_; rintro e w1 ⟨rfl, hb⟩)
    go_ret
    exact ⟨rfl, hb⟩
  have a1' : 1 ≤ name := by omega
  by_cases a2 : 40 < name
  · clear a1
    go_enter Try.func3, Try.ntmps3
    go_wp2_with (go_at_call 7; refine (alive_c _).mono ?_; rintro e w1 ⟨rfl, hb⟩)
    go_ret
    exact ⟨rfl, hb⟩
  have a2' : name ≤ 40 := by omega
  clear a1 a2
  by_cases a1 : parts < 1
  · go_enter Try.func3, Try.ntmps3
    go_wp2_with (go_at_call 7; refine (alive_c _).mono ?_; rintro e w1 ⟨rfl, hb⟩)
    go_ret
    exact ⟨rfl, hb⟩
  have a3' : 1 ≤ parts := by omega
  by_cases a2 : 300 < parts
  · clear a1
    go_enter Try.func3, Try.ntmps3
    go_wp2_with (go_at_call 7; refine (alive_c _).mono ?_; rintro e w1 ⟨rfl, hb⟩)
    go_ret
    exact ⟨rfl, hb⟩
  have a4' : parts ≤ 300 := by omega
  clear a1 a2
  obtain ⟨name, rfl⟩ := Int.eq_ofNat_of_zero_le (show 0 ≤ name by omega)
  obtain ⟨parts, rfl⟩ := Int.eq_ofNat_of_zero_le (show 0 ≤ parts by omega)
  go_enter Try.func3, Try.ntmps3
  go_wp2_with (go_at_call 7; refine (alive_c _).mono ?_; rintro e w1 ⟨rfl, hb⟩)
  have hszr := hb.size
  go_loop [6, 7] (fun s i => ∃ k : Nat, k ≤ name ∧ i = .int .i64 k ∧ s = .string (bs (nn k))) (fun _ i => name - (intOf i).toNat)
  case atStart => exact ⟨0, by omega, rfl, rfl⟩
  case round =>
    obtain ⟨k, hk, rfl, rfl⟩ := hrel
    by_cases hlt : k < name
    · have hz : ((bs (nn k)).size : Int) ≤ 40 := by rw [bs_size, nn_len]; omega
      have hz1 : ((⟨#[110]⟩ : ByteArray).size : Int) = 1 := rfl
      have E := hide (show bs (nn k) ++ (⟨#[110]⟩ : ByteArray) = bs (nn (k + 1)) by rw [nn_succ]; exact bs_append _ _)
      go_wp2
      go_round
      case rel => exact ⟨k + 1, by omega, by go_num, by rw [← E.out]⟩
      case measure => simp [intOf]; omega
    · have hkn : k = name := by omega
      subst hkn
      clear hlt hk
      have hz : ((bs (nn k)).size : Int) ≤ 40 := by rw [bs_size, nn_len]; omega
      go_wp2
      go_loopw [8, 9] (fun p i wr => ∃ j : Nat, j ≤ parts ∧ i = .int .i64 j ∧ p = .string (bs (seg j k)) ∧ (seg j k).length ≤ 2000 ∧ Below w.heap.size w wr) (fun _ i _ => parts - (intOf i).toNat)
      case atStart => exact ⟨0, by omega, rfl, rfl, by simp [seg], hb⟩
      case round =>
        obtain ⟨j, hj, rfl, rfl, hl2, hbr⟩ := hrel
        have hszr := hbr.size
        by_cases hlt : j < parts
        · have hz : ((bs (nn k)).size : Int) ≤ 40 := by rw [bs_size, nn_len]; omega
          have hz1 : ((⟨#[47]⟩ : ByteArray).size : Int) = 1 := rfl
          have hz2 : ((bs (seg j k)).size : Int) ≤ 2000 := by rw [bs_size]; omega
          have hz3 : ((bs (seg j k) ++ (⟨#[47]⟩ : ByteArray)).size : Int) ≤ 2001 := by rw [ByteArray.size_append]; omega
          have E := hide (show bs (seg j k) ++ (⟨#[47]⟩ : ByteArray) ++ bs (nn k) = bs (seg (j + 1) k) by rw [seg_succ, ← bs_append, show (47 :: nn k : Bytes8) = [47] ++ nn k from rfl, ← bs_append, ByteArray.append_assoc]; rfl)
          have hl3 : (seg (j + 1) k).length = (seg j k).length + (k + 1) := by rw [seg_succ]; simp [nn_len]
          by_cases hbig : 2000 < (seg (j + 1) k).length
          · have hX := seg_split j k (by omega)
            have hXX := hide (show splitL (seg (j + 1) k) = none by
              rcases hX with ⟨_, h, _⟩ | ⟨_, h⟩
              · omega
              · exact h)
            have hz4 : (2000 : Int) < ((bs (seg j k)).size : Int) + 1 + ((bs (nn k)).size : Int) := by rw [bs_size, bs_size, nn_len]; omega
            have hz5 : ((bs (seg j k)).size : Int) + 1 + ((bs (nn k)).size : Int) ≤ 2100 := by rw [bs_size, bs_size, nn_len]; omega
            have HC := hide (show Calls Try.prog 8 #[.string (bs (seg j k) ++ (⟨#[47]⟩ : ByteArray) ++ bs (nn k))] wr fun e w' => ∃ A c, e = .returned (.tuple #[.slice A 0 c, .int .i64 15]) ∧ Below wr.heap.size wr w' by
              rw [E.out]; exact split_n _ hXX.out wr (by rw [bs_size]; omega))
            clear hX hXX E
            by_cases h27 : (k : Int) ≤ 27
            · go_wp2_with (first | (go_at_call 8; refine HC.out.mono ?_; rintro e w3 ⟨A, c, rfl, hb3⟩) | (go_at_call 9; refine (num_c _ _).mono ?_; rintro e w' ⟨rfl, rfl⟩))
              go_ret
              exact ⟨by first | rfl | simp, hbr.trans (hb3.mono hszr)⟩
            · have h27' : (27 : Int) < (k : Int) := by omega
              clear h27
              go_wp2_with (first | (go_at_call 8; refine HC.out.mono ?_; rintro e w3 ⟨A, c, rfl, hb3⟩) | (go_at_call 9; refine (num_c _ _).mono ?_; rintro e w' ⟨rfl, rfl⟩))
              go_ret
              exact ⟨by first | rfl | simp, hbr.trans (hb3.mono hszr)⟩
          · have hz4 : ((bs (seg j k)).size : Int) + 1 + ((bs (nn k)).size : Int) ≤ 2000 := by rw [bs_size, bs_size, nn_len]; omega
            go_wp2
            go_roundw
            case rel => exact ⟨j + 1, by omega, by go_num, by rw [← E.out], by omega, hbr⟩
            case measure => simp [intOf]; omega
        · have hjn : j = parts := by omega
          subst hjn
          clear hlt hj
          obtain ⟨j, rfl⟩ : ∃ m, j = m + 1 := ⟨j - 1, by omega⟩
          have hX := seg_split j k (by omega)
          have HLL := hide (seg_len (j + 1) k)
          generalize seg (j + 1) k = l at hX hl2 HLL ⊢
          generalize List.replicate (j + 1) (nn k) = ps at hX
          have hps : ((bs l).size : Int) = (l.length : Int) := by rw [bs_size]
          have hps' : (bs l).size ≤ 2100 := by rw [bs_size]; omega
          have HL := hide hps
          rcases hX with ⟨hn27, hl500, hsp, hpl⟩ | ⟨hno, hsp⟩
          · have HC := hide (split_k l _ hsp wr (by rw [bs_size]; omega))
            have q1 : ((bs l).size : Int) ≤ 500 := by omega
            have HP := hide hpl
            clear hps hsp hpl HL
            go_wp2_with (first | (go_at_call 8; refine HC.out.mono ?_; rintro e w3 ⟨A, c, rfl, hb3⟩; rw [HP.out]) | (go_at_call 9; refine (num_c _ _).mono ?_; rintro e w' ⟨rfl, rfl⟩))
            go_ret
            exact ⟨by first | rfl | simp, hbr.trans (hb3.mono hszr)⟩
          · have HC := hide (split_n l hsp wr (by rw [bs_size]; omega))
            clear hsp
            by_cases h27 : (k : Int) ≤ 27
            · have q1 : (500 : Int) < ((bs l).size : Int) := by omega
              clear hps HL hno
              go_wp2_with (first | (go_at_call 8; refine HC.out.mono ?_; rintro e w3 ⟨A, c, rfl, hb3⟩) | (go_at_call 9; refine (num_c _ _).mono ?_; rintro e w' ⟨rfl, rfl⟩))
              go_ret
              exact ⟨by first | rfl | simp, hbr.trans (hb3.mono hszr)⟩
            · have h27' : (27 : Int) < (k : Int) := by omega
              clear hps HL hno h27
              go_wp2_with (first | (go_at_call 8; refine HC.out.mono ?_; rintro e w3 ⟨A, c, rfl, hb3⟩) | (go_at_call 9; refine (num_c _ _).mono ?_; rintro e w' ⟨rfl, rfl⟩))
              go_ret
              exact ⟨by first | rfl | simp, hbr.trans (hb3.mono hszr)⟩

end Go.Proofs.Ytbmdaeeilnghiaa
