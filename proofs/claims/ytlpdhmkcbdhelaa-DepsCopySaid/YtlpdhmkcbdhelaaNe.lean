/-
  The walk of deps.Graph.Need. Conditions: the rows are few.
-/
import Derived.Test.YtlpdhmkcbdhelaaNp
import Derived.Test.YtlpdhmkcbdhelaaC
import Derived.Test.YtlpdhmkcbdhelaaCo
import Derived.Deep.LoopGhost
namespace Go.Proofs.Ytlpdhmkcbdhelaa
set_option linter.unusedVariables false
set_option linter.unusedSimpArgs false
open Go.RowKit Go.Maps

theorem row_pop {W : World} {n g c : Nat} {e : TypeId} {k : Nat} {way : List Int} {x : Int} (h : W.ownsRow n e 1 (.slice (some ⟨g, 0, none⟩) (k + 1) c) (k + 1) (ints (way ++ [x]))) (hk : way.length = k) : W.ownsRow n e 1 (.slice (some ⟨g, 0, none⟩) k c) k (ints way) := by
  obtain ⟨h1, h2⟩ := h
  rcases h2 with ⟨h2, _⟩ | ⟨g', cap, cur, he, hb, hh, h3, h4, h5, h6⟩
  · cases h2
  · cases he
    refine ⟨by rw [ints_len]; omega, .inr ⟨g, c, cur, rfl, hb, hh, by omega, h4, h5, ?_⟩⟩
    have h7 : (cur.toList.take ((k + 1) * 1)).take k = (ints (way ++ [x])).take k := by rw [h6]
    rw [List.take_take, Nat.min_eq_left (by omega)] at h7
    rw [Nat.mul_one, h7]
    unfold ints
    rw [List.map_append, List.take_append_of_le_length (by simp; omega), List.take_of_length_le (by simp; omega)]
theorem OwnV.ne_cell {w : World} {b s : Nat} {f : Int → Option Value} (h : OwnV Try.prog 3 w b f s) {a j : Nat} {v : Value} (hc : w.cell? ⟨a, j, none⟩ = some v) : a ≠ b := fun e => by
  obtain ⟨es, clock, ho⟩ := h.obj
  subst e
  simp [World.cell?, ho] at hc
theorem Ints.grownMap {w w' : World} {b s B : Nat} {f : Int → Option Value} {A : Option Addr} {zs : List Int} (hm : OwnV Try.prog 3 w b f s) (h : Ints B w A zs) (hg : w.grownBy w' (some b)) : Ints B w' A zs := fun hne => by
  obtain ⟨k, off, e, hk, hc⟩ := h hne
  exact ⟨k, off, e, hk, fun j hj => hg.cell (hc j hj) (fun e => hm.ne_cell (hc j hj) (Option.some.inj e))⟩
theorem setF_mark (s : Int → Bool) (id : Int) : setF (fun x => if x = id then true else s x) = fun x => if x = id then some (.bool true) else setF s x := by
  funext x
  unfold setF
  by_cases e : x = id <;> simp [e]
theorem Of_get {r : List Rc} {i : Nat} (h : i < (Of r).l.length) : (Of r).l[i] = ofC r i := by simp [Of]
def NeP (n : Nat) (w : World) (ps F : List Atom) (sb : Nat) (A : Option Addr) (k c : Nat) (way : List Int) (s : Int → Bool) (W : World) : Prop :=
  Own n w W (rowA 3 1 (.slice A k c) k (ints way) :: mpA sb (setF s) :: (ps ++ F))
section
variable {n g : Nat} {w W : World} {F ps : List Atom} {r : List Rc}
set_option maxHeartbeats 4000000 in
theorem need_c (hg : Gr g r ps) (ho : Own n w W (ps ++ F)) (A : Option Addr) (c : Nat) (ids : List Int) (hl : ids.length < 274877906944) (hr : Reads n w F A ids) :
    Calls Try.prog 23 #[.pointer (some ⟨g, 0, none⟩), .slice A ids.length c] W fun e W' => ∃ v xs, e = .returned v ∧ needR r ids xs ∧ Own n w W' (rowA 3 1 v xs.length (ints xs) :: (ps ++ F)) := by
  have h1 := ho.new (.map #[] 0) (mpA W.heap.size (setF (fun _ => false))) rfl ⟨0, OwnV.made W Try.prog 3⟩
  have hX := hr (W.alloc (.map #[] 0)) (h1.tail.sub (List.sublist_append_right _ _))
  have HCL := hide (clone31_c A ids.length c (ints ids) (W.alloc (.map #[] 0)) (by rw [ints_len]; omega) hX.cells (by intro u hu; unfold ints at hu; obtain ⟨z, _, rfl⟩ := List.mem_map.1 hu; rfl) (by omega))
  have HO := hide h1
  have HG := hide hg
  have hmm := @run_makeMap Try.prog
  obtain ⟨sb, hsb⟩ : ∃ sb, W.heap.size = sb := ⟨_, rfl⟩
  rw [hsb] at HO
  have HSB := hide hsb
  clear ho hr hX h1 hg hsb
  go_enter Try.func23, Try.ntmps23
  go_wp2_with (go_at_call 31; refine HCL.out.mono ?_; rintro e W1 ⟨v, rfl, hv, hb⟩; obtain ⟨A1, c1, rfl⟩ := own_slice hv; have H1 := hide (show NeP n w ps F sb A1 ids.length c1 ids (fun _ => false) W1 from HO.out.moreRow hb hv); clear hv hb)
  rw [HSB.out]
  have HM := hide (show rest r (fun _ => false) + ids.length ≤ tot r + r.length + ids.length from by have := rest_le r (fun _ => false); omega)
  go_loopg [6] (rest r (fun _ => false) + ids.length) (fun m v W => ∃ (A : Option Addr) (k c : Nat) (way : List Int) (s : Int → Bool), v = .slice A k c ∧ way.length = k ∧ Hid (m = rest r s + k) ∧ Hid (m ≤ tot r + r.length + ids.length) ∧ Hid (NInv r ids s way) ∧ Hid (NeP n w ps F sb A k c way s W))
  case atStart => exact ⟨A1, ids.length, c1, ids, fun _ => false, rfl, rfl, hide rfl, HM, hide (NInv.start r ids), H1⟩
  case round =>
    obtain ⟨A2, k, c2, way, s, rfl, hk, HM1, HM2, HI, HN⟩ := hrel
    have HK := hide hk
    clear hk H1 HCL HO HSB
    by_cases h0 : 0 < k
    · obtain ⟨j, hj⟩ : ∃ j, k = j + 1 := ⟨k - 1, by omega⟩
      have hne : way ≠ [] := by intro e; have := HK.out; rw [e] at this; simp at this; omega
      obtain ⟨l, x, hwx⟩ : ∃ l x, way = l ++ [x] := ⟨way.dropLast, way.getLast hne, (List.dropLast_concat_getLast hne).symm⟩
      subst hwx
      have hlj : l.length = j := by have := HK.out; simp at this; omega
      have hrow : wr.ownsRow n 3 1 (.slice A2 k c2) k (ints (l ++ [x])) := HN.out.row
      obtain ⟨ga, rfl⟩ := row_form hrow (by omega)
      have x0 : wr.cell? ⟨ga, j, none⟩ = some (.int .i64 x) := by
        have := hrow.cellAt j (by omega)
        rw [this]
        unfold ints
        rw [List.map_append, List.getElem?_append_right (by simp; omega)]
        simp [hlj]
      have hkc : k ≤ c2 := by
        rcases hrow.2 with ⟨h2, _⟩ | ⟨g', cap, cur, he, hb, hh, h3, h4, h5, h6⟩
        · cases h2
        · cases he; exact h3
      have p0 : (0 : Int) < (k : Int) := by omega
      have p1 : IntKind.i64.wrap ((k : Int) - 1) = (j : Int) := by
        have e : ((k : Int) - 1) = (j : Int) := by omega
        rw [e]; exact IntWalk.i64_in _ (by have := HM1.out; have := HM2.out; have := HG.out.len; have := HG.out.tot; omega)
      have p2 : (0 : Int) ≤ (j : Int) := by omega
      have p3 : (j : Int) < (k : Int) := by omega
      have p4 : (j : Int) ≤ (c2 : Int) := by omega
      have HJ := hide hj
      have HLJ := hide hlj
      have HP := hide (show Own n w wr (rowA 3 1 (.slice (some ⟨ga, 0, none⟩) j c2) j (ints l) :: mpA sb (setF s) :: (ps ++ F)) from by
        have h := HN.out
        subst hj
        exact h.turn (a' := rowA 3 1 (.slice (some ⟨ga, 0, none⟩) j c2) j (ints l)) rfl (row_base (row_pop hrow hlj)))
      have hq : ∀ a ∈ ps, a.Q wr := fun a ha => HN.out.hold a (List.mem_cons_of_mem _ (List.mem_cons_of_mem _ (List.mem_append_left _ ha)))
      have HC := hide (is_c HG.out.is hq HG.out.fit x)
      have hskip : (¬ good r x ∨ s x = true) → Hid (NInv r ids s l) := fun h => hide (HI.out.skip h)
      clear hj hlj hne hrow hkc
      by_cases hb : 0 ≤ x ∧ x < (r.length : Int)
      · have hB : isB (Of r) x = true := by rw [isB_of]; simpa using hb
        rw [hB] at HC
        clear hB
        obtain ⟨i, rfl⟩ := Int.eq_ofNat_of_zero_le hb.1
        have hil : i < r.length := by omega
        have hil' : i < (Of r).l.length := by rw [Of_len]; exact hil
        obtain ⟨gl, vl, cl, bb, nb, von, vto, rfl, z0, -, z1, -, -, z4, -, -, hon, -⟩ := HG.out.is.cellAt hq hil'
        rw [Of_len] at z0
        rw [Of_get hil'] at z4 hon
        have hdn : (ofC r i).done = (rd r (i : Int)).done := by unfold rd; rw [Int.toNat_natCast]; rfl
        have hov : (ofC r i).on = (rd r (i : Int)).on := by unfold rd; rw [Int.toNat_natCast]; rfl
        rw [hdn] at z4
        rw [hov] at hon
        obtain ⟨sz, hmS⟩ : ∃ z, OwnV Try.prog 3 wr sb (setF s) z := HN.out.tail.head
        have hsz : sz ≤ r.length := by
          have := hmS.size_le ((List.range r.length).map (fun i : Nat => (i : Int))) (fun x hx => mem_rangeI (by
            have h : s x = true := by unfold setF at hx; cases hs : s x with | true => rfl | false => rw [hs] at hx; simp at hx
            have := (HI.out.sound x h).good
            exact ⟨this.1, this.2.1⟩))
          simpa using this
        have hwi : (Lit.int .i64 (i : Int)).wf = true := wf64 (by have := HG.out.len; unfold I64; omega)
        have hlk : (Instr.lookup 62 (.map (some sb)) (.int .i64 (i : Int)) false).run Try.prog wr = .ok (.bool (s i)) wr := by
          have := hmS.look0 Try.underlying3 Try.underlying62 (zero4 wr) (i : Int) hwi
          rw [this]
          unfold setF
          cases s (i : Int) <;> rfl
        have q1 : (i : Int) < (r.length : Int) := by omega
        have q0 : (0 : Int) ≤ (i : Int) := by omega
        have HSZ := hide hsz
        have hlen := HG.out.len
        have HL := hide hlen
        have HONL := hide (show (rd r (i : Int)).on.length ≤ tot r from by unfold rd; rw [Int.toNat_natCast]; exact on_le_tot hil)
        have HT := hide HG.out.tot
        have HMK := hide (fun hd : (rd r (i : Int)).done = false => fun hs : s i = false => And.intro (rest_mark (r := r) (s := s) hb hs) (HI.out.mark ⟨hb.1, hb.2, hd⟩))
        have HSK := hide hskip
        have HOR := hide hon
        have HMS := hide hmS
        have HGD := hide (show good r (i : Int) ↔ (rd r (i : Int)).done = false from ⟨fun h => h.2.2, fun h => ⟨hb.1, hb.2, h⟩⟩)
        clear hdn hov hil hil' hsz hlen hq hskip hon hb hmS
        cases hd : (rd r (i : Int)).done with
        | true =>
          rw [hd] at z4
          have HS := HSK.out (.inl (fun h => by rw [HGD.out.1 h] at hd; cases hd))
          clear hd
          go_wp2_with (go_at_call 30; refine HC.out.mono ?_; rintro e w' ⟨rfl, rfl⟩)
          go_roundg (rest r s + j)
          case measure => have := HM1.out; have := HJ.out; omega
          case rel => exact ⟨_, j, c2, l, s, rfl, HLJ.out, hide rfl, hide (by have := HM1.out; have := HJ.out; have := HM2.out; omega), HS, HP⟩
        | false =>
          rw [hd] at z4
          cases hs : s (i : Int) with
          | true =>
            rw [hs] at hlk
            have HS := HSK.out (.inr hs)
            clear hd hs
            go_wp2_with (go_at_call 30; refine HC.out.mono ?_; rintro e w' ⟨rfl, rfl⟩)
            go_roundg (rest r s + j)
            case measure => have := HM1.out; have := HJ.out; omega
            case rel => exact ⟨_, j, c2, l, s, rfl, HLJ.out, hide rfl, hide (by have := HM1.out; have := HJ.out; have := HM2.out; omega), HS, HP⟩
          | false =>
            rw [hs] at hlk
            have HM := hide (HMK.out hd hs)
            obtain ⟨Ao, co, rfl⟩ := own_slice HOR.out
            have HOI := hide (Ints.of_own (B := wr.heap.size) HOR.out (Nat.le_refl _))
            generalize honv : (rd r (i : Int)).on = on at z1 HOI HOR HONL HM
            have HONV := hide honv
            clear hd hs honv
            go_upto_region 7 with (go_at_call 30; refine HC.out.mono ?_; rintro e w' ⟨rfl, rfl⟩)
            have hmx : sz < maxLen := by have := HSZ.out; have := HL.out; unfold maxLen; omega
            have HMX := hide hmx
            clear hmx
            go_upto_region 8 with (with_reducible refine wpList_putV rfl _ _ _ 62 (.inl rfl) 3 4 Try.underlying3 Try.underlying62 sb sz (setF s) rfl HMS.out HMX.out (i : Int) (.bool true) rfl rfl hwi ?_; intro w5 hown5 hg5; have HG5 := hide (And.intro hown5 hg5); clear hown5 hg5)
            obtain ⟨hown5, hg5⟩ := HG5.out
            clear HG5
            rw [← setF_mark] at hown5
            have y0 := hg5.cell z0 (fun e => HMS.out.ne_cell z0 (Option.some.inj e))
            have y1 := hg5.cell z1 (fun e => HMS.out.ne_cell z1 (Option.some.inj e))
            have H5 := hide ((HP.out.f1.grow hg5 (fun k hk => .inl hk) (a' := mpA sb (setF (fun x => if x = (i : Int) then true else s x))) ⟨_, hown5⟩).f1)
            have HO5 := hide (HOI.out.grownMap HMS.out hg5)
            clear hown5 hg5
            go_wp2_with (at_builtin; go_must (obtain ⟨i0, hi, hz0, hz1, hz2⟩ := info_parts infoCl3; refine wpList_append_src _ rfl _ _ 25 rfl n 3 i0 (.int .i64 0) 1 8 Try.underlying25 hi hz0 hz1 hz2 rfl (by decide) _ j (ints l) rfl H5.out.row wr.heap.size Ao on.length co (ints on) rfl (by rw [ints_len, Nat.mul_one]) HO5.out.cells (by intro u hu; unfold ints at hu; obtain ⟨z, _, rfl⟩ := List.mem_map.1 hu; rfl) (by have := HONL.out; have := HT.out; have := HJ.out; have := HM1.out; have := HM2.out; have := HL.out; unfold maxLen; omega) (by have := HONL.out; have := HT.out; have := HJ.out; have := HM1.out; have := HM2.out; have := HL.out; omega) H5.out.sz ?_); intro v' w6 hown hg hat; obtain ⟨A6, c6, rfl⟩ := own_slice hown; have H6 := hide (H5.out.growRow hown hg hat); clear hown hg hat hi hz0 hz1 hz2 i0)
            go_roundg (rest r (fun x => if x = (i : Int) then true else s x) + (j + on.length))
            case measure => have := HM1.out; have := HJ.out; have := HM.out.1; omega
            case rel => exact ⟨_, j + on.length, c6, l ++ on, fun x => if x = (i : Int) then true else s x, rfl, by rw [List.length_append, HLJ.out], hide rfl, hide (by have := HM1.out; have := HJ.out; have := HM2.out; have := HM.out.1; omega), hide HM.out.2, hide (by have := H6.out; rw [show ints l ++ ints on = ints (l ++ on) from by simp [ints]] at this; exact this)⟩
      · have hB : isB (Of r) x = false := by rw [isB_of]; simpa using hb
        rw [hB] at HC
        have HS := hskip (.inl (fun h => hb ⟨h.1, h.2.1⟩))
        clear hB hb hq hskip
        go_wp2_with (go_at_call 30; refine HC.out.mono ?_; rintro e w' ⟨rfl, rfl⟩)
        go_roundg (rest r s + j)
        case measure => have := HM1.out; have := HJ.out; omega
        case rel => exact ⟨_, j, c2, l, s, rfl, HLJ.out, hide rfl, hide (by have := HM1.out; have := HJ.out; have := HM2.out; omega), HS, HP⟩
    · obtain rfl : k = 0 := by omega
      obtain rfl : way = [] := List.length_eq_zero_iff.1 HK.out
      have p0 : ¬ (0 : Int) < ((0 : Nat) : Int) := by omega
      obtain ⟨sz, hmS⟩ : ∃ z, OwnV Try.prog 3 wr sb (setF s) z := HN.out.tail.head
      have hsz : sz ≤ r.length := by
        have := hmS.size_le ((List.range r.length).map (fun i : Nat => (i : Int))) (fun x hx => mem_rangeI (by
          have h : s x = true := by unfold setF at hx; cases hs : s x with | true => rfl | false => rw [hs] at hx; simp at hx
          have := (HI.out.sound x h).good
          exact ⟨this.1, this.2.1⟩))
        simpa using this
      have HS := hide (sortedB_c wr.heap.size sb sz (setF s) (wr.alloc (.cells #[.map (some sb)] 62)) (cellNew _ _ _) (hmS.alloc _) (by have := HG.out.len; omega))
      have HE := hide ((HN.out.tail.tail.alloc (.cells #[.map (some sb)] 62)))
      clear hmS hsz
      go_wp2_with (first
        | (go_at_call 39; refine (keys39_c _ _).mono ?_; rintro e w' ⟨rfl, rfl⟩)
        | (go_at_call 34; refine HS.out.mono ?_; rintro e w5 ⟨v, xs, rfl, hr, hx, hrow, hb5⟩; have HR := hide (And.intro hr (And.intro hx (And.intro hrow hb5))); clear hr hx hrow hb5))
      go_ret
      obtain ⟨hr, hx, hrow, hb5⟩ := HR.out
      refine ⟨v, xs, rfl, ⟨hr, fun x => (hx x).trans ?_⟩, HE.out.moreRow hb5 hrow⟩
      rw [← HI.out.final x]
      unfold setF
      cases s x <;> simp
end
end Go.Proofs.Ytlpdhmkcbdhelaa
