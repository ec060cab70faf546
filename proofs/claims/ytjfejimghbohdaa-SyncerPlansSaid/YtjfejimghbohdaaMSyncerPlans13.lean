/-
  The law SyncerBrings. No condition.
  The law SyncerPlans. No condition.
-/
import Derived.Test.YtjfejimghbohdaaMSyncerPlans12
namespace Go.Proofs.Ytjfejimghbohdaa
set_option linter.unusedVariables false
set_option linter.unusedSimpArgs false
open Go.RowKit Go.Maps

section
variable {n : Nat} {w W : World} {X : List Atom} {g : Nat} {r : List Rc}
theorem OneP.cellRow {l : List Int} {ga c : Nat} (h : OneP n w g r (rowA 3 1 (.slice (some ⟨ga, 0, none⟩) l.length c) l.length (ints l) :: X) W) {j : Nat} (hj : j < l.length) : W.cell? ⟨ga, j, none⟩ = some (.int .i64 l[j]) := by
  obtain ⟨pg, hg, ho⟩ := h
  have := ho.hold (rowA 3 1 (.slice (some ⟨ga, 0, none⟩) l.length c) l.length (ints l)) (by simp)
  have h2 := World.ownsRow.cellAt this j (by omega)
  exact h2.trans (ints_at hj)
theorem OneP.done (h : OneP n w g r X W) (id : Int) : Calls Try.prog 13 #[.pointer (some ⟨g, 0, none⟩), .int .i64 id] W fun e W' => e = .returned (.bool (doneR r id)) ∧ W = W' := by
  obtain ⟨pg, hg, ho⟩ := h
  exact gdone_c hg (fun a ha => ho.hold a (List.mem_append_left _ ha)) id
theorem OneP.need {ids : List Int} (h : OneP n w g r X W) (A : Option Addr) (c : Nat) (hl : ids.length < 274877906944) (hr : Reads n w X A ids) : Calls Try.prog 14 #[.pointer (some ⟨g, 0, none⟩), .slice A ids.length c] W fun e W' => ∃ xs A' c', e = .returned (.slice A' xs.length c') ∧ needR r ids xs ∧ Below n w W' := by
  obtain ⟨pg, hg, ho⟩ := h
  refine (need_c hg ho A c ids hl hr).mono ?_
  rintro e W' ⟨v, xs, rfl, hx, ho'⟩
  obtain ⟨A', c', rfl⟩ := own_slice ho'.row
  exact ⟨xs, A', c', rfl, hx, ho'.below⟩
theorem OneP.sm (h : OneP n w g r X W) : Sm r := by obtain ⟨pg, hg, ho⟩ := h; exact hg.sm
theorem OneP.holdX (h : OneP n w g r X W) : ∀ a ∈ X, a.Q W := by obtain ⟨pg, hg, ho⟩ := h; exact fun a ha => ho.hold a (List.mem_append_right _ ha)
end
set_option maxHeartbeats 16000000 in
set_option maxRecDepth 100000 in
theorem SyncerBrings_walk (w : World) (A0 : Option Addr) (len0 cap0 : Nat) (l : List Ac) (h1 : l.length = len0) (h2 : len0 ≤ cap0) (h3 : AcsOk l) (h4 : kAc.C w A0 l) (A1 : Option Addr) (len1 cap1 : Nat) (zs : List Int) (g1 : zs.length = len1) (g2 : len1 ≤ maxLen) (g3 : ∀ n ∈ zs, (Lit.int .i64 n).wf = true) (g4 : zs ≠ [] → ∃ x, A1 = some x ∧ x.block < w.heap.size ∧ ∀ j, j < zs.length → w.cell? (x.add j) = some (.int .i64 (zs.getD j 0))) :
    Calls Try.prog 3 #[.slice A0 len0 cap0, .slice A1 len1 cap1] w fun e w' => e = .returned (.bool true) ∧ Below w.heap.size w w' := by
  subst h1
  subst g1
  have HZ := hide (Reads.old (F := []) (n := w.heap.size) (w := w) (Ints.of_open (B := w.heap.size) g4))
  have HA := hide (alive7_c w)
  have HBG := hide (fun W hb => big_c (w := w) W A0 cap0 l h4 hb)
  have HBO := hide (fun W ho hf => both_c (w := w) (W := W) (F := []) ho A0 cap0 l h4 hf h3.1)
  have HRL := hide (rowsOf_le l l.length (Nat.le_refl _))
  rw [List.take_length] at HRL
  have HF2 := hide (fun (h : Few l) => h.1)
  clear h2 h3 h4 g2 g3 g4
  go_enter Try.func3, Try.ntmps3
  go_upto_region 3 with (first
    | (go_at_call 7; refine HA.out.mono ?_; rintro e W1 ⟨rfl, hb1⟩; have H1 := hide hb1; clear hb1)
    | (go_at_call 8; refine (HBG.out _ H1.out).mono ?_; rintro e w' ⟨⟨bb, rfl, hbb⟩, rfl⟩; have HBB := hide hbb; clear hbb))
  cases bb with
  | true =>
    go_wp2
    go_ret
    exact ⟨rfl, H1.out⟩
  | false =>
    by_cases hp : zs.length ≤ 200
    · have o1 : ¬ (200 : Int) < (zs.length : Int) := by omega
      have HB := hide (HBO.out W1 ((Own.start w).above H1.out) (HBB.out rfl))
      have HLE := hide (HF2.out (HBB.out rfl))
      clear H1 HBG HBO HA
      go_upto_region 8 with (go_at_call 9; refine HB.out.mono ?_; rintro e W2 ⟨g, b, rfl, h2⟩; have H2 := hide h2; clear h2)
      have HR0 := hide (show (rowsOf l).length ≤ 150 from by have := HRL.out.1; have := HLE.out; omega)
      clear HB HRL HLE HF2 HBB
      generalize rowsOf l = r at H2 HR0
      obtain ⟨pr, HR, HQ⟩ : ∃ pr, Hid (IsR b r pr) ∧ Hid (OneP w.heap.size w g r pr W2) := by
        obtain ⟨pg, pr, hg, hr, ho⟩ := H2.out
        rw [List.append_nil] at ho
        exact ⟨pr, hide hr, hide ⟨pg, hg, ho⟩⟩
      clear H2 o1
      have HZL := hide (show zs.length < 274877906944 from by omega)
      have hzl := HZL.out
      have hr150 := HR0.out
      have HZX := hide (fun (X : List Atom) => show Reads w.heap.size w X A1 zs from fun V hV => HZ.out V (hV.sub (List.nil_sublist _)))
      by_cases hin : ∀ x ∈ zs, 0 ≤ x ∧ x < (r.length : Int)
      · have HP := hide (planS_c (want := zs) (A := A1) (cw := cap1) HQ.out HZL.out (HZX.out pr) (by have := HR0.out; omega) hin)
        have HIN := hide hin
        clear hin
        go_upto_region 9 with (go_at_call 10; refine HP.out.mono ?_; rintro e W3 ⟨out, r2, A3, c3, rfl, hp, h3⟩; have H3 := hide h3; have HPL := hide hp; clear hp h3)
        clear HP HQ
        have HOL := hide (show out.length ≤ 150 from by have := HPL.out.len.2; have := leftR_le r; have := HR0.out; omega)
        have hol := HOL.out
        go_upto_region 12 with (go_at_call 11; refine (num11_c _ _).mono ?_; rintro e w' ⟨rfl, rfl⟩)
        go_loopg [12] out.length (fun m i wr => ∃ (k : Nat) (rk : List Rc), k ≤ out.length ∧ m = out.length - k ∧ i = .int .i64 k ∧ Hid (PlanR zs rk (out.drop k) r2) ∧ Hid (OneP w.heap.size w g rk (rowA 3 1 (.slice A3 out.length c3) out.length (ints out) :: pr) wr))
        case atStart => exact ⟨0, r, by omega, by omega, rfl, HPL, H3⟩
        case round =>
          obtain ⟨k, rk, hk, rfl, rfl, HK, HO⟩ := hrel
          clear H3
          by_cases hlt : k < out.length
          · obtain ⟨ga, rfl⟩ : ∃ ga, A3 = some ⟨ga, 0, none⟩ := by
              obtain ⟨pg, hg, ho⟩ := HO.out
              exact row_form ho.front.row (by omega)
            have HCUT := hide (HK.out.cut hlt)
            have HI := hide (HCUT.out.1.1.i64 HO.out.sm.buf)
            have HW := hide (HO.out.wr out[k] HI.out)
            have hnx : 0 < (nextR rk out[k]).length := List.length_pos_iff.2 HCUT.out.1.1.next
            have HNXT := hide HCUT.out.2
            have y0 := HO.out.cellRow hlt
            have HCN := hide (HPL.out.count out[k])
            have HCR := hide (fun (rr : List Rc) (V : World) (h : OneP w.heap.size w g rr (rowA 3 1 (.slice (some ⟨ga, 0, none⟩) out.length c3) out.length (ints out) :: pr) V) => h.cellRow hlt)
            have o1 : (k : Int) < (out.length : Int) := by omega
            have o2 : (0 : Int) ≤ (k : Int) := by omega
            clear HCUT HK HO
            generalize out[k] = x at HI HW hnx HNXT y0 HCN HCR
            generalize (nextR rk x).length = nl at HW hnx
            have z1 : ((nl : Int) == 0) = false := (int_neb (by omega)).1
            have z2 : ¬ nl = 0 := by omega
            go_upto_region 18 with (go_at_call 12; refine HW.out.mono ?_; rintro e W4 ⟨A4, c4, rfl, h4⟩; have H4 := hide h4; clear h4)
            clear HW z1 z2 y0
            generalize writtenR rk x = rn at H4 HNXT
            go_loopg [13, 14] out.length (fun m nn jj wr => ∃ (j : Nat) (v : Int), j ≤ out.length ∧ m = out.length - j ∧ nn = .int .i64 v ∧ jj = .int .i64 j ∧ Hid (v = (eqN (out.take j) x : Int)) ∧ Hid (OneP w.heap.size w g rn (rowA 3 1 (.slice (some ⟨ga, 0, none⟩) out.length c3) out.length (ints out) :: pr) wr))
            case atStart => exact ⟨0, 0, by omega, by omega, rfl, rfl, hide (by simp [eqN]), H4⟩
            case round =>
              obtain ⟨j, v, hj, rfl, rfl, rfl, HV, HJ⟩ := hrel
              clear H4
              by_cases hlt2 : j < out.length
              · have y1 := HJ.out.cellRow hlt2
                have y2 := HCR.out _ _ HJ.out
                have HE := hide (eqN_take out x hlt2)
                have hv0 : 0 ≤ v ∧ v ≤ 150 := by have := HV.out; have := eqN_le (out.take j) x; have := List.length_take_le j out; omega
                generalize out[j] = xj at y1 HE
                have q1 : (j : Int) < (out.length : Int) := by omega
                have q2 : (0 : Int) ≤ (j : Int) := by omega
                have HN := hide HJ.out.drew
                clear HJ
                by_cases he : xj = x
                · obtain ⟨m0, m1⟩ := int_eqb he
                  have HE2 := hide (show v + 1 = (eqN (out.take (j + 1)) x : Int) from by rw [HE.out, if_pos he]; have := HV.out; omega)
                  clear he
                  go_wp2
                  go_region
                  generalize wr.drew = Wz at HN ⊢
                  clear y1 y2
                  go_wp2
                  go_roundg (out.length - (j + 1))
                  case measure => omega
                  case rel => exact ⟨j + 1, v + 1, by omega, by omega, by go_num, by go_num, HE2, HN⟩
                · obtain ⟨m0, m1⟩ := int_neb he
                  have HE2 := hide (show v = (eqN (out.take (j + 1)) x : Int) from by rw [HE.out, if_neg he]; exact HV.out)
                  clear he
                  go_wp2
                  go_region
                  generalize wr.drew = Wz at HN ⊢
                  clear y1 y2
                  go_wp2
                  go_roundg (out.length - (j + 1))
                  case measure => omega
                  case rel => exact ⟨j + 1, v, by omega, by omega, rfl, by go_num, HE2, HN⟩
              · obtain rfl : j = out.length := by omega
                have q1 : ¬ (out.length : Int) < (out.length : Int) := by omega
                have HV2 := hide (show v = (eqN out x : Int) from by have := HV.out; rwa [List.take_length] at this)
                clear HV
                go_upto_region 23 with (fail)
                go_loopg [13, 15] r.length (fun m nn jj wr => ∃ (j : Nat) (v : Int), j ≤ r.length ∧ m = r.length - j ∧ nn = .int .i64 v ∧ jj = .int .i64 j ∧ Hid (v = (eqN out x : Int) - (bufN r x j : Int)) ∧ Hid (OneP w.heap.size w g rn (rowA 3 1 (.slice (some ⟨ga, 0, none⟩) out.length c3) out.length (ints out) :: pr) wr))
                case atStart => exact ⟨0, v, by omega, by omega, rfl, rfl, hide (by rw [HV2.out]; simp [bufN]), HJ⟩
                case round =>
                  obtain ⟨j, v, hj, rfl, rfl, rfl, HV, HJ2⟩ := hrel
                  clear HJ HV2
                  have hq : ∀ a ∈ pr, a.Q wr := fun a ha => HJ2.out.holdX a (List.mem_cons_of_mem _ ha)
                  by_cases hlt2 : j < r.length
                  · obtain ⟨gl, c', von, x0, x1, -, -, -⟩ := HR.out.cellAt hq hlt2
                    have y2 := HCR.out _ _ HJ2.out
                    have HE := hide (bufN_succ r x j)
                    have hv0 : -150 ≤ v ∧ v ≤ 150 := by have := HV.out; have := eqN_le out x; have := bufN_le r x j; omega
                    generalize (r.getD j zr).buf = xj at x1 HE
                    have q1 : (j : Int) < (r.length : Int) := by omega
                    have q2 : (0 : Int) ≤ (j : Int) := by omega
                    have HN := hide HJ2.out.drew
                    clear HJ2 hq
                    by_cases he : xj = x
                    · obtain ⟨m0, m1⟩ := int_eqb he
                      have HE2 := hide (show v - 1 = (eqN out x : Int) - (bufN r x (j + 1) : Int) from by rw [HE.out, if_pos he]; have := HV.out; omega)
                      clear he
                      go_wp2
                      go_region
                      generalize wr.drew = Wz at HN ⊢
                      clear x0 x1 y2
                      go_wp2
                      go_roundg (r.length - (j + 1))
                      case measure => omega
                      case rel => exact ⟨j + 1, v - 1, by omega, by omega, by go_num, by go_num, HE2, HN⟩
                    · obtain ⟨m0, m1⟩ := int_neb he
                      have HE2 := hide (show v = (eqN out x : Int) - (bufN r x (j + 1) : Int) from by rw [HE.out, if_neg he]; exact HV.out)
                      clear he
                      go_wp2
                      go_region
                      generalize wr.drew = Wz at HN ⊢
                      clear x0 x1 y2
                      go_wp2
                      go_roundg (r.length - (j + 1))
                      case measure => omega
                      case rel => exact ⟨j + 1, v, by omega, by omega, rfl, by go_num, HE2, HN⟩
                  · obtain rfl : j = r.length := by omega
                    have q1 : ¬ (r.length : Int) < (r.length : Int) := by omega
                    obtain ⟨Al, cl, x0⟩ := HR.out.slice hq
                    have q2 : ¬ (0 : Int) < v := by have := HV.out; have := HCN.out; omega
                    have q3 : v ≤ 0 := by omega
                    clear hq
                    go_wp2
                    go_roundg (out.length - (k + 1))
                    case measure => omega
                    case rel => exact ⟨k + 1, rn, by omega, by omega, by go_num, HNXT, HJ2⟩
          · obtain rfl : k = out.length := by omega
            have o1 : ¬ (out.length : Int) < (out.length : Int) := by omega
            obtain rfl : rk = r2 := by have := HK.out; rw [List.drop_length] at this; cases this; rfl
            have HND := hide (HO.out.need (ids := zs) A1 cap1 HZL.out (HZX.out _))
            have HDN := hide (fun (x : Int) (hx : x ∈ zs) => HPL.out.doneR hx (HIN.out x hx))
            have HNE := hide (fun (xs : List Int) (h : needR rk zs xs) => HPL.out.need h)
            go_upto_region 30 with (fail)
            go_loopg [16] zs.length (fun m i wq => ∃ k : Nat, k ≤ zs.length ∧ m = zs.length - k ∧ i = .int .i64 k ∧ wq = wr)
            case atStart => exact ⟨0, by omega, by omega, rfl, rfl⟩
            case round =>
              obtain ⟨k, hk, rfl, rfl, rfl⟩ := hrel
              by_cases hlt : k < zs.length
              · obtain ⟨ba, oa, rfl, _, hc⟩ := HZ.out _ HO.out.own0 (by intro e; rw [e] at hlt; simp at hlt)
                have y0 := hc k hlt
                have hgd : zs.getD k 0 = zs[k] := by simp [hlt]
                rw [hgd] at y0
                have HX := hide (HO.out.done zs[k])
                have hdd := HDN.out zs[k] (List.getElem_mem hlt)
                rw [hdd] at HX
                clear hc hgd hdd
                generalize zs[k] = x at y0 HX
                have q1 : (0 : Int) ≤ (k : Int) := by omega
                have q2 : (k : Int) < (zs.length : Int) := by omega
                go_wp2_with (go_at_call 13; refine HX.out.mono ?_; rintro e w' ⟨rfl, rfl⟩)
                go_roundg (zs.length - (k + 1))
                case measure => omega
                case rel => exact ⟨k + 1, by omega, by omega, by go_num, rfl⟩
              · obtain rfl : k = zs.length := by omega
                have q1 : ¬ (zs.length : Int) < (zs.length : Int) := by omega
                go_wp2_with (go_at_call 14; refine HND.out.mono ?_; rintro e W7 ⟨xs, A7, c7, rfl, hx, hb⟩; obtain rfl := HNE.out _ hx; have HBL := hide hb; clear hb hx)
                go_ret
                exact ⟨rfl, HBL.out⟩
      · have HP := hide (planNo_c (want := zs) (A := A1) (cw := cap1) HQ.out HZL.out (HZX.out pr) hin)
        clear hin
        go_wp2_with (first
          | (go_at_call 10; refine HP.out.mono ?_; rintro e w' ⟨rfl, rfl⟩)
          | (go_at_call 11; refine (num11_c _ _).mono ?_; rintro e w' ⟨rfl, rfl⟩))
        go_ret
        exact ⟨rfl, HQ.out.below'⟩
    · have o1 : (200 : Int) < (zs.length : Int) := by omega
      go_wp2
      go_ret
      exact ⟨rfl, H1.out⟩
end Go.Proofs.Ytjfejimghbohdaa
namespace Go.Proofs.Ytjfejimghbohdaa
set_option linter.unusedVariables false
set_option linter.unusedSimpArgs false
open Go.RowKit Go.Maps

/-- what Plan answers: the plan, or that there is none -/
def SpecX (want : List Int) (r : List Rc) (o : List Int) (z : Int) : Prop := ((∃ r2, PlanR want r o r2) ∧ z = 0 ∧ ∀ x ∈ want, 0 ≤ x ∧ x < (r.length : Int)) ∨ (o = [] ∧ z = 1 ∧ ¬ ∀ x ∈ want, 0 ≤ x ∧ x < (r.length : Int))
theorem SpecX.uniq {want : List Int} {r : List Rc} {o1 o2 : List Int} {z1 z2 : Int} (h1 : SpecX want r o1 z1) (h2 : SpecX want r o2 z2) : o1 = o2 ∧ z1 = z2 := by
  rcases h1 with ⟨⟨r1, h1⟩, e1, i1⟩ | ⟨h1, e1, i1⟩ <;> rcases h2 with ⟨⟨r2, h2⟩, e2, i2⟩ | ⟨h2, e2, i2⟩
  · exact ⟨(h1.uniq h2).1, e1.trans e2.symm⟩
  · exact absurd i1 i2
  · exact absurd i2 i1
  · exact ⟨h1.trans h2.symm, e1.trans e2.symm⟩
theorem SpecX.len {want : List Int} {r : List Rc} {o : List Int} {z : Int} (h : SpecX want r o z) : o.length ≤ r.length := by
  rcases h with ⟨⟨r1, h⟩, -⟩ | ⟨rfl, -⟩
  · have := h.len.2; have := leftR_le r; omega
  · simp
section
variable {n g b c cw : Nat} {w W : World} {F ps pr : List Atom} {r : List Rc} {want : List Int} {A : Option Addr}
set_option maxHeartbeats 4000000 in
theorem rplanNo_c (hg : IsR b r ps) (ho : Own n w W (ps ++ F)) (hl : want.length < 274877906944) (hr : Reads n w F A want) (hin : ¬ ∀ x ∈ want, 0 ≤ x ∧ x < (r.length : Int)) :
    Calls Try.prog 21 #[.pointer (some ⟨b, 0, none⟩), .slice A want.length cw] W fun e W' => e = .returned (.tuple #[.slice none 0 0, .int .i64 1]) ∧ Own n w W' (ps ++ F) := by
  obtain ⟨Al, cl, x0⟩ := hg.slice (fun a ha => ho.hold a (List.mem_append_left _ ha))
  have HW := hide (show Ints W.heap.size W A want from hr W (ho.sub (List.sublist_append_right _ _)))
  have HIN := hide hin
  have HO := hide ho
  have HL := hide hl
  clear hr hin ho hg hl
  go_enter Try.func21, Try.ntmps21
  go_wp2
  go_loopg [6] want.length (fun m i wr => ∃ k : Nat, k ≤ want.length ∧ m = want.length - k ∧ i = .int .i64 k ∧ (∃ q, wr = W.drewN q) ∧ Hid (∀ x ∈ want.take k, 0 ≤ x ∧ x < (r.length : Int)))
  case atStart => exact ⟨0, by omega, by omega, rfl, ⟨0, rfl⟩, hide (by simp)⟩
  case round =>
    obtain ⟨k, hk, rfl, rfl, ⟨q, rfl⟩, HK⟩ := hrel
    by_cases hlt : k < want.length
    · obtain ⟨ba, oa, rfl, _, hc⟩ := HW.out (by intro e; rw [e] at hlt; simp at hlt)
      have y0 := hc k hlt
      have hgd : want.getD k 0 = want[k] := by simp [hlt]
      rw [hgd] at y0
      have HS := hide (fun h : 0 ≤ want[k] ∧ want[k] < (r.length : Int) => show ∀ x ∈ want.take (k + 1), 0 ≤ x ∧ x < (r.length : Int) from fun x hx => by
        rw [List.take_succ_eq_append_getElem hlt] at hx
        rcases List.mem_append.1 hx with hx | hx
        · exact HK.out x hx
        · rw [List.mem_singleton.1 hx]; exact h)
      clear hc hgd
      generalize want[k] = x at y0 HS
      have o1 : (0 : Int) ≤ (k : Int) := by omega
      have o2 : (k : Int) < (want.length : Int) := by omega
      have hll := HL.out
      by_cases hx1 : x < 0
      · go_wp2
        go_quiet (fail)
        go_wp2
        go_ret2
        exact ⟨rfl, by first | exact HO.out.drewN _ | (rw [World.drewN_drewN]; exact HO.out.drewN _)⟩
      · by_cases hx2 : (r.length : Int) ≤ x
        · go_wp2
          go_quiet (fail)
          go_wp2
          go_ret2
          exact ⟨rfl, by first | exact HO.out.drewN _ | (rw [World.drewN_drewN]; exact HO.out.drewN _)⟩
        · have HT := hide (HS.out ⟨by omega, by omega⟩)
          go_wp2
          go_quiet (fail)
          go_wp2
          go_roundg (want.length - (k + 1))
          case measure => omega
          case rel => exact ⟨k + 1, by omega, by omega, by go_num, ⟨_, by first | rfl | (rw [World.drewN_drewN]; done)⟩, HT⟩
    · exact absurd (by have := HK.out; rwa [List.take_of_length_le (by omega)] at this) HIN.out
theorem OneP.both (hr : IsR b r pr) {rows : List Atom} (h : OneP n w g r (rows ++ pr) W) : BP n w g b r rows W := by
  obtain ⟨pg, hg, ho⟩ := h
  exact ⟨pg, pr, hg, hr, ho.perm (List.Perm.append_left _ List.perm_append_comm)⟩
theorem BP.one (h : BP n w g b r F W) : ∃ pr, IsR b r pr ∧ OneP n w g r (F ++ pr) W := by
  obtain ⟨pg, pr, hg, hr, ho⟩ := h
  exact ⟨pr, hr, pg, hg, ho.perm (List.Perm.append_left _ List.perm_append_comm)⟩
theorem Reads.appr (h : Reads n w F A want) : Reads n w (F ++ ps) A want := fun V hV => h V (hV.sub (List.sublist_append_left _ _))
theorem BP.planX (h : BP n w g b r F W) (hl : want.length < 274877906944) (hr : Reads n w F A want) (hrl : r.length < 274877906944) :
    Calls Try.prog 10 #[.pointer (some ⟨g, 0, none⟩), .slice A want.length cw] W fun e W' => ∃ o z A' c', e = .returned (.tuple #[.slice A' o.length c', .int .i64 z]) ∧ SpecX want r o z ∧ BP n w g b r (rowA 3 1 (.slice A' o.length c') o.length (ints o) :: F) W' := by
  obtain ⟨pr, hR, h1⟩ := h.one
  by_cases hin : ∀ x ∈ want, 0 ≤ x ∧ x < (r.length : Int)
  · refine (planS_c h1 hl hr.appr hrl hin).mono ?_
    rintro e W' ⟨o, r2, A', c', rfl, hp, h2⟩
    exact ⟨o, 0, A', c', rfl, .inl ⟨⟨r2, hp⟩, rfl, hin⟩, OneP.both (rows := _ :: F) hR h2⟩
  · refine (planNo_c h1 hl hr.appr hin).mono ?_
    rintro e W' ⟨rfl, rfl⟩
    exact ⟨[], 1, none, 0, rfl, .inr ⟨rfl, rfl, hin⟩, OneP.both (rows := _ :: F) hR h1.nilRow⟩
theorem BP.rplanX (h : BP n w g b r F W) (hl : want.length < 274877906944) (hr : Reads n w F A want) :
    Calls Try.prog 21 #[.pointer (some ⟨b, 0, none⟩), .slice A want.length cw] W fun e W' => ∃ o z A' c', e = .returned (.tuple #[.slice A' o.length c', .int .i64 z]) ∧ SpecX want r o z ∧ BP n w g b r (rowA 3 1 (.slice A' o.length c') o.length (ints o) :: F) W' := by
  obtain ⟨pg, pr, hg, hR, ho⟩ := h
  by_cases hin : ∀ x ∈ want, 0 ≤ x ∧ x < (r.length : Int)
  · refine (rplan_c hR hg.wf hg.sm ho.swp A cw want hl hr.app hin).mono ?_
    rintro e W' ⟨o, r2, A', c', rfl, hp, h2⟩
    exact ⟨o, 0, A', c', rfl, .inl ⟨⟨r2, hp⟩, rfl, hin⟩, pg, pr, hg, hR, h2.push.swp⟩
  · refine (rplanNo_c hR ho.swp hl hr.app hin).mono ?_
    rintro e W' ⟨rfl, h2⟩
    exact ⟨[], 1, none, 0, rfl, .inr ⟨rfl, rfl, hin⟩, pg, pr, hg, hR, (Own.nilRow h2 3 1).push.swp⟩
theorem BP.all (h : BP n w g b r F W) (hrl : r.length < 274877906944) :
    Calls Try.prog 19 #[.pointer (some ⟨g, 0, none⟩)] W fun e W' => ∃ out A' c', e = .returned (.slice A' out.length c') ∧ SpecX (allI r.length) r out 0 ∧ BP n w g b r (rowA 3 1 (.slice A' out.length c') out.length (ints out) :: F) W' := by
  obtain ⟨pr, hR, h1⟩ := h.one
  refine (all_c h1 hrl).mono ?_
  rintro e W' ⟨o, r2, A', c', rfl, hp, h2⟩
  exact ⟨o, A', c', rfl, .inl ⟨⟨r2, hp⟩, rfl, fun x hx => allI_mem.1 hx⟩, OneP.both (rows := _ :: F) hR h2⟩
theorem BP.below' (h : BP n w g b r F W) : Below n w W := by obtain ⟨pg, pr, hg, hR, ho⟩ := h; exact ho.below
theorem Gr.len150 (h : BP n w g b r F W) : r.length < 274877906944 := by obtain ⟨pg, pr, hg, hR, ho⟩ := h; exact hg.sm.len
end
set_option maxHeartbeats 16000000 in
set_option maxRecDepth 100000 in
theorem SyncerPlans_walk (w : World) (A0 : Option Addr) (len0 cap0 : Nat) (l : List Ac) (h1 : l.length = len0) (h2 : len0 ≤ cap0) (h3 : AcsOk l) (h4 : kAc.C w A0 l) (A1 : Option Addr) (len1 cap1 : Nat) (zs : List Int) (g1 : zs.length = len1) (g2 : len1 ≤ maxLen) (g3 : ∀ n ∈ zs, (Lit.int .i64 n).wf = true) (g4 : zs ≠ [] → ∃ x, A1 = some x ∧ x.block < w.heap.size ∧ ∀ j, j < zs.length → w.cell? (x.add j) = some (.int .i64 (zs.getD j 0))) :
    Calls Try.prog 6 #[.slice A0 len0 cap0, .slice A1 len1 cap1] w fun e w' => e = .returned (.bool true) ∧ Below w.heap.size w w' := by
  subst h1
  subst g1
  have HZ := hide (Reads.old (F := []) (n := w.heap.size) (w := w) (Ints.of_open (B := w.heap.size) g4))
  have HA := hide (alive7_c w)
  have HBG := hide (fun W hb => big_c (w := w) W A0 cap0 l h4 hb)
  have HBO := hide (fun W ho hf => both_c (w := w) (W := W) (F := []) ho A0 cap0 l h4 hf h3.1)
  have HRL := hide (rowsOf_le l l.length (Nat.le_refl _))
  rw [List.take_length] at HRL
  have HF2 := hide (fun (h : Few l) => h.1)
  clear h2 h3 h4 g2 g3 g4
  go_enter Try.func6, Try.ntmps6
  go_upto_region 3 with (first
    | (go_at_call 7; refine HA.out.mono ?_; rintro e W1 ⟨rfl, hb1⟩; have H1 := hide hb1; clear hb1)
    | (go_at_call 8; refine (HBG.out _ H1.out).mono ?_; rintro e w' ⟨⟨bb, rfl, hbb⟩, rfl⟩; have HBB := hide hbb; clear hbb))
  cases bb with
  | true =>
    go_wp2
    go_ret
    exact ⟨rfl, H1.out⟩
  | false =>
    by_cases hp : zs.length ≤ 200
    · have o1 : ¬ (200 : Int) < (zs.length : Int) := by omega
      have HB := hide (HBO.out W1 ((Own.start w).above H1.out) (HBB.out rfl))
      have HLE := hide (HF2.out (HBB.out rfl))
      clear H1 HBG HBO HA
      go_upto_region 8 with (go_at_call 9; refine HB.out.mono ?_; rintro e W2 ⟨g, b, rfl, h2⟩; have H2 := hide h2; clear h2)
      have HR0 := hide (show (rowsOf l).length ≤ 150 from by have := HRL.out.1; have := HLE.out; omega)
      clear HB HRL HLE HF2 HBB
      generalize rowsOf l = r at H2 HR0
      clear o1
      have HZL := hide (show zs.length < 274877906944 from by omega)
      have hzl := HZL.out
      have hr150 := HR0.out
      have HZX := hide (fun (X : List Atom) => show Reads w.heap.size w X A1 zs from fun V hV => HZ.out V (hV.sub (List.nil_sublist _)))
      have HP := hide (H2.out.planX (want := zs) (A := A1) (cw := cap1) HZL.out (HZX.out _) (by have := HR0.out; omega))
      clear H2
      go_upto_region 9 with (go_at_call 10; refine HP.out.mono ?_; rintro e W3 ⟨o, z, A3, c3, rfl, hs, h3⟩; have HS := hide hs; have H3 := hide (h3.rplanX (want := zs) (A := A1) (cw := cap1) HZL.out (HZX.out _)); clear hs h3)
      clear HP
      go_upto_region 10 with (go_at_call 21; refine H3.out.mono ?_; rintro e W4 ⟨o2, z2, A4, c4, rfl, hs, h4⟩; obtain ⟨rfl, rfl⟩ := HS.out.uniq hs; have H4 := hide (h4.sameK (A := A3) (B := A4) (l := o) (c := c3) (d := c4) (List.mem_cons_of_mem _ List.mem_cons_self) List.mem_cons_self (by have := hs.len; have := HR0.out; omega)); clear hs h4)
      clear H3
      have m1 : (z != z) = false := (int_eqb rfl).2
      go_upto_region 14 with (first
        | (go_at_call 11; refine (num11_c _ _).mono ?_; rintro e w' ⟨rfl, rfl⟩)
        | (go_at_call 18; refine H4.out.mono ?_; rintro e W5 ⟨rfl, h5⟩; have H5 := hide h5.tail.tail; clear h5))
      clear H4 HS m1
      obtain ⟨pr, HR, H6⟩ : ∃ pr, Hid (IsR b r pr) ∧ Hid (OneP w.heap.size w g r (rowA 3 1 (.slice none 0 0) 0 (ints (allI 0)) :: pr) W5) := by
        obtain ⟨pr, hR, h⟩ := H5.out.one
        exact ⟨pr, hide hR, hide h.nilRow⟩
      have HAS := hide allI_succ
      clear H5
      go_loopg [15, 14] r.length (fun m i v wr => ∃ (k : Nat) (A2 : Option Addr) (c2 : Nat), k ≤ r.length ∧ m = r.length - k ∧ i = .int .i64 k ∧ v = .slice A2 k c2 ∧ Hid (OneP w.heap.size w g r (rowA 3 1 (.slice A2 k c2) k (ints (allI k)) :: pr) wr))
      case atStart => exact ⟨0, none, 0, by omega, by omega, rfl, rfl, H6⟩
      case round =>
        obtain ⟨k, A2, c2, hk, rfl, rfl, rfl, H7⟩ := hrel
        clear H6
        obtain ⟨Al, cl, x0⟩ := HR.out.slice (fun a ha => H7.out.holdX a (List.mem_cons_of_mem _ ha))
        by_cases hlt : k < r.length
        · have p1 : (k : Int) < (r.length : Int) := by omega
          have HK := hide (show k ≤ 150 from by omega)
          go_wp2_with (at_builtin; go_must (obtain ⟨i0, hi, hz0, hz1, hz2⟩ := info_parts info3; obtain ⟨pg, hg, ho⟩ := H7.out; have HO := hide ho.front; refine wpList_append_own_at _ rfl _ _ 23 rfl w.heap.size 3 i0 (.int .i64 0) 1 8 Try.underlying23 hi hz0 hz1 hz2 rfl (by decide) _ _ _ rfl (HO.out.row.alloc _) ⟨wr.heap.size, 0, none⟩ 1 1 [.int .i64 (k : Int)] rfl rfl (cell_one_new _ _ _) (by simp [Value.oneCell']) (by have := HK.out; unfold maxLen; omega) (by have := HK.out; omega) (by have := HO.out.sz; simp; omega) ?_); intro v' w4 hown' hgrow _ hat; obtain ⟨A6, c6, rfl⟩ := own_slice hown'; have H8 := hide (show OneP w.heap.size w g r (rowA 3 1 (.slice A6 (k + 1) c6) (k + 1) (ints (allI (k + 1))) :: pr) w4 from ⟨pg, hg, (by have := ((HO.out.alloc _).growRow hown' hgrow hat).back; rw [HAS.out]; rw [show ints (allI k ++ [(k : Int)]) = ints (allI k) ++ [Value.int .i64 (k : Int)] from by simp [ints]]; exact this)⟩); clear hown' hgrow hat)
          go_roundg (r.length - (k + 1))
          case measure => omega
          case rel => exact ⟨k + 1, A6, c6, by omega, by omega, by go_num, rfl, H8⟩
        · obtain rfl : k = r.length := by omega
          have p1 : ¬ (r.length : Int) < (r.length : Int) := by omega
          have HB7 := hide (OneP.both (rows := [rowA 3 1 (.slice A2 r.length c2) r.length (ints (allI r.length))]) HR.out H7.out)
          have HRL := hide (show r.length < 274877906944 from by omega)
          have HAL := hide (allI_len r.length)
          clear H7
          have HRP := hide (fun (V : World) (a : Atom) (h : BP w.heap.size w g b r (a :: [rowA 3 1 (.slice A2 r.length c2) r.length (ints (allI r.length))]) V) => (by
            have h1 := h.rplanX (want := allI r.length) (A := A2) (cw := c2) (by rw [HAL.out]; exact HRL.out) (by
              have := Reads.row (n := w.heap.size) (w := w) (F := a :: [rowA 3 1 (.slice A2 r.length c2) r.length (ints (allI r.length))]) (A := A2) (c := c2) (k := r.length) (on := allI r.length) (by simp)
              exact this)
            rw [HAL.out] at h1
            exact h1))
          go_upto_region 18 with (go_at_call 19; refine (HB7.out.all HRL.out).mono ?_; rintro e W8 ⟨o8, A8, c8, rfl, hs, h8⟩; have HS8 := hide hs; have H8 := hide (HRP.out _ _ h8); clear hs h8)
          clear HB7 HRP x0 p1
          go_upto_region 19 with (go_at_call 21; refine H8.out.mono ?_; rintro e W9 ⟨o9, z9, A9, c9, rfl, hs, h9⟩; obtain ⟨rfl, rfl⟩ := HS8.out.uniq hs; have HOL := hide (show o8.length < 1099511627776 from by have := hs.len; have := HRL.out; omega); have H9 := hide (h9.sameK (A := A8) (B := A9) (l := o8) (c := c8) (d := c9) (List.mem_cons_of_mem _ List.mem_cons_self) List.mem_cons_self HOL.out); clear hs h9)
          clear H8
          have HBT := hide (show (bufsL r true r.length).length < 1099511627776 from by have := bufsL_len r true r.length; have := HRL.out; omega)
          go_upto_region 20 with (go_at_call 10; refine (plan_nil_c _).mono ?_; rintro e w' ⟨rfl, rfl⟩)
          go_wp2_with (first
            | (go_at_call 20; refine H10.out.left.mono ?_; rintro e w' ⟨rfl, rfl⟩)
            | (go_at_call 22; refine H10.out.rleft.mono ?_; rintro e w' ⟨rfl, rfl⟩)
            | (go_at_call 23; refine H10.out.gready.mono ?_; rintro e W11 ⟨A11, c11, rfl, h11⟩; have H11 := hide (h11.rbufs true); clear h11)
            | (go_at_call 24; refine H11.out.mono ?_; rintro e W12 ⟨A12, c12, rfl, h12⟩; have H12 := hide (h12.sameK (A := A11) (B := A12) (l := bufsL r true r.length) (c := c11) (d := c12) (List.mem_cons_of_mem _ List.mem_cons_self) List.mem_cons_self HBT.out); clear h12)
            | (go_at_call 11; refine (num11_c _ _).mono ?_; rintro e w' ⟨rfl, rfl⟩)
            | (go_at_call 19; refine (all_nil_c _).mono ?_; rintro e w' ⟨rfl, rfl⟩)
            | (have hx := H12; clear hx; go_at_call 18; refine H12.out.mono ?_; rintro e W13 ⟨rfl, h13⟩; have H13 := hide h13.below'; clear h13)
            | (go_at_call 18; refine H9.out.mono ?_; rintro e W10 ⟨rfl, h10⟩; have H10 := hide h10; clear h10))
          go_ret
          exact ⟨rfl, H13.out⟩
    · have o1 : (200 : Int) < (zs.length : Int) := by omega
      go_wp2
      go_ret
      exact ⟨rfl, H1.out⟩
end Go.Proofs.Ytjfejimghbohdaa
