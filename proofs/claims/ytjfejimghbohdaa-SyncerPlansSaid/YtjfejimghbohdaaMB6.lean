/-
  The document's own Left, Next and Blocked. Conditions: the rows are few.
  The document's own Written. Conditions: the rows are few.
  The document's own Add. Conditions: the rows are few.
  Put: a number into a rising list, once. Conditions: the list is short enough.
-/
import Derived.Test.YtjfejimghbohdaaMB5
import Derived.Deep.AppendLies
import Derived.Deep.RegionLaw
import Derived.Deep.CutBlock
namespace Go.Proofs.Ytjfejimghbohdaa
set_option linter.unusedVariables false
set_option linter.unusedSimpArgs false
open Go.RowKit Go.Maps

def prefR (p : Nat → Bool) (k : Nat) : List Int := castL ((List.range k).filter p)
theorem prefR_yes {p : Nat → Bool} {k : Nat} (h : p k = true) : prefR p (k + 1) = prefR p k ++ [(k : Int)] := by
  unfold prefR castL; rw [List.range_succ, List.filter_append, List.map_append]; simp [h]
theorem prefR_no {p : Nat → Bool} {k : Nat} (h : p k = false) : prefR p (k + 1) = prefR p k := by
  unfold prefR castL; rw [List.range_succ, List.filter_append, List.map_append]; simp [h]
theorem prefR_len (p : Nat → Bool) (k : Nat) : (prefR p k).length ≤ k := by
  unfold prefR castL; rw [List.length_map]; exact Nat.le_trans (List.length_filter_le _ _) (by simp)
theorem openAt_eq {r : List Rc} {b : Int} {i : Nat} : openAt r b i = (!(r.getD i zr).done && decide ((r.getD i zr).buf = b)) := rfl
section
variable {n b : Nat} {w W : World} {F ps : List Atom} {r : List Rc}
def leftN (r : List Rc) (k : Nat) : Nat := ((List.range k).filter (fun i => !(r.getD i zr).done)).length
theorem leftN_succ (r : List Rc) (k : Nat) : leftN r (k + 1) = leftN r k + if (r.getD k zr).done = true then 0 else 1 := by
  unfold leftN
  rw [List.range_succ, List.filter_append, List.length_append]
  cases h : (r.getD k zr).done <;> simp [h, ← List.getD_eq_getElem?_getD]
theorem leftN_le (r : List Rc) (k : Nat) : leftN r k ≤ k := Nat.le_trans (List.length_filter_le _ _) (by simp)
theorem rleft_c (hg : IsR b r ps) (hs : Sm r) (hq : ∀ a ∈ ps, a.Q W) : Calls Try.prog 22 #[.pointer (some ⟨b, 0, none⟩)] W fun e W' => e = .returned (.int .i64 (Of r).opn) ∧ W = W' := by
  show Calls Try.prog 22 #[.pointer (some ⟨b, 0, none⟩)] W fun e W' => e = .returned (.int .i64 (leftN r r.length : Int)) ∧ W = W'
  obtain ⟨A, c, x0⟩ := hg.slice hq
  have HC := hide (fun (k : Nat) (hk : k < r.length) => hg.cellAt (W := W) hq hk)
  have hlen := hs.len
  have HL := hide hlen
  clear hg hs hq hlen
  go_enter Try.func22, Try.ntmps22
  go_wp2
  go_loop [4, 3] (fun i v => ∃ k m : Nat, k ≤ r.length ∧ m ≤ k ∧ i = .int .i64 k ∧ v = .int .i64 m ∧ Hid (m = leftN r k)) (fun i _ => r.length - (intOf i).toNat)
  case atStart => exact ⟨0, 0, by omega, by omega, rfl, rfl, hide rfl⟩
  case round =>
    obtain ⟨k, m, hk, hmk, rfl, rfl, HM⟩ := hrel
    have hlen := HL.out
    by_cases hlt : k < r.length
    · obtain ⟨gl, c', von, x0', -, -, x3, -⟩ := HC.out k hlt
      obtain ⟨rfl, rfl⟩ : A = some ⟨gl, 0, none⟩ ∧ c = c' := by rw [x0] at x0'; injection x0' with h; injection h with h1 h2 h3; exact ⟨h1, h3⟩
      clear x0'
      have o1 : (0 : Int) ≤ (k : Int) := by omega
      have o2 : (k : Int) < (r.length : Int) := by omega
      have HS := hide (leftN_succ r k)
      cases hd : (r.getD k zr).done with
      | true =>
        rw [hd] at x3 HS
        clear hd
        go_wp2
        go_round
        case rel => exact ⟨k + 1, m, by omega, by omega, by go_num, rfl, hide (by rw [HS.out, HM.out]; rfl)⟩
        case measure => simp [intOf]; omega
      | false =>
        rw [hd] at x3 HS
        clear hd
        go_wp2
        go_round
        case rel => exact ⟨k + 1, m + 1, by omega, by omega, by go_num, by go_num, hide (by rw [HS.out, HM.out]; rfl)⟩
        case measure => simp [intOf]; omega
    · obtain rfl : k = r.length := by omega
      have o3 : ¬ (r.length : Int) < (r.length : Int) := by omega
      go_wp2
      go_ret
      exact ⟨by first | rfl | (rw [HM.out]; rfl), rfl⟩
set_option maxHeartbeats 4000000 in
theorem rnext_c (hg : IsR b r ps) (hw : WfR r) (hs : Sm r) (ho : Own n w W (ps ++ F)) (buf : Int) :
    Calls Try.prog 40 #[.pointer (some ⟨b, 0, none⟩), .int .i64 buf] W fun e W' => ∃ v, e = .returned v ∧ Own n w W' (rowA 3 1 v (nextR r buf).length (ints (nextR r buf)) :: (ps ++ F)) := by
  obtain ⟨p, hp⟩ : ∃ p : Nat → Bool, ∀ k, p k = (decide ((r.getD k zr).buf = buf) && mayR r k) := ⟨_, fun _ => rfl⟩
  have hpe : nextR r buf = prefR p r.length := by
    unfold nextR prefR
    congr 1
    refine List.filter_congr fun j _ => ?_
    rw [openAt_eq, hp]
    unfold mayR
    cases (r.getD j zr).done <;> cases mayAt r j <;> cases decide ((r.getD j zr).buf = buf) <;> rfl
  rw [hpe]
  have HG := hide hg
  have HW := hide hw
  have HS := hide hs
  have H0 := hide (ho.nilRow 3 1)
  have HP := hide (fun k : Nat => And.intro (prefR_yes (p := p) (k := k)) (And.intro (prefR_no (p := p) (k := k)) (prefR_len p k)))
  have HP0 := hide (show prefR p 0 = [] from rfl)
  have HPK := hide hp
  clear hp
  clear hpe hg hw hs ho
  go_enter Try.func40, Try.ntmps40
  go_wp2
  go_loopw [6, 5] (fun i v wr => ∃ (k m : Nat) (A : Option Addr) (c : Nat), k ≤ r.length ∧ i = .int .i64 k ∧ v = .slice A m c ∧ Hid (m = (prefR p k).length) ∧ Hid (Own n w wr (rowA 3 1 (.slice A m c) m (ints (prefR p k)) :: (ps ++ F)))) (fun i _ _ => r.length - (intOf i).toNat)
  case atStart => exact ⟨0, 0, none, 0, by omega, rfl, rfl, hide (by rw [HP0.out]; rfl), hide (by rw [HP0.out]; exact H0.out)⟩
  case round =>
    obtain ⟨k, m, A, c, hk, rfl, rfl, HM, HO⟩ := hrel
    have hq : ∀ a ∈ ps, a.Q wr := fun a ha => HO.out.tail.hold a (List.mem_append_left _ ha)
    clear H0
    by_cases hlt : k < r.length
    · obtain ⟨gl, c', von, x0, x1, -, -, -⟩ := HG.out.cellAt hq hlt
      have HQ := hide hq
      have o1 : (0 : Int) ≤ (k : Int) := by omega
      have o2 : (k : Int) < (r.length : Int) := by omega
      have HC := hide (rmay_c HG.out HW.out HS.out HO.out.back k hlt)
      obtain ⟨h1, h2, h3⟩ := HP.out k
      have h4 := HPK.out k
      have hml : m < 274877906944 := by have := HM.out; have := HS.out.len; omega
      have HML := hide hml
      clear hq hml
      have hlen := HS.out.len
      generalize (r.getD k zr).buf = bk at x1 h4
      by_cases hb : bk = buf
      · obtain ⟨m0, m1⟩ := int_eqb hb
        rw [decide_eq_true hb, Bool.true_and] at h4
        cases hm : mayR r k with
        | true =>
          have HE := hide (h1 (h4.trans hm))
          rw [hm] at HC
          clear h1 h2 h3 h4 hb hm
          go_wp2_with (first
            | (go_at_call 38; refine HC.out.mono ?_; rintro e W3 ⟨rfl, h3⟩; have H3 := hide h3.front; clear h3)
            | (at_builtin; go_must (obtain ⟨i0, hi, hz0, hz1, hz2⟩ := info_parts info3; refine wpList_append_own_at _ rfl _ _ 23 rfl n 3 i0 (.int .i64 0) 1 8 Try.underlying23 hi hz0 hz1 hz2 rfl (by decide) _ _ _ rfl (H3.out.row.alloc _) ⟨W3.heap.size, 0, none⟩ 1 1 [.int .i64 k] rfl rfl (cell_one_new _ _ _) (by simp [Value.oneCell']) (by have := HML.out; unfold maxLen; omega) (by have := HML.out; omega) (by have := H3.out.sz; simp; omega) ?_); intro v' w4 hown' hgrow _ hat; obtain ⟨A6, c6, rfl⟩ := own_slice hown'; have H4 := hide ((H3.out.alloc _).growRow hown' hgrow hat); clear hown' hgrow hat))
          go_roundw
          case rel => exact ⟨k + 1, m + 1, A6, c6, by omega, by go_num, rfl, hide (by rw [HE.out, HM.out, List.length_append]; rfl), hide (by rw [HE.out]; have := H4.out; rw [show ints (prefR p k) ++ [Value.int .i64 (k : Int)] = ints (prefR p k ++ [(k : Int)]) from by simp [ints]] at this; exact this)⟩
          case measure => simp [intOf]; omega
        | false =>
          have HE := hide (h2 (h4.trans hm))
          rw [hm] at HC
          clear h1 h2 h3 h4 hb hm
          go_wp2_with (go_at_call 38; refine HC.out.mono ?_; rintro e W3 ⟨rfl, h3⟩; have H3 := hide h3.front; clear h3)
          go_roundw
          case rel => exact ⟨k + 1, m, A, c, by omega, by go_num, rfl, hide (by rw [HE.out, HM.out]), hide (by rw [HE.out]; exact H3.out)⟩
          case measure => simp [intOf]; omega
      · obtain ⟨m0, m1⟩ := int_neb hb
        rw [decide_eq_false hb, Bool.false_and] at h4
        have HE := hide (h2 h4)
        clear h1 h2 h3 h4 hb
        go_wp2
        go_roundw
        case rel => exact ⟨k + 1, m, A, c, by omega, by go_num, rfl, hide (by rw [HE.out, HM.out]), hide (by rw [HE.out]; exact HO.out)⟩
        case measure => simp [intOf]; omega
    · obtain rfl : k = r.length := by omega
      obtain ⟨A1, c1, x0⟩ := HG.out.slice hq
      have o3 : ¬ (r.length : Int) < (r.length : Int) := by omega
      go_wp2
      go_ret
      exact ⟨_, rfl, by rw [← HM.out]; exact HO.out⟩
end
end Go.Proofs.Ytjfejimghbohdaa
namespace Go.Proofs.Ytjfejimghbohdaa
set_option linter.unusedVariables false
set_option linter.unusedSimpArgs false
open Go.RowKit Go.Maps

theorem rc_ext {a b : List Rc} (hl : a.length = b.length) (h : ∀ i, i < a.length → a.getD i zr = b.getD i zr) : a = b := by
  refine List.ext_getElem hl fun i h1 h2 => ?_
  have := h i h1
  simpa [h1, h2] using this
theorem setD_nil (r : List Rc) : setD r [] = r :=
  rc_ext (setD_len _ _) (fun i hi => by
    rw [setD_len] at hi
    rw [setD_at hi]
    simp)
theorem setD_snoc (r : List Rc) (o : List Int) (i : Nat) (hi : i < r.length) : setD r (o ++ [(i : Int)]) = (setD r o).set i ⟨((setD r o).getD i zr).buf, ((setD r o).getD i zr).on, true⟩ :=
  rc_ext (by rw [List.length_set, setD_len, setD_len]) (fun j hj => by
    rw [setD_len] at hj
    rw [setD_at hj, setD_at hi]
    by_cases e : i = j
    · subst e
      simp [setD_len, hi]
    · have e2 : ¬ (j : Int) = (i : Int) := by omega
      have e3 : ((setD r o).set i (⟨(r.getD i zr).buf, (r.getD i zr).on, true⟩ : Rc)).getD j zr = (setD r o).getD j zr := by simp [List.getElem?_set, e]
      rw [e3, setD_at hj]
      simp [e2])
theorem rg_set {l : List Rg} {i : Nat} (h : i < l.length) (x : Rg) (hv : x.von = l[i].von) (ho : x.c.on = l[i].c.on) : (l.set i x).map rgA = l.map rgA := by
  have e : rgA x = (l.map rgA)[i]'(by simpa using h) := by
    rw [List.getElem_map]; unfold rgA; rw [hv, ho]
  rw [List.map_set, e, List.set_getElem_self]
section
variable {n b : Nat} {w W : World} {F ps : List Atom} {r : List Rc}
def RwP (n : Nat) (w : World) (b : Nat) (F : List Atom) (v : Value) (out : List Int) (r : List Rc) (W : World) : Prop :=
  ∃ ps, IsR b r ps ∧ Own n w W (rowA 3 1 v out.length (ints out) :: (ps ++ F))
set_option maxHeartbeats 4000000 in
theorem rwritten_c (hg : IsR b r ps) (hw : WfR r) (hs : Sm r) (ho : Own n w W (ps ++ F)) (buf : Int) :
    Calls Try.prog 27 #[.pointer (some ⟨b, 0, none⟩), .int .i64 buf] W fun e W' => ∃ v ps', e = .returned v ∧ IsR b (writtenR r buf) ps' ∧ Own n w W' (rowA 3 1 v (nextR r buf).length (ints (nextR r buf)) :: (ps' ++ F)) := by
  have HN := hide (rnext_c hg hw hs ho buf)
  have HG := hide hg
  have hmem := fun x (hx : x ∈ nextR r buf) => nextR_range hx
  have hol : (nextR r buf).length ≤ r.length := by
    unfold nextR castL
    rw [List.length_map]
    exact Nat.le_trans (List.length_filter_le _ _) (by simp)
  have hlen := hs.len
  have HLEN := hide hlen
  unfold writtenR
  generalize nextR r buf = out at HN hmem hol ⊢
  have HMEM := hide hmem
  have HOL := hide hol
  clear hmem ho hg hw hs hlen hol
  go_enter Try.func27, Try.ntmps27
  go_upto_region 2 with (go_at_call 40; refine HN.out.mono ?_; rintro e W1 ⟨v, rfl, h1⟩; obtain ⟨Av, cv, rfl⟩ := own_slice h1.row; have H1 := hide h1; clear h1)
  have HP0 := hide (show RwP n w b F (.slice Av out.length cv) out (setD r (out.take 0)) W1 from ⟨ps, by rw [List.take_zero, setD_nil]; exact HG.out, H1.out⟩)
  clear H1 HN HG
  go_wp2
  go_loopw [6] (fun i W => ∃ k : Nat, k ≤ out.length ∧ i = .int .i64 k ∧ Hid (RwP n w b F (.slice Av out.length cv) out (setD r (out.take k)) W)) (fun i _ => out.length - (intOf i).toNat)
  case atStart => exact ⟨0, by omega, rfl, HP0⟩
  case round =>
    obtain ⟨k, hk, rfl, HP⟩ := hrel
    by_cases hlt : k < out.length
    · obtain ⟨ps, ⟨vl, l, rfl, h1⟩, ho⟩ := HP.out
      have hrv : wr.ownsRow n 3 1 (.slice Av out.length cv) out.length (ints out) := ho.row
      obtain ⟨gv, rfl⟩ := row_form hrv (by omega)
      have y0 := hrv.cellAt k (by omega)
      rw [ints_at hlt] at y0
      have hx := HMEM.out _ (List.getElem_mem hlt)
      have hTK := List.take_succ_eq_append_getElem hlt
      generalize out[k] = x at y0 hx hTK
      obtain ⟨i, rfl⟩ := Int.eq_ofNat_of_zero_le hx.1
      have hir : i < r.length := by omega
      have hlm : l.length = r.length := by rw [← List.length_map (f := Rg.c), h1, setD_len]
      have hil : i < l.length := by omega
      have hrl : wr.ownsRow 0 39 3 vl l.length (cellsR l) := ho.hold (rowA 39 3 vl l.length (cellsR l)) (by simp [rParts])
      obtain ⟨Al, cl, rfl⟩ := own_slice hrl
      obtain ⟨gl, rfl⟩ := row_form hrl (by omega)
      have hbk : Blk wr b #[.slice (some ⟨gl, 0, none⟩) l.length cl] 37 := ho.hold (blkA b #[.slice (some ⟨gl, 0, none⟩) l.length cl] 37) (by simp [rParts])
      have x0 : wr.cell? ⟨b, 0, none⟩ = some (.slice (some ⟨gl, 0, none⟩) l.length cl) := hbk.cell 0
      have x2 : wr.cell? ⟨gl, i * 3 + 2, none⟩ = some (.bool l[i].c.done) := by rw [hrl.cellAt (i * 3 + 2) (by omega), cellsR_at hil (by omega)]; rfl
      have f2 : wr.frozen? ⟨gl, i * 3 + 2, none⟩ = false := hrl.frozenAt _
      have o1 : (0 : Int) ≤ (k : Int) := by omega
      have o2 : (k : Int) < (out.length : Int) := by omega
      have o3 : (0 : Int) ≤ (i : Int) := by omega
      have o4 : (i : Int) < (l.length : Int) := by omega
      have hO1 := ho.f2.setRow (i * 3 + 2) (.bool true)
      rw [cellsR_set hil (by omega) (.bool true) ⟨⟨l[i].c.buf, l[i].c.on, true⟩, l[i].von⟩ rfl] at hO1
      have HN := hide (show RwP n w b F (.slice (some ⟨gv, 0, none⟩) out.length cv) out (setD r (out.take (k + 1))) (wr.setCell ⟨gl, i * 3 + 2, none⟩ (.bool true)).drew from by
        refine ⟨rParts b (.slice (some ⟨gl, 0, none⟩) l.length cl) (l.set i ⟨⟨l[i].c.buf, l[i].c.on, true⟩, l[i].von⟩), ⟨_, _, rfl, ?_⟩, ?_⟩
        · rw [hTK, setD_snoc r _ i hir, ← h1, List.map_set]
          congr 1
          have e : (l.map Rg.c).getD i zr = l[i].c := by simp [hil]
          rw [e]
        · have h := hO1.f2.f2.drew
          unfold rParts
          rw [rg_set hil (⟨⟨l[i].c.buf, l[i].c.on, true⟩, l[i].von⟩ : Rg) rfl rfl, List.length_set]
          exact h)
      have HOLL := hide (show out.length < 274877906944 from by have := HOL.out; have := HLEN.out; omega)
      have hll := HOLL.out
      clear hO1 ho hrv hx h1 hbk hrl HP hlm hTK hir
      generalize l[i].c.done = dn at x2
      clear hil
      go_upto_region 5 with (fail)
      go_region
      generalize (wr.setCell ⟨gl, i * 3 + 2, none⟩ (.bool true)).drew = Wz at HN ⊢
      clear x0 x2 f2 y0
      go_wp2
      go_roundw
      case rel => exact ⟨k + 1, by omega, by go_num, HN⟩
      case measure => simp [intOf]; omega
    · obtain rfl : k = out.length := by omega
      have o3 : ¬ (out.length : Int) < (out.length : Int) := by omega
      go_wp2
      go_ret
      obtain ⟨ps, hg, ho⟩ := HP.out
      rw [List.take_length] at hg
      exact ⟨_, rfl, ps, hg, ho⟩
end
end Go.Proofs.Ytjfejimghbohdaa
namespace Go.Proofs.Ytjfejimghbohdaa
set_option linter.unusedVariables false
set_option linter.unusedSimpArgs false
open Go.RowKit Go.Maps

theorem info45 : (Try.prog.info? 39).map (fun i => (i.zero, i.size, i.bytes)) = some (some (.agg #[.int .i64 0, .slice none 0 0, .bool false]), 3, 40) := by kernel_rfl
theorem info3x : (Try.prog.info? 3).map (fun i => (i.zero, i.size, i.bytes)) = some (some (.int .i64 0), 1, 8) := by kernel_rfl
theorem step_append_src {P : Program} {w : World} {ops : Array Oper} {o : Oper} {a : Act} {K : Act → World → Prop} {Q : Exit → Act → World → Prop} {E : Prop} (hgd : o.guard = none) (s x : Operand) (t : TypeId)
    (ho : o.op = .call { callee := .builtin .append, args := #[s, x], argTypes := #[t, t] })
    (base : Nat) (e : TypeId) (i : TypeInfo) (z : Value) (size bytes : Nat) (ht : P.underlying t = some (.slice e)) (hi : P.info? e = some i) (hz : i.zero = some z)
    (hsize : i.size = size) (hby : i.bytes = bytes) (hzs : z.cells.size = size) (hsz : 0 < size)
    (v : Value) (n : Nat) (xs : List Value) (hs : a.eval s = v) (hown : w.ownsRow base e size v n xs)
    (B : Nat) (A : Option Addr) (m c : Nat) (news : List Value) (hx : a.eval x = .slice A m c) (hm : news.length = m * size) (hr : Cells B w A news) (h1 : ∀ u ∈ news, u.oneCell' = true)
    (h63 : n + m ≤ maxLen) (hbytes : (n + m) * bytes ≤ 140737488355328) (hbase : base ≤ w.heap.size)
    (h : ∀ v' w', w'.ownsRow base e size v' (n + m) (xs ++ news) → w.grownBy w' v.ownBlock → (v'.ownBlock = v.ownBlock ∨ v'.ownBlock = some w.heap.size) → K (a.put o.dst v') w') :
    if Region.wanted o (yielded ops a.tmps) = true then Oper.wp P o a w K Q else E := by
  have hw : Region.wanted o (yielded ops a.tmps) = true := by simp [Region.wanted, hgd]
  rw [if_pos hw]
  obtain ⟨v', w', hrun, h2, h3, h4⟩ := run_append_src (P := P) w base t o.type e i z size bytes ht hi hz hsize hby hzs hsz v n xs hown B A m c news hm hr h1 h63 hbytes hbase
  unfold Oper.wp execOp
  simp only [ho, resolve, invoke, builtin, Sem.run_bind, Sem.run_pure, Result.andThen_ok, List.map_toArray, List.map_cons, List.map_nil, hs, hx, hrun]
  exact h v' w' h2 h3 h4
section
variable {n b : Nat} {w W : World} {F ps : List Atom} {r : List Rc}
set_option maxHeartbeats 4000000 in
theorem radd_no (hg : IsR b r ps) (hs : Sm r) (ho : Own n w W (ps ++ F)) (buf : Int) (A : Option Addr) (c : Nat) (on : List Int) (hl : on.length < 274877906944) (hr : Reads n w F A on) (hon : ¬ ∀ x ∈ on, 0 ≤ x ∧ x < (r.length : Int)) :
    Calls Try.prog 25 #[.pointer (some ⟨b, 0, none⟩), .int .i64 buf, .slice A on.length c] W fun e W' => e = .returned (.tuple #[.int .i64 0, .int .i64 1]) ∧ Own n w W' (ps ++ F) := by
  have HX := hide (hr W (ho.sub (List.sublist_append_right _ _)))
  have HON := hide hon
  obtain ⟨Al, cl, x0⟩ := hg.slice (fun a ha => ho.hold a (List.mem_append_left _ ha))
  have HLEN := hide hs.len
  have HO := hide ho
  clear hg hs ho hr hon
  go_enter Try.func25, Try.ntmps25
  go_wp2
  go_loopw [8] (fun i wr => ∃ k : Nat, k ≤ on.length ∧ i = .int .i64 k ∧ (∃ q, wr = W.drewN q) ∧ Hid (∀ x ∈ on.take k, 0 ≤ x ∧ x < (r.length : Int))) (fun i _ => on.length - (intOf i).toNat)
  case atStart => exact ⟨0, by omega, rfl, ⟨0, rfl⟩, hide (by simp)⟩
  case round =>
    obtain ⟨k, hk, rfl, ⟨q, rfl⟩, HK⟩ := hrel
    by_cases hlt : k < on.length
    · obtain ⟨ba, off, rfl, _, hc⟩ := HX.out (by intro e; rw [e] at hlt; simp at hlt)
      have y0 := hc k hlt
      have hgd : on.getD k 0 = on[k] := by simp [hlt]
      rw [hgd] at y0
      have HS := hide (fun h : 0 ≤ on[k] ∧ on[k] < (r.length : Int) => show ∀ x ∈ on.take (k + 1), 0 ≤ x ∧ x < (r.length : Int) from fun x hx => by
        rw [List.take_succ_eq_append_getElem hlt] at hx
        rcases List.mem_append.1 hx with hx | hx
        · exact HK.out x hx
        · rw [List.mem_singleton.1 hx]; exact h)
      generalize on[k] = x at y0 HS
      have o1 : (0 : Int) ≤ (k : Int) := by omega
      have o2 : (k : Int) < (on.length : Int) := by omega
      clear hc hgd
      by_cases hx1 : x < 0
      · go_wp2
        go_quiet (fail)
        go_wp2
        go_ret2
        exact ⟨rfl, by first | exact HO.out.drewN _ | (rw [World.drewN_drewN]; exact HO.out.drewN _)⟩
      · by_cases hx2 : (r.length : Int) ≤ x
        · go_wp2
          go_quiet (fail)
          go_wp2
          go_ret2
          exact ⟨rfl, by first | exact HO.out.drewN _ | (rw [World.drewN_drewN]; exact HO.out.drewN _)⟩
        · have HT := hide (HS.out ⟨by omega, by omega⟩)
          go_wp2
          go_quiet (fail)
          go_wp2
          go_roundw
          case rel => exact ⟨k + 1, by omega, by go_num, ⟨_, by first | rfl | (rw [World.drewN_drewN]; done)⟩, HT⟩
          case measure => simp [intOf]; omega
    · exact absurd (by have := HK.out; rwa [List.take_of_length_le (by omega)] at this) HON.out
theorem cellsR_snoc (l : List Rg) (x : Rg) : cellsR (l ++ [x]) = cellsR l ++ x.cells := by
  rw [cellsR_append]; unfold cellsR; simp
theorem rParts_snoc (b : Nat) (vl : Value) (l : List Rg) (x : Rg) : (rParts b vl (l ++ [x])).Perm (rgA x :: blkA b #[vl] 37 :: rowA 39 3 vl (l.length + 1) (cellsR l ++ x.cells) :: l.map rgA) := by
  unfold rParts
  rw [List.map_append, List.length_append, cellsR_snoc]
  exact (List.perm_middle (l₁ := blkA b #[vl] 37 :: rowA 39 3 vl (l.length + 1) (cellsR l ++ x.cells) :: l.map rgA) (l₂ := [])).trans (by rw [List.append_nil])
set_option maxHeartbeats 8000000 in
set_option maxRecDepth 100000 in
theorem radd_yes (hg : IsR b r ps) (hs : Sm r) (ho : Own n w W (ps ++ F)) (buf : Int) (A : Option Addr) (c : Nat) (on : List Int) (hl : on.length < 274877906944) (hr : Reads n w F A on) (hon : ∀ x ∈ on, 0 ≤ x ∧ x < (r.length : Int)) :
    Calls Try.prog 25 #[.pointer (some ⟨b, 0, none⟩), .int .i64 buf, .slice A on.length c] W fun e W' => ∃ ps', e = .returned (.tuple #[.int .i64 (r.length : Int), .int .i64 0]) ∧ IsR b (r ++ [⟨buf, on, false⟩]) ps' ∧ Own n w W' (ps' ++ F) := by
  have HX := hide (hr W (ho.sub (List.sublist_append_right _ _)))
  have HON := hide hon
  have HLEN := hide hs.len
  have HO := hide ho
  have HR := hide hr
  obtain ⟨vl, l, rfl, h1⟩ := hg
  have hlm : l.length = r.length := by rw [← h1, List.length_map]
  have hrl : W.ownsRow 0 39 3 vl l.length (cellsR l) := ho.hold (rowA 39 3 vl l.length (cellsR l)) (by simp [rParts])
  obtain ⟨Al, cl, rfl⟩ := own_slice hrl
  have hbk : Blk W b #[.slice Al l.length cl] 37 := ho.hold (blkA b #[.slice Al l.length cl] 37) (by simp [rParts])
  have H1 := hide h1
  have x0 : W.cell? ⟨b, 0, none⟩ = some (.slice Al l.length cl) := hbk.cell 0
  rw [← hlm]
  have HLM := hide hlm
  clear hs hr hon h1 hbk hrl ho hlm
  go_enter Try.func25, Try.ntmps25
  go_wp2
  go_loopg [8] on.length (fun m i wr => ∃ k : Nat, k ≤ on.length ∧ m = on.length - k ∧ i = .int .i64 k ∧ (∃ q, wr = W.drewN q)) 
  case atStart => exact ⟨0, by omega, by omega, rfl, ⟨0, rfl⟩⟩
  case round =>
    obtain ⟨k, hk, rfl, rfl, ⟨q, rfl⟩⟩ := hrel
    by_cases hlt : k < on.length
    · obtain ⟨ba, off, rfl, _, hc⟩ := HX.out (by intro e; rw [e] at hlt; simp at hlt)
      have y0 := hc k hlt
      have hgd : on.getD k 0 = on[k] := by simp [hlt]
      rw [hgd] at y0
      have hx := HON.out on[k] (List.getElem_mem hlt)
      rw [← HLM.out] at hx
      generalize on[k] = x at y0 hx
      have o1 : (0 : Int) ≤ (k : Int) := by omega
      have o2 : (k : Int) < (on.length : Int) := by omega
      have hx1 : ¬ x < 0 := by omega
      have hx2 : ¬ (l.length : Int) ≤ x := by omega
      clear hc hgd hx
      go_wp2
      go_quiet (fail)
      go_wp2
      go_roundg (on.length - (k + 1))
      case measure => omega
      case rel => exact ⟨k + 1, by omega, by omega, by go_num, ⟨_, by first | rfl | (rw [World.drewN_drewN]; done)⟩⟩
    · obtain rfl : k = on.length := by omega
      have o3 : ¬ (on.length : Int) < (on.length : Int) := by omega
      have HOq := hide (HO.out.drewN q)
      have HXq := hide (HR.out (W.drewN q) (HOq.out.sub (List.sublist_append_right _ _)))
      have x0' : (W.drewN q).cell? ⟨b, 0, none⟩ = some (.slice Al l.length cl) := x0
      clear x0
      go_upto_region 6 with (fail)
      generalize W.drewN q = Wq at HOq HXq x0' ⊢
      have hbk : Blk Wq b #[.slice Al l.length cl] 37 := HOq.out.hold (blkA b #[.slice Al l.length cl] 37) (by simp [rParts])
      have hrow : Wq.ownsRow n 39 3 (.slice Al l.length cl) l.length (cellsR l) := (show Own n w Wq (rowA 39 3 (.slice Al l.length cl) l.length (cellsR l) :: _) from HOq.out.f1).row
      have fz : Wq.frozen? ⟨b, 0, none⟩ = false := hbk.frozen 0
      have hsz := HOq.out.sz
      have lb : b < Wq.heap.size := hbk.lt
      have nb : (Value.slice Al l.length cl).ownBlock ≠ some b := fun e => (show Own n w Wq (blkA b _ 37 :: rowA 39 3 (.slice Al l.length cl) l.length (cellsR l) :: _) from HOq.out).far (a' := rowA 39 3 (.slice Al l.length cl) l.length (cellsR l)) (by simp) b rfl e
      have hll : l.length < 274877906944 := by have := HLM.out; have := HLEN.out; omega
      have HBK := hide hbk
      have HROW := hide hrow
      obtain ⟨i0, hi, hz0, hz1, hz2⟩ := info_parts info45
      obtain ⟨j0, ji, jz0, jz1, jz2⟩ := info_parts info3x
      clear hbk hrow HX HO
      go_cut [] from 32 to 44 (fun wx => ∃ A' c' v4, Hid (Own n w wx (rParts b (.slice A' (l.length + 1) c') (l ++ [⟨⟨buf, on, false⟩, v4⟩]) ++ F)))
      case first =>
        go_region_law (first
          | ((refine step_append_src (by rfl) _ _ _ (by rfl) n 3 j0 _ 1 8 Try.underlying23 ji jz0 jz1 jz2 rfl (by omega) (.slice none 0 0) 0 [] (by rfl) (World.ownsRow_nil _ _ _ _) Wq.heap.size A on.length c (ints on) (by rfl) (by rw [ints_len, Nat.mul_one]) HXq.out.cells (by intro u hu; unfold ints at hu; obtain ⟨z, _, rfl⟩ := List.mem_map.1 hu; rfl) (by unfold maxLen; omega) (by omega) hsz ?_); intro v4 w4 hown hg hat; rw [Nat.zero_add, List.nil_append] at hown; obtain ⟨A4, c4, rfl⟩ := own_slice hown; have HO4 := hide (show Own n w w4 (rowA 3 1 (.slice A4 on.length c4) on.length (ints on) :: blkA b #[.slice Al l.length cl] 37 :: rowA 39 3 (.slice Al l.length cl) l.length (cellsR l) :: (l.map rgA ++ F)) from ((HOq.out.nilRow 3 1).drew.growRow hown hg hat)); have hb4 : Blk w4 b #[.slice Al l.length cl] 37 := HO4.out.tail.head; have hr4 : w4.ownsRow n 39 3 (.slice Al l.length cl) l.length (cellsR l) := HO4.out.f2.row; have q4 : w4.cell? ⟨b, 0, none⟩ = some (.slice Al l.length cl) := hb4.cell 0; have zA : (w4.alloc (.cells #[.int .i64 buf, .slice A4 on.length c4, .bool false] 39)).cell? ⟨b, 0, none⟩ = some (.slice Al l.length cl) := (hb4.alloc _).cell 0; have zf : (w4.alloc (.cells #[.int .i64 buf, .slice A4 on.length c4, .bool false] 39)).frozen? ⟨b, 0, none⟩ = false := (hb4.alloc _).frozen 0; have hrA := hr4.alloc (.cells #[.int .i64 buf, .slice A4 on.length c4, .bool false] 39); have lb4 := hb4.lt; have hsz4 := HO4.out.sz; clear hown hg hat hb4 hr4)
          | ((refine step_append_lies _ (by rfl) _ _ _ (by rfl) n 39 i0 _ 3 40 Try.underlying35 hi hz0 hz1 hz2 rfl (by omega) (.slice Al l.length cl) l.length (cellsR l) (by rfl) hrA ⟨w4.heap.size, 0, none⟩ 1 1 [.int .i64 buf, .slice A4 on.length c4, .bool false] (by rfl) (by rfl) (World.news_of_block (cs := #[.int .i64 buf, .slice A4 on.length c4, .bool false]) (t := 39) (fr := (0, 0)) (heap_alloc_new w4 _)) (by simp [Value.oneCell']) (by omega) (by unfold maxLen; omega) (by omega) (by simp; omega) (w4.heap.size + 1) (by simp) ?_); intro gg cap w5 hown1 hgrow hat1 hlt5; have q5 : w5.cell? ⟨b, 0, none⟩ = some (.slice Al l.length cl) := (hgrow.cell_far _ (by simp; omega) (Ne.symm nb)).trans zA; have qf : w5.frozen? ⟨b, 0, none⟩ = false := (World.frozen?_of_block (hgrow.block b (by simp; omega) (Ne.symm nb))).trans zf; have HH := hide (And.intro hown1 (And.intro hgrow hat1)); clear hown1 hgrow hat1 hlt5))
        all_goals
          go_wp2
          go_meet
          have h1 := HO4.out.f2.alloc (.cells #[.int .i64 buf, .slice A4 on.length c4, .bool false] 39) |>.growRow HH.out.1 HH.out.2.1 (HH.out.2.2.elim (fun e => .inl e.symm) (fun e => .inr (by rw [e]; simp [Value.ownBlock])))
          have h2 := (h1.f2.setBlk 0 (.slice (some ⟨gg, 0, none⟩) (l.length + 1) cap)).f2
          refine ⟨some ⟨gg, 0, none⟩, cap, .slice A4 on.length c4, hide (Own.perm ?_ ((rParts_snoc b (.slice (some ⟨gg, 0, none⟩) (l.length + 1) cap) l ⟨⟨buf, on, false⟩, .slice A4 on.length c4⟩).symm.append_right F))⟩
          exact h2
      case rest =>
        obtain ⟨A', c', v4, HC⟩ := hcut
        have hbk2 : Blk wc b #[.slice A' (l.length + 1) c'] 37 := HC.out.hold (blkA b #[.slice A' (l.length + 1) c'] 37) (by simp [rParts])
        have q0 : wc.cell? ⟨b, 0, none⟩ = some (.slice A' (l.length + 1) c') := hbk2.cell 0
        have hw1 : IntKind.i64.wrap (((l.length + 1 : Nat) : Int) - 1) = (l.length : Int) := by
          have e : ((l.length + 1 : Nat) : Int) - 1 = (l.length : Int) := by omega
          rw [e]; exact IntWalk.i64_in _ (by omega)
        clear hbk2 hi hz0 hz1 hz2 ji jz0 jz1 jz2 x0' fz nb lb
        obtain ⟨m, hm⟩ : ∃ m, l.length + 1 = m := ⟨_, rfl⟩
        rw [hm] at q0 hw1
        clear hm
        go_wp2
        go_ret2
        exact ⟨rfl, rParts b (.slice A' (l.length + 1) c') (l ++ [⟨⟨buf, on, false⟩, v4⟩]), ⟨_, _, rfl, by rw [List.map_append, H1.out]; rfl⟩, HC.out⟩
end
end Go.Proofs.Ytjfejimghbohdaa
namespace Go.Proofs.Ytjfejimghbohdaa
set_option linter.unusedVariables false
set_option linter.unusedSimpArgs false
open Go.RowKit Go.Maps

def putK (l : List Int) (x : Int) : Nat := (l.takeWhile (fun y => decide (y < x))).length
def putL (l : List Int) (x : Int) : List Int := if l[putK l x]? = some x then l else l.take (putK l x) ++ x :: l.drop (putK l x)
theorem putK_le (l : List Int) (x : Int) : putK l x ≤ l.length := (List.takeWhile_sublist _).length_le
theorem putK_cons (y : Int) (l : List Int) (x : Int) : putK (y :: l) x = if y < x then putK l x + 1 else 0 := by
  unfold putK
  by_cases h : y < x
  · rw [if_pos h, List.takeWhile_cons_of_pos (by simpa using h)]; rfl
  · rw [if_neg h, List.takeWhile_cons_of_neg (by simpa using h)]; rfl
theorem putK_lt {l : List Int} {x : Int} : ∀ {j : Nat}, j < putK l x → ∃ h : j < l.length, l[j] < x := by
  induction l with
  | nil => intro j h; simp [putK] at h
  | cons y l ih =>
    intro j h
    rw [putK_cons] at h
    by_cases hy : y < x
    · rw [if_pos hy] at h
      cases j with
      | zero => exact ⟨by simp, hy⟩
      | succ j => obtain ⟨h1, h2⟩ := ih (j := j) (by omega); exact ⟨by simpa using h1, by simpa using h2⟩
    · rw [if_neg hy] at h; omega
theorem putK_at {l : List Int} {x : Int} (h : putK l x < l.length) : x ≤ l[putK l x] := by
  induction l with
  | nil => simp at h
  | cons y l ih =>
    by_cases hy : y < x
    · have e : putK (y :: l) x = putK l x + 1 := by rw [putK_cons, if_pos hy]
      simp only [e, List.getElem_cons_succ]
      exact ih (by rw [e] at h; simpa using h)
    · have e : putK (y :: l) x = 0 := by rw [putK_cons, if_neg hy]
      simp only [e, List.getElem_cons_zero]; omega
theorem putL_len_le (l : List Int) (x : Int) : (putL l x).length ≤ l.length + 1 := by
  have := putK_le l x
  unfold putL
  split
  · omega
  · simp only [List.length_append, List.length_cons, List.length_take, List.length_drop]; omega
theorem putL_mem {l : List Int} {x y : Int} : y ∈ putL l x ↔ y ∈ l ∨ y = x := by
  unfold putL
  split
  · rename_i h
    have := List.mem_of_getElem? h
    exact ⟨.inl, fun h => h.elim id (fun e => e ▸ this)⟩
  · have h := List.take_append_drop (putK l x) l
    conv => rhs; rw [← h]
    simp only [List.mem_append, List.mem_cons]
    constructor
    · rintro (h | h | h)
      · exact .inl (.inl h)
      · exact .inr h
      · exact .inl (.inr h)
    · rintro ((h | h) | h)
      · exact .inl h
      · exact .inr (.inr h)
      · exact .inr (.inl h)
theorem putL_rising {l : List Int} (hr : Rising l) (x : Int) : Rising (putL l x) := by
  unfold putL
  split
  · exact hr
  · rename_i hne
    have hT : ∀ y ∈ l.take (putK l x), y < x := fun y hy => by
      obtain ⟨j, hj, rfl⟩ := List.getElem_of_mem hy
      rw [List.length_take] at hj
      obtain ⟨h1, h2⟩ := putK_lt (l := l) (x := x) (j := j) (by omega)
      rw [List.getElem_take]; exact h2
    have hD : ∀ y ∈ l.drop (putK l x), x < y := fun y hy => by
      by_cases hk : putK l x < l.length
      · have e := List.drop_eq_getElem_cons hk
        have h0 : x < l[putK l x] := by
          have h1 := putK_at hk
          have h2 : l[putK l x] ≠ x := fun e => hne (by rw [List.getElem?_eq_getElem hk, e])
          omega
        rw [e] at hy
        rcases List.mem_cons.1 hy with rfl | hy
        · exact h0
        · have h2 : (l.drop (putK l x)).Pairwise (fun a b => a < b) := hr.sublist (List.drop_sublist _ _)
          rw [e] at h2
          have := (List.pairwise_cons.1 h2).1 y hy
          omega
      · rw [List.drop_eq_nil_of_le (by omega)] at hy; cases hy
    refine List.pairwise_append.2 ⟨hr.sublist (List.take_sublist _ _), List.pairwise_cons.2 ⟨hD, hr.sublist (List.drop_sublist _ _)⟩, fun a ha b hb => ?_⟩
    have h1 := hT a ha
    rcases List.mem_cons.1 hb with rfl | hb
    · exact h1
    · have := hD b hb; omega
theorem Ints.drop {B : Nat} {w : World} {b off : Nat} {zs : List Int} (h : Ints B w (some ⟨b, off, none⟩) zs) (k : Nat) : Ints B w (some ⟨b, off + k, none⟩) (zs.drop k) := fun hne => by
  obtain ⟨b', off', e, hb, hc⟩ := h (by intro e; rw [e] at hne; simp at hne)
  cases e
  refine ⟨b, off + k, rfl, hb, fun i hi => ?_⟩
  rw [List.length_drop] at hi
  have := hc (k + i) (by omega)
  rw [show off + k + i = off + (k + i) by omega, this]
  simp
theorem Ints.take {B : Nat} {w : World} {A : Option Addr} {zs : List Int} (h : Ints B w A zs) (k : Nat) : Ints B w A (zs.take k) := fun hne => by
  obtain ⟨b', off', e, hb, hc⟩ := h (by intro e; rw [e] at hne; simp at hne)
  refine ⟨b', off', e, hb, fun i hi => ?_⟩
  rw [List.length_take] at hi
  rw [hc i (by omega)]
  simp [List.getElem?_take, show i < k by omega]
section
variable {n : Nat} {w W : World} {F : List Atom} {l : List Int} {v : Value}
theorem row_two {W : World} {base : Nat} {e : TypeId} {sz : Nat} {v : Value} {l : List Int} (h : W.ownsRow base e sz v l.length (ints l)) : (v = .slice none 0 0 ∧ l = []) ∨ ∃ g c, v = .slice (some ⟨g, 0, none⟩) l.length c ∧ l.length ≤ c := by
  rcases h.2 with ⟨h1, h2⟩ | ⟨g, cap, cur, h1, _, _, h3, _⟩
  · exact .inl ⟨h1, List.length_eq_zero_iff.1 h2⟩
  · exact .inr ⟨g, cap, h1, h3⟩
theorem ints_one (l : List Int) : ∀ u ∈ ints l, u.oneCell' = true := by
  intro u hu; unfold ints at hu; obtain ⟨z, _, rfl⟩ := List.mem_map.1 hu; rfl
theorem put_fin {A : Option Addr} {c k m : Nat} {x : Int} (hp : putL l x = l.take k ++ x :: l.drop k) (hk : k ≤ l.length) (hm : m = l.length - k) (h : Own n w W (rowA 3 1 (.slice A (k + 1 + m) c) (k + 1 + m) (ints (l.take k) ++ [.int .i64 x] ++ ints (l.drop k)) :: F)) :
    Own n w W (rowA 3 1 (.slice A (k + 1 + m) c) (putL l x).length (ints (putL l x)) :: F) := by
  have e1 : (putL l x).length = k + 1 + m := by rw [hp]; simp only [List.length_append, List.length_cons, List.length_take, List.length_drop]; omega
  have e2 : ints (putL l x) = ints (l.take k) ++ [.int .i64 x] ++ ints (l.drop k) := by rw [hp]; simp [ints]
  rw [e1, e2]; exact h
set_option maxHeartbeats 4000000 in
theorem put_c (ho : Own n w W (rowA 3 1 v l.length (ints l) :: F)) (hl : l.length < 274877906944) (x : Int) :
    Calls Try.prog 17 #[v, .int .i64 x] W fun e W' => ∃ v', e = .returned v' ∧ Own n w W' (rowA 3 1 v' (putL l x).length (ints (putL l x)) :: F) := by
  have HL := hide hl
  have HK := hide (putK_le l x)
  rcases row_two ho.row with ⟨rfl, rfl⟩ | ⟨g, c, rfl, hc⟩
  · have HO := hide ho
    clear ho hl
    go_enter Try.func17, Try.ntmps17
    go_wp2
    go_loop [5] (fun i => i = .int .i64 0) (fun i => 0)
    case atStart => rfl
    case round =>
      obtain rfl := hrel
      have H2 := hide (HO.out.nilRow 3 1)
      go_upto_region 7 with (fail)
      go_wp2_with (first
        | (have hx3 := H3; clear hx3; at_builtin; obtain ⟨i0, hi, hz0, hz1, hz2⟩ := info_parts info3x; refine wpList_append_src _ rfl _ _ 23 rfl n 3 i0 (.int .i64 0) 1 8 Try.underlying23 hi hz0 hz1 hz2 rfl (by decide) _ 1 _ rfl H3.out.row w3.heap.size none 0 0 [] rfl rfl (fun h => absurd rfl h) (by intro u hu; cases hu) (by unfold maxLen; omega) (by omega) H3.out.sz ?_; intro v4 w4 hown hg hat; obtain ⟨A4, c4, rfl⟩ := own_slice hown; have H4 := hide (H3.out.growRow hown hg hat); clear hown hg hat hi hz0 hz1 hz2 i0)
        | (at_builtin; obtain ⟨i0, hi, hz0, hz1, hz2⟩ := info_parts info3x; refine wpList_append_own_at _ rfl _ _ 23 rfl n 3 i0 (.int .i64 0) 1 8 Try.underlying23 hi hz0 hz1 hz2 rfl (by decide) (.slice none 0 0) 0 [] rfl (H2.out.row.alloc _) ⟨W.heap.size, 0, none⟩ 1 1 [.int .i64 x] rfl rfl (cell_one_new _ _ _) (by simp [Value.oneCell']) (by unfold maxLen; omega) (by omega) (by have := H2.out.sz; simp; omega) ?_; intro v3 w3 hown hg _ hat; obtain ⟨A3, c3, rfl⟩ := own_slice hown; have H3 := hide ((H2.out.alloc _).growRow hown hg hat); clear hown hg hat hi hz0 hz1 hz2 i0))
      go_ret
      exact ⟨_, rfl, H4.out.f1.tail⟩
  · have HO := hide ho
    have HI := hide (Ints.of_own (B := W.heap.size) ho.row (Nat.le_refl _))
    have HC := hide (fun (k : Nat) (hk : k < l.length) => show W.cell? ⟨g, k, none⟩ = some (.int .i64 l[k]) from (ho.row.cellAt k (by omega)).trans (ints_at hk))
    clear ho
    go_enter Try.func17, Try.ntmps17
    go_wp2
    go_loop [5] (fun i => ∃ k : Nat, k ≤ l.length ∧ i = .int .i64 k ∧ Hid (k ≤ putK l x)) (fun i => l.length - (intOf i).toNat)
    case atStart => exact ⟨0, by omega, rfl, hide (by omega)⟩
    case round =>
      obtain ⟨k, hk, rfl, HKK⟩ := hrel
      by_cases hlt : k < l.length
      · have y0 := HC.out k hlt
        have o1 : (0 : Int) ≤ (k : Int) := by omega
        have o2 : (k : Int) < (l.length : Int) := by omega
        have HX := hide (fun h : k < putK l x => putK_lt h)
        have HA := hide (putK_at (l := l) (x := x))
        obtain ⟨y, hy⟩ : ∃ y, l[k] = y := ⟨_, rfl⟩
        rw [hy] at y0
        have HY := hide hy
        clear hy
        by_cases hyx : y < x
        · have HN := hide (show k + 1 ≤ putK l x from by
            have h1 := HKK.out
            rcases Nat.lt_or_ge k (putK l x) with h | h
            · omega
            · obtain rfl : k = putK l x := by omega
              have := HA.out hlt
              rw [HY.out] at this
              omega)
          go_wp2
          go_round
          case rel => exact ⟨k + 1, by omega, by go_num, HN⟩
          case measure => simp [intOf]; omega
        · have HE := hide (show k = putK l x from by
            have h1 := HKK.out
            rcases Nat.lt_or_ge k (putK l x) with h | h
            · obtain ⟨_, h2⟩ := HX.out h
              rw [HY.out] at h2
              omega
            · omega)
          by_cases he : y = x
          · obtain ⟨m0, m1⟩ := int_eqb he
            have HP := hide (show putL l x = l from by unfold putL; rw [← HE.out, List.getElem?_eq_getElem hlt, HY.out, he, if_pos rfl])
            clear he
            go_wp2
            go_ret
            exact ⟨_, rfl, by rw [HP.out]; exact HO.out⟩
          · obtain ⟨m0, m1⟩ := int_neb he
            have HP := hide (show putL l x = l.take k ++ x :: l.drop k from by unfold putL; rw [← HE.out, List.getElem?_eq_getElem hlt, HY.out, if_neg (fun e => he (Option.some.inj e))])
            clear he
            have hck : ¬ c = k := by omega
            have HD := hide (show Ints W.heap.size W (some ⟨g, k, none⟩) (l.drop k) from by have := HI.out.drop k; rwa [Nat.zero_add] at this)
            go_upto_region 7 with (at_builtin; go_must (obtain ⟨i0, hi, hz0, hz1, hz2⟩ := info_parts info3x; refine wpList_append_src _ rfl _ _ 23 rfl n 3 i0 (.int .i64 0) 1 8 Try.underlying23 hi hz0 hz1 hz2 rfl (by decide) (.slice none 0 0) 0 [] rfl (World.ownsRow_nil _ _ _ _) W.heap.size _ (l.length - k) _ (ints (l.drop k)) rfl (by rw [ints_len, List.length_drop, Nat.mul_one]) HD.out.cells (ints_one _) (by have := HL.out; unfold maxLen; omega) (by have := HL.out; omega) HO.out.sz ?_); intro v1 w1 hown hg hat; rw [List.nil_append, Nat.zero_add] at hown; obtain ⟨A1, c1, rfl⟩ := own_slice hown; have H1 := hide ((HO.out.nilRow 3 1).growRow hown hg hat); clear hown hg hat hi hz0 hz1 hz2 i0)
            have HT1 := hide ((Ints.of_own (B := w1.heap.size) H1.out.tail.row (Nat.le_refl _)).take k)
            have hkc : k ≤ c := by have := HK.out; have := HE.out; omega
            go_wp2_with (first
              | (have hx3 := H3; clear hx3; at_builtin; go_must (obtain ⟨i0, hi, hz0, hz1, hz2⟩ := info_parts info3x; refine wpList_append_src _ rfl _ _ 23 rfl n 3 i0 (.int .i64 0) 1 8 Try.underlying23 hi hz0 hz1 hz2 rfl (by decide) _ (k + 1) _ rfl H3.out.row w3.heap.size A1 (l.length - k) c1 (ints (l.drop k)) rfl (by rw [ints_len, List.length_drop, Nat.mul_one]) (Ints.of_own (B := w3.heap.size) H3.out.tail.row (Nat.le_refl _)).cells (ints_one _) (by have := HL.out; have := HE.out; have := HK.out; unfold maxLen; omega) (by have := HL.out; have := HE.out; have := HK.out; omega) H3.out.sz ?_); intro v4 w4 hown hg hat; obtain ⟨A4, c4, rfl⟩ := own_slice hown; have H4 := hide (H3.out.growRow hown hg hat); clear hown hg hat hi hz0 hz1 hz2 i0)
              | (have hx2 := H2; clear hx2; at_builtin; go_must (obtain ⟨i0, hi, hz0, hz1, hz2⟩ := info_parts info3x; refine wpList_append_own_at _ rfl _ _ 23 rfl n 3 i0 (.int .i64 0) 1 8 Try.underlying23 hi hz0 hz1 hz2 rfl (by decide) _ _ _ rfl (H2.out.row.alloc _) ⟨w2.heap.size, 0, none⟩ 1 1 [.int .i64 x] rfl rfl (cell_one_new _ _ _) (by simp [Value.oneCell']) (by have := HL.out; have := HE.out; have := HK.out; unfold maxLen; omega) (by have := HL.out; have := HE.out; have := HK.out; omega) (by have := H2.out.sz; simp; omega) ?_); intro v3 w3 hown hg _ hat; obtain ⟨A3, c3, rfl⟩ := own_slice hown; have H3 := hide ((H2.out.alloc _).growRow hown hg hat); clear hown hg hat hi hz0 hz1 hz2 i0)
              | (at_builtin; go_must (obtain ⟨i0, hi, hz0, hz1, hz2⟩ := info_parts info3x; refine wpList_append_src _ rfl _ _ 23 rfl n 3 i0 (.int .i64 0) 1 8 Try.underlying23 hi hz0 hz1 hz2 rfl (by decide) (.slice none 0 0) 0 [] rfl (World.ownsRow_nil _ _ _ _) w1.heap.size _ k _ (ints (l.take k)) rfl (by rw [ints_len, List.length_take, Nat.mul_one]; have := HE.out; have := HK.out; omega) HT1.out.cells (ints_one _) (by have := HL.out; have := HE.out; have := HK.out; unfold maxLen; omega) (by have := HL.out; have := HE.out; have := HK.out; omega) H1.out.sz ?_); intro v2 w2 hown hg hat; rw [List.nil_append, Nat.zero_add] at hown; obtain ⟨A2, c2, rfl⟩ := own_slice hown; have H2 := hide ((H1.out.nilRow 3 1).growRow hown hg hat); clear hown hg hat hi hz0 hz1 hz2 i0))
            go_ret
            exact ⟨_, rfl, put_fin HP.out (by have := HE.out; have := HK.out; omega) rfl H4.out.f1.tail.f1.tail⟩
      · have HE := hide (show k = putK l x from by have := HK.out; have := HKK.out; omega)
        have o2 : ¬ (k : Int) < (l.length : Int) := by omega
        have hdn : l.drop k = [] := List.drop_eq_nil_of_le (by omega)
        have HP := hide (show putL l x = l.take k ++ x :: l.drop k from by unfold putL; rw [← HE.out, List.getElem?_eq_none (by omega), if_neg (fun e => by cases e)])
        by_cases hck : c = k
        · subst hck
          have HD := hide (show Ints W.heap.size W (some ⟨g, 0, none⟩) (l.drop c) from by rw [hdn]; intro h; exact absurd rfl h)
          clear hdn
          go_upto_region 7 with (at_builtin; go_must (obtain ⟨i0, hi, hz0, hz1, hz2⟩ := info_parts info3x; refine wpList_append_src _ rfl _ _ 23 rfl n 3 i0 (.int .i64 0) 1 8 Try.underlying23 hi hz0 hz1 hz2 rfl (by decide) (.slice none 0 0) 0 [] rfl (World.ownsRow_nil _ _ _ _) W.heap.size _ 0 _ (ints (l.drop c)) rfl (by rw [ints_len, List.length_drop, Nat.zero_mul]; omega) HD.out.cells (ints_one _) (by have := HL.out; unfold maxLen; omega) (by have := HL.out; omega) HO.out.sz ?_); intro v1 w1 hown hg hat; rw [List.nil_append, Nat.zero_add] at hown; obtain ⟨A1, c1, rfl⟩ := own_slice hown; have H1 := hide ((HO.out.nilRow 3 1).growRow hown hg hat); clear hown hg hat hi hz0 hz1 hz2 i0)
          have HT1 := hide ((Ints.of_own (B := w1.heap.size) H1.out.tail.row (Nat.le_refl _)).take c)
          have hkc : c ≤ c := Nat.le_refl _
          go_wp2_with (first
            | (have hx3 := H3; clear hx3; at_builtin; go_must (obtain ⟨i0, hi, hz0, hz1, hz2⟩ := info_parts info3x; refine wpList_append_src _ rfl _ _ 23 rfl n 3 i0 (.int .i64 0) 1 8 Try.underlying23 hi hz0 hz1 hz2 rfl (by decide) _ (c + 1) _ rfl H3.out.row w3.heap.size A1 0 c1 (ints (l.drop c)) rfl (by rw [ints_len, List.length_drop, Nat.zero_mul]; omega) (Ints.of_own (B := w3.heap.size) H3.out.tail.row (Nat.le_refl _)).cells (ints_one _) (by have := HL.out; have := HE.out; have := HK.out; unfold maxLen; omega) (by have := HL.out; have := HE.out; have := HK.out; omega) H3.out.sz ?_); intro v4 w4 hown hg hat; obtain ⟨A4, c4, rfl⟩ := own_slice hown; have H4 := hide (H3.out.growRow hown hg hat); clear hown hg hat hi hz0 hz1 hz2 i0)
            | (have hx2 := H2; clear hx2; at_builtin; go_must (obtain ⟨i0, hi, hz0, hz1, hz2⟩ := info_parts info3x; refine wpList_append_own_at _ rfl _ _ 23 rfl n 3 i0 (.int .i64 0) 1 8 Try.underlying23 hi hz0 hz1 hz2 rfl (by decide) _ _ _ rfl (H2.out.row.alloc _) ⟨w2.heap.size, 0, none⟩ 1 1 [.int .i64 x] rfl rfl (cell_one_new _ _ _) (by simp [Value.oneCell']) (by have := HL.out; have := HE.out; have := HK.out; unfold maxLen; omega) (by have := HL.out; have := HE.out; have := HK.out; omega) (by have := H2.out.sz; simp; omega) ?_); intro v3 w3 hown hg _ hat; obtain ⟨A3, c3, rfl⟩ := own_slice hown; have H3 := hide ((H2.out.alloc _).growRow hown hg hat); clear hown hg hat hi hz0 hz1 hz2 i0)
            | (at_builtin; go_must (obtain ⟨i0, hi, hz0, hz1, hz2⟩ := info_parts info3x; refine wpList_append_src _ rfl _ _ 23 rfl n 3 i0 (.int .i64 0) 1 8 Try.underlying23 hi hz0 hz1 hz2 rfl (by decide) (.slice none 0 0) 0 [] rfl (World.ownsRow_nil _ _ _ _) w1.heap.size _ c _ (ints (l.take c)) rfl (by rw [ints_len, List.length_take, Nat.mul_one]; have := HE.out; have := HK.out; omega) HT1.out.cells (ints_one _) (by have := HL.out; have := HE.out; have := HK.out; unfold maxLen; omega) (by have := HL.out; have := HE.out; have := HK.out; omega) H1.out.sz ?_); intro v2 w2 hown hg hat; rw [List.nil_append, Nat.zero_add] at hown; obtain ⟨A2, c2, rfl⟩ := own_slice hown; have H2 := hide ((H1.out.nilRow 3 1).growRow hown hg hat); clear hown hg hat hi hz0 hz1 hz2 i0))
          go_ret
          exact ⟨_, rfl, put_fin HP.out (by have := HE.out; have := HK.out; omega) (by omega) H4.out.f1.tail.f1.tail⟩
        · have HD := hide (show Ints W.heap.size W (some ⟨g, k, none⟩) (l.drop k) from by rw [hdn]; intro h; exact absurd rfl h)
          clear hdn
          go_upto_region 7 with (at_builtin; go_must (obtain ⟨i0, hi, hz0, hz1, hz2⟩ := info_parts info3x; refine wpList_append_src _ rfl _ _ 23 rfl n 3 i0 (.int .i64 0) 1 8 Try.underlying23 hi hz0 hz1 hz2 rfl (by decide) (.slice none 0 0) 0 [] rfl (World.ownsRow_nil _ _ _ _) W.heap.size _ (l.length - k) _ (ints (l.drop k)) rfl (by rw [ints_len, List.length_drop, Nat.mul_one]) HD.out.cells (ints_one _) (by have := HL.out; unfold maxLen; omega) (by have := HL.out; omega) HO.out.sz ?_); intro v1 w1 hown hg hat; rw [List.nil_append, Nat.zero_add] at hown; obtain ⟨A1, c1, rfl⟩ := own_slice hown; have H1 := hide ((HO.out.nilRow 3 1).growRow hown hg hat); clear hown hg hat hi hz0 hz1 hz2 i0)
          have HT1 := hide ((Ints.of_own (B := w1.heap.size) H1.out.tail.row (Nat.le_refl _)).take k)
          have hkc : k ≤ c := by have := HK.out; have := HE.out; omega
          go_wp2_with (first
            | (have hx3 := H3; clear hx3; at_builtin; go_must (obtain ⟨i0, hi, hz0, hz1, hz2⟩ := info_parts info3x; refine wpList_append_src _ rfl _ _ 23 rfl n 3 i0 (.int .i64 0) 1 8 Try.underlying23 hi hz0 hz1 hz2 rfl (by decide) _ (k + 1) _ rfl H3.out.row w3.heap.size A1 (l.length - k) c1 (ints (l.drop k)) rfl (by rw [ints_len, List.length_drop, Nat.mul_one]) (Ints.of_own (B := w3.heap.size) H3.out.tail.row (Nat.le_refl _)).cells (ints_one _) (by have := HL.out; have := HE.out; have := HK.out; unfold maxLen; omega) (by have := HL.out; have := HE.out; have := HK.out; omega) H3.out.sz ?_); intro v4 w4 hown hg hat; obtain ⟨A4, c4, rfl⟩ := own_slice hown; have H4 := hide (H3.out.growRow hown hg hat); clear hown hg hat hi hz0 hz1 hz2 i0)
            | (have hx2 := H2; clear hx2; at_builtin; go_must (obtain ⟨i0, hi, hz0, hz1, hz2⟩ := info_parts info3x; refine wpList_append_own_at _ rfl _ _ 23 rfl n 3 i0 (.int .i64 0) 1 8 Try.underlying23 hi hz0 hz1 hz2 rfl (by decide) _ _ _ rfl (H2.out.row.alloc _) ⟨w2.heap.size, 0, none⟩ 1 1 [.int .i64 x] rfl rfl (cell_one_new _ _ _) (by simp [Value.oneCell']) (by have := HL.out; have := HE.out; have := HK.out; unfold maxLen; omega) (by have := HL.out; have := HE.out; have := HK.out; omega) (by have := H2.out.sz; simp; omega) ?_); intro v3 w3 hown hg _ hat; obtain ⟨A3, c3, rfl⟩ := own_slice hown; have H3 := hide ((H2.out.alloc _).growRow hown hg hat); clear hown hg hat hi hz0 hz1 hz2 i0)
            | (at_builtin; go_must (obtain ⟨i0, hi, hz0, hz1, hz2⟩ := info_parts info3x; refine wpList_append_src _ rfl _ _ 23 rfl n 3 i0 (.int .i64 0) 1 8 Try.underlying23 hi hz0 hz1 hz2 rfl (by decide) (.slice none 0 0) 0 [] rfl (World.ownsRow_nil _ _ _ _) w1.heap.size _ k _ (ints (l.take k)) rfl (by rw [ints_len, List.length_take, Nat.mul_one]; have := HE.out; have := HK.out; omega) HT1.out.cells (ints_one _) (by have := HL.out; have := HE.out; have := HK.out; unfold maxLen; omega) (by have := HL.out; have := HE.out; have := HK.out; omega) H1.out.sz ?_); intro v2 w2 hown hg hat; rw [List.nil_append, Nat.zero_add] at hown; obtain ⟨A2, c2, rfl⟩ := own_slice hown; have H2 := hide ((H1.out.nilRow 3 1).growRow hown hg hat); clear hown hg hat hi hz0 hz1 hz2 i0))
          go_ret
          exact ⟨_, rfl, put_fin HP.out (by have := HE.out; have := HK.out; omega) rfl H4.out.f1.tail.f1.tail⟩
end
end Go.Proofs.Ytjfejimghbohdaa
