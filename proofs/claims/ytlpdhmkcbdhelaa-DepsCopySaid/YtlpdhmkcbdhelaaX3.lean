/-
  The document's own Written. Conditions: the rows are few.
-/
import Derived.Test.YtlpdhmkcbdhelaaX2
namespace Go.Proofs.Ytlpdhmkcbdhelaa
set_option linter.unusedVariables false
set_option linter.unusedSimpArgs false
open Go.RowKit Go.Maps

theorem rc_ext {a b : List Rc} (hl : a.length = b.length) (h : ∀ i, i < a.length → a.getD i zr = b.getD i zr) : a = b := by
  refine List.ext_getElem hl fun i h1 h2 => ?_
  have := h i h1
  simpa [h1, h2] using this
theorem setD_nil (r : List Rc) : setD r [] = r :=
  rc_ext (setD_len _ _) (fun i hi => by
    rw [setD_len] at hi
    rw [setD_at hi]
    simp)
theorem setD_snoc (r : List Rc) (o : List Int) (i : Nat) (hi : i < r.length) : setD r (o ++ [(i : Int)]) = (setD r o).set i ⟨((setD r o).getD i zr).buf, ((setD r o).getD i zr).on, true⟩ :=
  rc_ext (by rw [List.length_set, setD_len, setD_len]) (fun j hj => by
    rw [setD_len] at hj
    rw [setD_at hj, setD_at hi]
    by_cases e : i = j
    · subst e
      simp [setD_len, hi]
    · have e2 : ¬ (j : Int) = (i : Int) := by omega
      have e3 : ((setD r o).set i (⟨(r.getD i zr).buf, (r.getD i zr).on, true⟩ : Rc)).getD j zr = (setD r o).getD j zr := by simp [List.getElem?_set, e]
      rw [e3, setD_at hj]
      simp [e2])
theorem rg_set {l : List Rg} {i : Nat} (h : i < l.length) (x : Rg) (hv : x.von = l[i].von) (ho : x.c.on = l[i].c.on) : (l.set i x).map rgA = l.map rgA := by
  have e : rgA x = (l.map rgA)[i]'(by simpa using h) := by
    rw [List.getElem_map]; unfold rgA; rw [hv, ho]
  rw [List.map_set, e, List.set_getElem_self]
section
variable {n b : Nat} {w W : World} {F ps : List Atom} {r : List Rc}
def RwP (n : Nat) (w : World) (b : Nat) (F : List Atom) (v : Value) (out : List Int) (r : List Rc) (W : World) : Prop :=
  ∃ ps, IsR b r ps ∧ Own n w W (rowA 3 1 v out.length (ints out) :: (ps ++ F))
set_option maxHeartbeats 4000000 in
theorem rwritten_c (hg : IsR b r ps) (hw : WfR r) (hs : Sm r) (ho : Own n w W (ps ++ F)) (buf : Int) :
    Calls Try.prog 37 #[.pointer (some ⟨b, 0, none⟩), .int .i64 buf] W fun e W' => ∃ v ps', e = .returned v ∧ IsR b (writtenR r buf) ps' ∧ Own n w W' (rowA 3 1 v (nextR r buf).length (ints (nextR r buf)) :: (ps' ++ F)) := by
  have HN := hide (rnext_c hg hw hs ho buf)
  have HG := hide hg
  have hmem := fun x (hx : x ∈ nextR r buf) => nextR_range hx
  have hol : (nextR r buf).length ≤ r.length := by
    unfold nextR castL
    rw [List.length_map]
    exact Nat.le_trans (List.length_filter_le _ _) (by simp)
  have hlen := hs.len
  have HLEN := hide hlen
  unfold writtenR
  generalize nextR r buf = out at HN hmem hol ⊢
  have HMEM := hide hmem
  have HOL := hide hol
  clear hmem ho hg hw hs hlen hol
  go_enter Try.func37, Try.ntmps37
  go_upto_region 2 with (go_at_call 25; refine HN.out.mono ?_; rintro e W1 ⟨v, rfl, h1⟩; obtain ⟨Av, cv, rfl⟩ := own_slice h1.row; have H1 := hide h1; clear h1)
  have HP0 := hide (show RwP n w b F (.slice Av out.length cv) out (setD r (out.take 0)) W1 from ⟨ps, by rw [List.take_zero, setD_nil]; exact HG.out, H1.out⟩)
  clear H1 HN HG
  go_wp2
  go_loopw [6] (fun i W => ∃ k : Nat, k ≤ out.length ∧ i = .int .i64 k ∧ Hid (RwP n w b F (.slice Av out.length cv) out (setD r (out.take k)) W)) (fun i _ => out.length - (intOf i).toNat)
  case atStart => exact ⟨0, by omega, rfl, HP0⟩
  case round =>
    obtain ⟨k, hk, rfl, HP⟩ := hrel
    by_cases hlt : k < out.length
    · obtain ⟨ps, ⟨vl, l, rfl, h1⟩, ho⟩ := HP.out
      have hrv : wr.ownsRow n 3 1 (.slice Av out.length cv) out.length (ints out) := ho.row
      obtain ⟨gv, rfl⟩ := row_form hrv (by omega)
      have y0 := hrv.cellAt k (by omega)
      rw [ints_at hlt] at y0
      have hx := HMEM.out _ (List.getElem_mem hlt)
      have hTK := List.take_succ_eq_append_getElem hlt
      generalize out[k] = x at y0 hx hTK
      obtain ⟨i, rfl⟩ := Int.eq_ofNat_of_zero_le hx.1
      have hir : i < r.length := by omega
      have hlm : l.length = r.length := by rw [← List.length_map (f := Rg.c), h1, setD_len]
      have hil : i < l.length := by omega
      have hrl : wr.ownsRow 0 45 3 vl l.length (cellsR l) := ho.hold (rowA 45 3 vl l.length (cellsR l)) (by simp [rParts])
      obtain ⟨Al, cl, rfl⟩ := own_slice hrl
      obtain ⟨gl, rfl⟩ := row_form hrl (by omega)
      have hbk : Blk wr b #[.slice (some ⟨gl, 0, none⟩) l.length cl] 43 := ho.hold (blkA b #[.slice (some ⟨gl, 0, none⟩) l.length cl] 43) (by simp [rParts])
      have x0 : wr.cell? ⟨b, 0, none⟩ = some (.slice (some ⟨gl, 0, none⟩) l.length cl) := hbk.cell 0
      have x2 : wr.cell? ⟨gl, i * 3 + 2, none⟩ = some (.bool l[i].c.done) := by rw [hrl.cellAt (i * 3 + 2) (by omega), cellsR_at hil (by omega)]; rfl
      have f2 : wr.frozen? ⟨gl, i * 3 + 2, none⟩ = false := hrl.frozenAt _
      have o1 : (0 : Int) ≤ (k : Int) := by omega
      have o2 : (k : Int) < (out.length : Int) := by omega
      have o3 : (0 : Int) ≤ (i : Int) := by omega
      have o4 : (i : Int) < (l.length : Int) := by omega
      have hO1 := ho.f2.setRow (i * 3 + 2) (.bool true)
      rw [cellsR_set hil (by omega) (.bool true) ⟨⟨l[i].c.buf, l[i].c.on, true⟩, l[i].von⟩ rfl] at hO1
      have HN := hide (show RwP n w b F (.slice (some ⟨gv, 0, none⟩) out.length cv) out (setD r (out.take (k + 1))) (wr.setCell ⟨gl, i * 3 + 2, none⟩ (.bool true)).drew from by
        refine ⟨rParts b (.slice (some ⟨gl, 0, none⟩) l.length cl) (l.set i ⟨⟨l[i].c.buf, l[i].c.on, true⟩, l[i].von⟩), ⟨_, _, rfl, ?_⟩, ?_⟩
        · rw [hTK, setD_snoc r _ i hir, ← h1, List.map_set]
          congr 1
          have e : (l.map Rg.c).getD i zr = l[i].c := by simp [hil]
          rw [e]
        · have h := hO1.f2.f2.drew
          unfold rParts
          rw [rg_set hil (⟨⟨l[i].c.buf, l[i].c.on, true⟩, l[i].von⟩ : Rg) rfl rfl, List.length_set]
          exact h)
      have HOLL := hide (show out.length < 274877906944 from by have := HOL.out; have := HLEN.out; omega)
      have hll := HOLL.out
      clear hO1 ho hrv hx h1 hbk hrl HP hlm hTK hir
      generalize l[i].c.done = dn at x2
      clear hil
      go_upto_region 5 with (fail)
      go_region
      generalize (wr.setCell ⟨gl, i * 3 + 2, none⟩ (.bool true)).drew = Wz at HN ⊢
      clear x0 x2 f2 y0
      go_wp2
      go_roundw
      case rel => exact ⟨k + 1, by omega, by go_num, HN⟩
      case measure => simp [intOf]; omega
    · obtain rfl : k = out.length := by omega
      have o3 : ¬ (out.length : Int) < (out.length : Int) := by omega
      go_wp2
      go_ret
      obtain ⟨ps, hg, ho⟩ := HP.out
      rw [List.take_length] at hg
      exact ⟨_, rfl, ps, hg, ho⟩
end
end Go.Proofs.Ytlpdhmkcbdhelaa
