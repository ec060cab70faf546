/-
  The contract of deps.Copy. Conditions: the graph's numbers are in their bounds.
-/
import Derived.Test.YtlpdhmkcbdhelaaCm
import Derived.Test.YtlpdhmkcbdhelaaF
import Derived.Test.YtlpdhmkcbdhelaaCo
import Derived.Deep.LoopGhost
import Derived.Deep.CutBlock
import Derived.Deep.RegionHeld3
namespace Go.Proofs.Ytlpdhmkcbdhelaa
set_option linter.unusedVariables false
set_option linter.unusedSimpArgs false
open Go.RowKit Go.Maps

section
variable {n g : Nat} {w W : World} {F ps X : List Atom} {st : St}
theorem cellsL_one (l : List Cg) (h1 : ∀ c ∈ l, c.von.oneCell' = true ∧ c.vto.oneCell' = true) : ∀ u ∈ cellsL l, u.oneCell' = true := by
  intro u hu
  obtain ⟨c, hc, hu⟩ := List.mem_flatMap.1 hu
  have := h1 c hc
  unfold Cg.cells at hu
  simp only [List.mem_cons, List.not_mem_nil, or_false] at hu
  rcases hu with rfl | rfl | rfl | rfl | rfl
  · rfl
  · exact this.1
  · rfl
  · exact this.2
  · rfl
/-- the state behind the copying of k rows -/
structure CyP (n : Nat) (w : World) (cb : Nat) (vl : Value) (bb nb : Nat) (opn : Int) (nx : Int → Option Int) (l : List Cg) (G : List Atom) (k : Nat) (W : World) : Prop where
  ex : ∃ p : List Cg, p.length = k ∧ p.map Cg.c = (l.take k).map Cg.c ∧ Own n w W (blkA cb #[vl, .map (some bb), .int .i64 opn, .map (some nb)] 58 :: rowA 60 5 vl l.length (cellsL (p ++ l.drop k)) :: mpA bb (locF []) :: mpA nb (intF nx) :: ((p.map onA ++ p.map toA) ++ G))
theorem copy_perm (p : List Cg) (x : Cg) (G Y : List Atom) : (toA x :: onA x :: (Y ++ ((p.map onA ++ p.map toA) ++ G))).Perm (Y ++ (((p ++ [x]).map onA ++ (p ++ [x]).map toA) ++ G)) := by
  have h1 : (toA x :: onA x :: (p.map onA ++ p.map toA)).Perm ((p ++ [x]).map onA ++ (p ++ [x]).map toA) := by
    rw [List.map_append, List.map_append]
    show (toA x :: onA x :: (p.map onA ++ p.map toA)).Perm ((p.map onA ++ [onA x]) ++ (p.map toA ++ [toA x]))
    rw [← List.append_assoc]
    refine List.Perm.trans (List.Perm.cons _ ?_) (List.perm_append_singleton _ _).symm
    rw [List.append_assoc]
    exact List.perm_middle.symm
  refine List.Perm.trans ?_ (List.Perm.append_left Y (List.Perm.append_right G h1))
  refine List.Perm.trans (List.Perm.cons _ List.perm_middle.symm) ?_
  exact List.perm_middle.symm
theorem CyP.cell {cb : Nat} {vl : Value} {bb nb : Nat} {opn : Int} {nx : Int → Option Int} {l : List Cg} {G : List Atom} {k : Nat} (h : CyP n w cb vl bb nb opn nx l G k W) : W.cell? ⟨cb, 0, none⟩ = some vl ∧ W.cell? ⟨cb, 1, none⟩ = some (.map (some bb)) := by
  obtain ⟨p, -, -, ho⟩ := h.ex
  have hb : Blk W cb #[vl, .map (some bb), .int .i64 opn, .map (some nb)] 58 := ho.head
  exact ⟨hb.cell 0, hb.cell 1⟩
theorem CyP.row {cb : Nat} {vl : Value} {bb nb : Nat} {opn : Int} {nx : Int → Option Int} {l : List Cg} {G : List Atom} {k : Nat} (h : CyP n w cb vl bb nb opn nx l G k W) (hk : k < l.length) :
    ∃ gl c, vl = .slice (some ⟨gl, 0, none⟩) l.length c ∧ gl ≠ cb ∧ W.cell? ⟨gl, k * 5 + 1, none⟩ = some l[k].von ∧ W.cell? ⟨gl, k * 5 + 3, none⟩ = some l[k].vto ∧ W.frozen? ⟨gl, k * 5 + 1, none⟩ = false ∧ W.frozen? ⟨gl, k * 5 + 3, none⟩ = false := by
  obtain ⟨p, hp, -, ho⟩ := h.ex
  have hr : W.ownsRow 0 60 5 vl l.length (cellsL (p ++ l.drop k)) := ho.tail.head
  obtain ⟨A, c, rfl⟩ := own_slice hr
  obtain ⟨gl, rfl⟩ := row_form hr (by omega)
  have hlen : (p ++ l.drop k).length = l.length := by rw [List.length_append, List.length_drop]; omega
  have hat : (p ++ l.drop k)[k]'(by omega) = l[k] := by
    rw [List.getElem_append_right (by omega)]
    simp [hp]
  have hfar : gl ≠ cb := fun e => by
    have := (List.pairwise_cons.1 ho.apart).1 (rowA 60 5 (.slice (some ⟨gl, 0, none⟩) l.length c) l.length (cellsL (p ++ l.drop k))) (by simp) cb rfl
    exact this (by rw [← e]; rfl)
  refine ⟨gl, c, rfl, hfar, ?_, ?_, hr.frozenAt _, hr.frozenAt _⟩
  · rw [hr.cellAt (k * 5 + 1) (by omega), cellsL_at (l := p ++ l.drop k) (by omega) (by omega), hat]; rfl
  · rw [hr.cellAt (k * 5 + 3) (by omega), cellsL_at (l := p ++ l.drop k) (by omega) (by omega), hat]; rfl
theorem CyP.step {cb : Nat} {bb nb : Nat} {opn : Int} {nx : Int → Option Int} {l : List Cg} {G : List Atom} {k gl c : Nat} {von vto : Value} (p : List Cg) (hk : k < l.length) (hp : p.length = k) (hc : p.map Cg.c = (l.take k).map Cg.c)
    (ho : Own n w W (rowA 3 1 vto l[k].c.to.length (ints l[k].c.to) :: rowA 3 1 von l[k].c.on.length (ints l[k].c.on) :: blkA cb #[.slice (some ⟨gl, 0, none⟩) l.length c, .map (some bb), .int .i64 opn, .map (some nb)] 58 :: rowA 60 5 (.slice (some ⟨gl, 0, none⟩) l.length c) l.length (cellsL (p ++ l.drop k)) :: mpA bb (locF []) :: mpA nb (intF nx) :: ((p.map onA ++ p.map toA) ++ G))) :
    CyP n w cb (.slice (some ⟨gl, 0, none⟩) l.length c) bb nb opn nx l G (k + 1) ((W.setCell ⟨gl, k * 5 + 1, none⟩ von).setCell ⟨gl, k * 5 + 3, none⟩ vto) := by
  have hlen : (p ++ l.drop k).length = l.length := by rw [List.length_append, List.length_drop]; omega
  have hkk : k < (p ++ l.drop k).length := by omega
  have hat : (p ++ l.drop k)[k] = l[k] := by
    rw [List.getElem_append_right (by omega)]
    simp [hp]
  have h1 := ho.f3.setRow (k * 5 + 1) von
  rw [cellsL_set hkk (by omega) von ⟨l[k].c, von, l[k].vto⟩ (by rw [hat]; rfl)] at h1
  have h2 := h1.setRow (k * 5 + 3) vto
  rw [cellsL_set (l := (p ++ l.drop k).set k ⟨l[k].c, von, l[k].vto⟩) (k := k) (by rw [List.length_set]; omega) (by omega) vto ⟨l[k].c, von, vto⟩ (by rw [List.getElem_set_self]; rfl), List.set_set] at h2
  have he : (p ++ l.drop k).set k ⟨l[k].c, von, vto⟩ = (p ++ [⟨l[k].c, von, vto⟩]) ++ l.drop (k + 1) := by
    rw [List.set_append_right _ _ (by omega), hp, Nat.sub_self, List.drop_eq_getElem_cons hk, List.set_cons_zero, List.append_assoc]; rfl
  rw [he] at h2
  refine ⟨p ++ [⟨l[k].c, von, vto⟩], by rw [List.length_append, hp]; rfl, ?_, ?_⟩
  · rw [List.map_append, hc, List.take_succ_eq_append_getElem hk, List.map_append]; rfl
  · have h3 := h2.f1.f2.f3
    refine Own.perm ?_ (copy_perm p ⟨l[k].c, von, vto⟩ G [blkA cb #[.slice (some ⟨gl, 0, none⟩) l.length c, .map (some bb), .int .i64 opn, .map (some nb)] 58, rowA 60 5 (.slice (some ⟨gl, 0, none⟩) l.length c) l.length (cellsL ((p ++ [⟨l[k].c, von, vto⟩]) ++ l.drop (k + 1))), mpA bb (locF []), mpA nb (intF nx)])
    refine h2.perm ?_
    refine List.Perm.trans (List.Perm.swap _ _ _) (List.Perm.cons _ ?_)
    refine List.Perm.trans (List.Perm.swap _ _ _) (List.Perm.cons _ ?_)
    exact List.Perm.swap _ _ _
theorem cells_own {W : World} {base : Nat} {e : TypeId} {sz : Nat} {A : Option Addr} {k c : Nat} {xs : List Value} (h : W.ownsRow base e sz (.slice A k c) k xs) : Cells W.heap.size W A xs := fun hne => by
  rcases h.2 with ⟨hv, h0⟩ | ⟨g, cap, cur, hv, _, hg, _⟩
  · have := h.1
    exact absurd (List.length_eq_zero_iff.1 (by rw [this, h0, Nat.zero_mul])) hne
  · injection hv with hA _ _
    subst hA
    refine ⟨g, 0, rfl, (Array.getElem?_eq_some_iff.1 hg).1, fun i u hu => ?_⟩
    have hi := (List.getElem?_eq_some_iff.1 hu).1
    rw [Nat.zero_add, h.cellAt i (by have := h.1; omega), hu]
theorem own_newmap (h : Own n w W X) : Own n w (W.alloc (.map #[] 0)) (mpA W.heap.size (locF []) :: X) := h.new (.map #[] 0) (mpA W.heap.size (locF [])) rfl ⟨0, OwnV.made W Try.prog 3⟩
theorem own_clone42 {vl : Value} {l : List Cg} (h : Own n w W X) (hm : rowA 60 5 vl l.length (cellsL l) ∈ X) (h1 : ∀ c ∈ l, c.von.oneCell' = true ∧ c.vto.oneCell' = true) (hl : l.length < 1099511627776) :
    Calls Try.prog 42 #[vl] W fun e W' => ∃ v, e = .returned v ∧ Own n w W' (rowA 60 5 v l.length (cellsL l) :: X) := by
  have hr : W.ownsRow 0 60 5 vl l.length (cellsL l) := h.hold _ hm
  obtain ⟨A, c, rfl⟩ := own_slice hr
  refine (clone42_c A l.length c (cellsL l) W (cellsL_len l) (cells_own hr) (cellsL_one l h1) (by omega)).mono ?_
  rintro e W' ⟨v, rfl, h2, h3⟩
  exact ⟨v, rfl, h.moreRow h3 h2⟩
theorem own_clone43 {b : Nat} {f : Int → Option Value} (h : Own n w W X) (hm : mpA b f ∈ X) :
    Calls Try.prog 43 #[.map (some b)] W fun e W' => ∃ b', e = .returned (.map (some b')) ∧ Own n w W' (mpA b' f :: X) := by
  obtain ⟨s, hs⟩ : ∃ s, OwnV Try.prog 3 W b f s := h.hold _ hm
  obtain ⟨es, clock, hb, ho⟩ := hs.cloned
  refine (clone43_c hb).mono ?_
  rintro e W' ⟨rfl, rfl⟩
  exact ⟨W.heap.size, rfl, h.new _ (mpA W.heap.size f) rfl ⟨s, ho⟩⟩
theorem own_clone44 {b : Nat} {f : Int → Option Value} (h : Own n w W X) (hm : mpA b f ∈ X) :
    Calls Try.prog 44 #[.map (some b)] W fun e W' => ∃ b', e = .returned (.map (some b')) ∧ Own n w W' (mpA b' f :: X) := by
  obtain ⟨s, hs⟩ : ∃ s, OwnV Try.prog 3 W b f s := h.hold _ hm
  obtain ⟨es, clock, hb, ho⟩ := hs.cloned
  refine (clone44_c hb).mono ?_
  rintro e W' ⟨rfl, rfl⟩
  exact ⟨W.heap.size, rfl, h.new _ (mpA W.heap.size f) rfl ⟨s, ho⟩⟩
theorem own_clone31 {v : Value} {on : List Int} (h : Own n w W X) (hm : rowA 3 1 v on.length (ints on) ∈ X) (hl : on.length < 1099511627776) :
    Calls Try.prog 31 #[v] W fun e W' => ∃ v', e = .returned v' ∧ Own n w W' (rowA 3 1 v' on.length (ints on) :: X) := by
  have hr : W.ownsRow 0 3 1 v on.length (ints on) := h.hold _ hm
  obtain ⟨A, c, rfl⟩ := own_slice hr
  refine (clone31_c A on.length c (ints on) W (by rw [ints_len]; omega) (Ints.of_own (B := W.heap.size) hr (Nat.le_refl _)).cells (by intro u hu; unfold ints at hu; obtain ⟨z, _, rfl⟩ := List.mem_map.1 hu; rfl) (by omega)).mono ?_
  rintro e W' ⟨v, rfl, h2, h3⟩
  exact ⟨v, rfl, h.moreRow h3 h2⟩
theorem CyP.start {vl' : Value} {l : List Cg} {bb' nb' : Nat} {opn : Int} {nx : Int → Option Int} (h : Own n w W (mpA nb' (intF nx) :: rowA 60 5 vl' l.length (cellsL l) :: mpA bb' (locF []) :: X)) :
    CyP n w W.heap.size vl' bb' nb' opn nx l X 0 (W.alloc (.cells #[vl', .map (some bb'), .int .i64 opn, .map (some nb')] 58)) := by
  refine ⟨[], rfl, rfl, ?_⟩
  have h1 := h.newBlk #[vl', .map (some bb'), .int .i64 opn, .map (some nb')] 58
  rw [List.drop_zero, List.nil_append]
  refine h1.perm (List.Perm.cons _ ?_)
  refine List.Perm.trans (List.Perm.swap _ _ _) (List.Perm.cons _ ?_)
  exact List.Perm.swap _ _ _
end
end Go.Proofs.Ytlpdhmkcbdhelaa
