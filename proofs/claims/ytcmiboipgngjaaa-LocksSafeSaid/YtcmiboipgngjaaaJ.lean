/-
  A slice that begins anywhere in its block, as a part: append to it, cut from its front. General words over any program; no condition.
-/
import Derived.Test.YtcmiboipgngjaaaP
import Derived.Deep.Upon
import Derived.Deep.MidRow
import Derived.ArgAppend
import Derived.Maps.AppendAt
namespace Go.Proofs.Ytcmiboipgngjaaa
open Go.RowKit Go.Maps
set_option linter.unusedVariables false
set_option linter.unusedSimpArgs false

def offRow (w : World) (sz : Nat) (v : Value) (n : Nat) (xs : List Value) : Prop :=
  xs.length = n * sz ∧ ((v = .slice none 0 0 ∧ n = 0) ∨ ∃ g off cap, v = .slice (some ⟨g, off, none⟩) n cap ∧ g < w.heap.size ∧ n ≤ cap ∧ cap ≤ maxLen ∧
    (∀ j u, xs[j]? = some u → w.cell? ⟨g, off + j, none⟩ = some u) ∧ ∀ j, j < cap * sz → (w.cell? ⟨g, off + j, none⟩).isSome = true ∧ w.frozen? ⟨g, off + j, none⟩ = false)
def offA (sz : Nat) (v : Value) (n : Nat) (xs : List Value) : Atom where
  b := v.ownBlock
  Q W := offRow W sz v n xs
  loc := fun {W W'} h hq => by
    refine ⟨hq.1, ?_⟩
    rcases hq.2 with h2 | ⟨g, off, cap, rfl, hlt, h3, h4, h5, h6⟩
    · exact .inl h2
    · have hb := h g rfl
      refine .inr ⟨g, off, cap, rfl, ?_, h3, h4, fun j u hu => (World.cell?_of_block (a := ⟨g, off + j, none⟩) hb).trans (h5 j u hu), fun j hj => ?_⟩
      · rcases Nat.lt_or_ge g W'.heap.size with h | h
        · exact h
        · rw [Array.getElem?_eq_none h, Array.getElem?_eq_getElem hlt] at hb; cases hb
      · rw [World.cell?_of_block (a := ⟨g, off + j, none⟩) hb, World.frozen?_of_block (a := ⟨g, off + j, none⟩) hb]; exact h6 j hj
  lt := fun hq k hk => by
    rcases hq.2 with ⟨rfl, _⟩ | ⟨g, off, cap, rfl, hlt, _⟩
    · cases hk
    · obtain rfl : g = k := Option.some.inj hk
      exact hlt
theorem offRow.nil (w : World) (sz : Nat) : offRow w sz (.slice none 0 0) 0 [] := ⟨by simp, .inl ⟨rfl, rfl⟩⟩
/-- what is left when the first is cut off -/
theorem offRow.cut {w : World} {sz g off n cap : Nat} {xs : List Value} (h : offRow w sz (.slice (some ⟨g, off, none⟩) (n + 1) cap) (n + 1) xs) : offRow w sz (.slice (some ⟨g, off + sz, none⟩) n (cap - 1)) n (xs.drop sz) := by
  have hm : (n + 1) * sz = n * sz + sz := Nat.succ_mul n sz
  refine ⟨by rw [List.length_drop, h.1, hm]; omega, ?_⟩
  rcases h.2 with ⟨h2, _⟩ | ⟨g', off', cap', h2, hlt, h3, h4, h5, h6⟩
  · cases h2
  · cases h2
    refine .inr ⟨g, off + sz, cap - 1, rfl, hlt, by omega, by omega, fun j u hu => ?_, fun j hj => ?_⟩
    · rw [List.getElem?_drop] at hu
      have := h5 (sz + j) u hu
      rwa [← Nat.add_assoc] at this
    · have e : cap * sz = (cap - 1) * sz + sz := by rw [← Nat.succ_mul]; congr 1; omega
      have := h6 (sz + j) (by omega)
      rwa [← Nat.add_assoc] at this
theorem size_setC (b : Nat) : ∀ (vs : List Value) (o : Nat) (w : World), (w.setCells b o vs).heap.size = w.heap.size
  | [], _, _ => rfl
  | v :: r, o, w => by rw [World.setCells, size_setC b r]; simp [World.setCell]
theorem tape_setC (b : Nat) : ∀ (vs : List Value) (o : Nat) (w : World), (w.setCells b o vs).tape = w.tape
  | [], _, _ => rfl
  | v :: r, o, w => by rw [World.setCells, tape_setC b r]; rfl
section
variable {P : Program} {w : World} {v : Value} {n : Nat} {xs : List Value}
theorem offRow.append (t ty e : TypeId) (i : TypeInfo) (z : Value) (size bytes : Nat) (ht : P.underlying t = some (.slice e)) (hi : P.info? e = some i) (hz : i.zero = some z)
    (hsize : i.size = size) (hby : i.bytes = bytes) (hzs : z.cells.size = size) (h : offRow w size v n xs)
    (a : Addr) (m c : Nat) (news : List Value) (hl : news.length = m * size) (hnews : ∀ j u, news[j]? = some u → w.cell? (a.add j) = some u) (h1 : ∀ u ∈ news, u.oneCell' = true)
    (h63 : n + m ≤ maxLen) (hbytes : (n + m) * bytes ≤ 140737488355328) (hm : 0 < m) :
    ∃ v' w', (Builtin.append_ #[t, t] ty #[v, .slice (some a) m c]).run P w = .ok v' w' ∧ offRow w' size v' (n + m) (xs ++ news) ∧ w.grownBy w' v.ownBlock ∧ (v'.ownBlock = v.ownBlock ∨ v'.ownBlock = some w.heap.size) := by
  subst hsize
  subst hby
  have hsmall : n + m ≤ 9223372036854775807 := by simp only [maxLen] at h63; omega
  have hlen : (xs ++ news).length = (n + m) * i.size := by rw [List.length_append, h.1, hl, Nat.add_mul]
  have grown : ∀ (old : Nat), old < n + m → ∀ (row : Option Nat),
      offRow (w.drew.alloc (.cells (xs.toArray ++ news.toArray ++ Builtin.zeroCells z.cells (grownCap w (n + m) old e - (n + m))) e)) i.size
        (.slice (some ⟨w.heap.size, 0, none⟩) (n + m) (grownCap w (n + m) old e)) (n + m) (xs ++ news) ∧
      w.grownBy (w.drew.alloc (.cells (xs.toArray ++ news.toArray ++ Builtin.zeroCells z.cells (grownCap w (n + m) old e - (n + m))) e)) row := by
    intro old ho row
    have hge := grownCap_ge w (n + m) old e
    have hcm : grownCap w (n + m) old e ≤ maxLen := grownCap_le_maxLen w (n + m) old e h63
    have hcs : (xs.toArray ++ news.toArray ++ Builtin.zeroCells z.cells (grownCap w (n + m) old e - (n + m))).size = grownCap w (n + m) old e * i.size := by
      simp only [Array.size_append, List.size_toArray, size_zeroCells, hzs, h.1, hl, ← Nat.add_mul]
      congr 1
      omega
    have htl : (xs.toArray ++ news.toArray ++ Builtin.zeroCells z.cells (grownCap w (n + m) old e - (n + m))).toList = (xs ++ news) ++ (Builtin.zeroCells z.cells (grownCap w (n + m) old e - (n + m))).toList := by simp
    generalize xs.toArray ++ news.toArray ++ Builtin.zeroCells z.cells (grownCap w (n + m) old e - (n + m)) = cs at hcs htl
    have hheap : (w.drew.alloc (.cells cs e)).heap[w.heap.size]? = some (.cells cs e (0, 0)) := heap_alloc_new w.drew _
    have hcell : ∀ j, (w.drew.alloc (.cells cs e)).cell? ⟨w.heap.size, 0 + j, none⟩ = cs[j]? := fun j => by unfold World.cell?; show (match (w.drew.alloc (.cells cs e)).heap[w.heap.size]? with | some (.cells c _ _) => _ | _ => _) = _; rw [hheap]; simp
    refine ⟨⟨hlen, .inr ⟨w.heap.size, 0, _, rfl, by simp, hge, hcm, fun j u hu => ?_, fun j hj => ⟨?_, ?_⟩⟩⟩, ⟨rfl, rfl, rfl, by simp, fun k hk _ => heap_alloc_old w.drew _ hk⟩⟩
    · rw [hcell, ← Array.getElem?_toList, htl]
      obtain ⟨hj, -⟩ := List.getElem?_eq_some_iff.1 hu
      rw [List.getElem?_append_left hj]; exact hu
    · rw [hcell, Array.getElem?_eq_getElem (by omega)]; rfl
    · unfold World.frozen?; show (match (w.drew.alloc (.cells cs e)).heap[w.heap.size]? with | some (.cells _ _ (lo, hi)) => _ | _ => _) = _; rw [hheap]; simp
  rcases h.2 with ⟨rfl, rfl⟩ | ⟨g, off, cap, rfl, hlt, hnc, hcm, hc, hs⟩
  · have hx : xs = [] := List.eq_nil_of_length_eq_zero (by simpa using h.1)
    subst hx
    have hr := run_append_nil (P := P) w t ty e i z ht hi hz a m c news hl hnews (by omega) (by omega) (by have hb := hbytes; simp only [Nat.zero_add] at hb; omega)
    have hgr := grown 0 (by omega) (Value.ownBlock (.slice none 0 0))
    simp only [Nat.zero_add, List.nil_append, Array.empty_append] at hgr ⊢
    exact ⟨_, _, hr, hgr.1, hgr.2, Or.inr rfl⟩
  · by_cases hroom : n + m ≤ cap
    · have hfit : n * i.size + news.length ≤ cap * i.size := by rw [hl, ← Nat.add_mul]; exact Nat.mul_le_mul_right _ hroom
      have hsp : ∀ j, j < news.length → (w.cell? ⟨g, off + n * i.size + j, none⟩).isSome = true ∧ w.frozen? ⟨g, off + n * i.size + j, none⟩ = false := fun j hj => by rw [Nat.add_assoc]; exact hs _ (by omega)
      have hr := run_append_room_cells (P := P) (w := w) t ty e i ht hi g off n cap a m c news hl hnews h1 hroom (fun j hj => (hsp j hj).1) (fun j hj => (hsp j hj).2)
      refine ⟨_, _, hr, ⟨hlen, .inr ⟨g, off, cap, rfl, by rw [size_setC]; exact hlt, hroom, hcm, fun j u hu => ?_, fun j hj => ⟨?_, ?_⟩⟩⟩, ⟨World.os_setCells w g _ news, tape_setC g news _ w, World.output_setCells w g _ news, by rw [size_setC]; exact Nat.le_refl _, fun k hk hne => World.heap_setCells_other w g _ news hk (fun e => hne (by rw [e]; rfl))⟩, Or.inl rfl⟩
      · by_cases hj : j < xs.length
        · rw [List.getElem?_append_left hj] at hu
          rw [World.cell?_setCells_out g news _ w ⟨g, off + j, none⟩ (fun _ _ => .inl (by show off + j < off + n * i.size; have := h.1; omega))]
          exact hc j u hu
        · rw [List.getElem?_append_right (by omega)] at hu
          obtain ⟨hj2, hu2⟩ := List.getElem?_eq_some_iff.1 hu
          have := World.cell?_setCells_in g news (off + n * i.size) w (fun j hj => (hsp j hj).1) (j - xs.length) hj2
          rw [show off + n * i.size + (j - xs.length) = off + j from by have := h.1; omega] at this
          rw [this, hu2]
      · exact World.isSome_setCells g news _ w _ (hs j hj).1
      · rw [World.frozen?_setCells]; exact (hs j hj).2
    · have holds : ∀ j u, xs[j]? = some u → w.cell? ((⟨g, off, none⟩ : Addr).add j) = some u := fun j u hu => by rw [Addr.add_lit]; exact hc j u hu
      have hr := run_append_grow (P := P) (w := w) t ty e i z ht hi hz ⟨g, off, none⟩ n cap xs h.1 holds a m c news hl hnews (by omega) (by omega) (growslice_fits (by omega) hbytes)
      have hgr := grown cap (by omega) (Value.ownBlock (.slice (some ⟨g, off, none⟩) n cap))
      exact ⟨_, _, hr, hgr.1, hgr.2, Or.inr rfl⟩
end
end Go.Proofs.Ytcmiboipgngjaaa
