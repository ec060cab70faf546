/-
  The walks of some, its iterator, list, Next and Blocked. Conditions: the graph's numbers are in their bounds.
-/
import Derived.Test.YtlpdhmkcbdhelaaB
import Derived.Test.YtlpdhmkcbdhelaaR
import Derived.Stop.RegionWithIn
import Derived.Sort.CutIn
import Derived.Sort.QuietIn
namespace Go.Proofs.Ytlpdhmkcbdhelaa
set_option linter.unusedVariables false
set_option linter.unusedSimpArgs false
open Go.RowKit Go.Maps

theorem cellNew (W : World) (v : Value) (t : TypeId) : (W.alloc (.cells #[v] t)).cell? ⟨W.heap.size, 0, none⟩ = some v := (Blk.new W #[v] t).cell 0
def at_ (st : St) (id : Int) : Chg := st.l.getD id.toNat zc
/-- what a buffer has that is not done, and may be written or not, rising -/
def someS (st : St) (buf : Int) (may : Bool) : List Int := ((List.range st.l.length).map (fun i : Nat => (i : Int))).filter (fun id => (match st.bufs buf with | some s => s id | none => false) && (decide ((at_ st id).left = 0) == may))
def nextS (st : St) (buf : Int) : List Int := someS st buf true
def blockedS (st : St) (buf : Int) : List Int := someS st buf false
/-- a map, or none -/
def MapAt (W : World) (mb : Option Nat) (f : Int → Option Value) : Prop := (mb = none ∧ ∀ x, f x = none) ∨ ∃ b s, mb = some b ∧ OwnV Try.prog 3 W b f s ∧ s ≤ 8796093022208
theorem MapAt.above {W W' : World} {mb : Option Nat} {f : Int → Option Value} (h : MapAt W mb f) (hb : Below W.heap.size W W') : MapAt W' mb f := by
  rcases h with h | ⟨b, s, h1, h2, h3⟩
  · exact .inl h
  · exact .inr ⟨b, s, h1, h2.same (hb.block b h2.lt), h3⟩
theorem sortedB_m (Bm : Nat) (mb : Option Nat) (f : Int → Option Value) (W : World) (hm : W.cell? ⟨Bm, 0, none⟩ = some (.map mb)) (hown : MapAt W mb f) :
    Calls Try.prog 34 #[.func (.func 50) #[] #[.pointer (some ⟨Bm, 0, none⟩)]] W fun e w' => ∃ (v : Value) (xs : List Int), e = .returned v ∧ Rising xs ∧ (∀ x, x ∈ xs ↔ (f x).isSome = true) ∧
      w'.ownsRow W.heap.size 3 1 v xs.length (ints xs) ∧ Below W.heap.size W w' := by
  rcases hown with ⟨rfl, hf⟩ | ⟨b, s, rfl, h2, h3⟩
  · refine (sortedB_nil Bm W hm).mono ?_
    rintro e w' ⟨rfl, hb⟩
    exact ⟨.slice none 0 0, [], rfl, List.Pairwise.nil, fun x => by rw [hf]; simp, World.ownsRow_nil _ _ _ _, hb⟩
  · exact sortedB_c Bm b s f W hm h2 h3
theorem rangeI_rising (n : Nat) : Rising ((List.range n).map (fun i : Nat => (i : Int))) := by
  unfold Rising
  rw [List.pairwise_map]
  exact List.pairwise_lt_range.imp (fun h => by omega)
/-- the keys that the iterator passes on -/
theorem someS_of_keys {st : St} (h : Fit st) {buf : Int} {may : Bool} {xs : List Int} (hr : Rising xs) (hx : ∀ x, x ∈ xs ↔ (match st.bufs buf with | some s => s x | none => false) = true) :
    xs.filter (fun id => decide ((at_ st id).left = 0) == may) = someS st buf may := by
  unfold someS
  refine rising_ext (hr.filter _) ((rangeI_rising _).filter _) fun x => ?_
  rw [List.mem_filter, List.mem_filter, hx, Bool.and_eq_true]
  constructor
  · rintro ⟨h1, h2⟩
    refine ⟨?_, h1, h2⟩
    cases hb : st.bufs buf with
    | none => rw [hb] at h1; cases h1
    | some s => rw [hb] at h1; exact mem_rangeI (h.set buf s hb x h1)
  · rintro ⟨_, h1, h2⟩
    exact ⟨h1, h2⟩
section
variable {n : Nat} {w W : World} {F ps : List Atom} {st : St} {g : Nat}
theorem zero62 (W : World) : (zeroValue 62).run Try.prog W = .ok (.map none) W := by kernel_rfl
theorem zero3 (W : World) : (zeroValue 3).run Try.prog W = .ok (.int .i64 0) W := by kernel_rfl
theorem zero4 (W : World) : (zeroValue 4).run Try.prog W = .ok (.bool false) W := by kernel_rfl
/-- the sets by their buffers -/
theorem bufs_look (hg : IsG g st ps) (hf : Fit st) (ho : ∀ a ∈ ps, a.Q W) (buf : Int) (hw : (Lit.int .i64 buf).wf = true) : ∃ vl bb nb mb, Blk W g #[vl, .map (some bb), .int .i64 st.opn, .map (some nb)] 58 ∧
    (∀ q, (Instr.lookup 54 (.map (some bb)) (.int .i64 buf) false).run Try.prog (W.drewN q) = .ok (.map mb) (W.drewN q)) ∧ MapAt W mb (setF (match st.bufs buf with | some s => s | none => fun _ => false)) := by
  obtain ⟨vl, l, bb, nb, bs, rfl, h1, h2, h3⟩ := hg
  obtain ⟨sb, hbm⟩ : ∃ s, OwnV Try.prog 3 W bb (locF bs) s := ho (mpA bb (locF bs)) (by simp [gParts])
  refine ⟨vl, bb, nb, (bsAt bs buf).map Bs.loc, ho (blkA g #[vl, .map (some bb), .int .i64 st.opn, .map (some nb)] 58) (by simp [gParts]), fun q => ?_, ?_⟩
  · have := (show OwnV Try.prog 3 (W.drewN q) bb (locF bs) sb from hbm).look0 Try.underlying3 Try.underlying54 (zero62 _) buf hw
    rw [this]
    unfold locF
    cases bsAt bs buf <;> rfl
  · rw [h2]
    cases hq : bsAt bs buf with
    | none => exact .inl ⟨rfl, fun x => rfl⟩
    | some b =>
      obtain ⟨hm, hk⟩ := bsAt_mem hq
      obtain ⟨z, hz⟩ : ∃ s, OwnV Try.prog 3 W b.loc (setF b.set) s := ho b.a (by
        unfold gParts
        repeat (first | exact List.mem_append_right _ (List.mem_append_right _ (List.mem_map.2 ⟨b, hm, rfl⟩)) | apply List.mem_cons_of_mem))
      refine .inr ⟨b.loc, z, rfl, hz, ?_⟩
      have := hf.setSize (b := buf) (s := b.set) (by rw [h2, hq]; rfl) hz
      have := hf.len
      omega
theorem row_form {W : World} {base : Nat} {e : TypeId} {sz : Nat} {A : Option Addr} {k c : Nat} {xs : List Value} (h : W.ownsRow base e sz (.slice A k c) k xs) (hk : 0 < k) : ∃ gb, A = some ⟨gb, 0, none⟩ := by
  rcases h.2 with ⟨h1, h2⟩ | ⟨gb, cap, cur, h1, _⟩
  · omega
  · injection h1 with h1 _ _; exact ⟨gb, h1⟩
theorem ints_at {l : List Int} {k : Nat} (h : k < l.length) : (ints l)[k]? = some (.int .i64 l[k]) := by unfold ints; simp [h]
theorem Ready.ext {L : Nat} {rec : LoopState → Option Code → Loop} {V W' : World} (h : Ready L rec V) (hb : Below V.heap.size V W') : Ready L rec W' :=
  ⟨(hb.block _ h.lt).trans h.1, (hb.block _ (by have := h.lt; omega)).trans h.2⟩
/-- a change's cells -/
theorem IsG.cellAt {W : World} {ps : List Atom} {st : St} {g : Nat} (hg : IsG g st ps) (ho : ∀ a ∈ ps, a.Q W) {k : Nat} (hk : k < st.l.length) : ∃ gl vl c bb nb von vto, vl = .slice (some ⟨gl, 0, none⟩) st.l.length c ∧ W.cell? ⟨g, 0, none⟩ = some vl ∧
    W.cell? ⟨gl, k * 5, none⟩ = some (.int .i64 st.l[k].buf) ∧ W.cell? ⟨gl, k * 5 + 1, none⟩ = some von ∧ W.cell? ⟨gl, k * 5 + 2, none⟩ = some (.int .i64 st.l[k].left) ∧ W.cell? ⟨gl, k * 5 + 3, none⟩ = some vto ∧ W.cell? ⟨gl, k * 5 + 4, none⟩ = some (.bool st.l[k].done) ∧
    W.cell? ⟨g, 1, none⟩ = some (.map (some bb)) ∧ W.cell? ⟨g, 3, none⟩ = some (.map (some nb)) ∧ W.ownsRow 0 3 1 von st.l[k].on.length (ints st.l[k].on) ∧ W.ownsRow 0 3 1 vto st.l[k].to.length (ints st.l[k].to) := by
  obtain ⟨vl, l, bb, nb, bs, rfl, h1, h2, h3⟩ := hg
  have hl : l.length = st.l.length := by rw [← h1, List.length_map]
  have hr : W.ownsRow 0 60 5 vl l.length (cellsL l) := ho (rowA 60 5 vl l.length (cellsL l)) (by simp [gParts])
  have hb : Blk W g #[vl, .map (some bb), .int .i64 st.opn, .map (some nb)] 58 := ho (blkA g #[vl, .map (some bb), .int .i64 st.opn, .map (some nb)] 58) (by simp [gParts])
  obtain ⟨A, c, rfl⟩ := own_slice hr
  obtain ⟨gl, rfl⟩ := row_form hr (by omega)
  have hk' : k < l.length := by omega
  have e : st.l[k] = (l[k]).c := by simp [← h1]
  have hm : l[k] ∈ l := List.getElem_mem hk'
  have hc : ∀ i, i < 5 → W.cell? ⟨gl, k * 5 + i, none⟩ = (l[k].cells)[i]? := fun i hi => by rw [hr.cellAt (k * 5 + i) (by omega), cellsL_at hk' hi]
  refine ⟨gl, .slice (some ⟨gl, 0, none⟩) l.length c, c, bb, nb, (l[k]).von, (l[k]).vto, by rw [hl], hb.cell 0, ?_, ?_, ?_, ?_, ?_, hb.cell 1, hb.cell 3, ?_, ?_⟩
  · rw [e]; exact hc 0 (by omega)
  · exact hc 1 (by omega)
  · rw [e]; exact hc 2 (by omega)
  · exact hc 3 (by omega)
  · rw [e]; exact hc 4 (by omega)
  · rw [e]; exact ho (onA l[k]) (by unfold gParts; simp only [List.mem_cons, List.mem_append, List.mem_map]; exact .inr (.inr (.inr (.inr (.inl ⟨_, hm, rfl⟩)))))
  · rw [e]; exact ho (toA l[k]) (by unfold gParts; simp only [List.mem_cons, List.mem_append, List.mem_map]; exact .inr (.inr (.inr (.inr (.inr (.inl ⟨_, hm, rfl⟩))))))
theorem setF_isSome (s : Int → Bool) (x : Int) : (setF s x).isSome = s x := by unfold setF; cases s x <;> rfl
end
abbrev Sg := List Int × Int × List Atom
section
variable {n L b1 b2 b3 bo g : Nat} {w : World} {K F ps : List Atom} {st : St} {rec : LoopState → Option Code → Loop}
/-- what lies in memory between two rounds -/
def InP (n : Nat) (w : World) (L bo : Nat) (K : List Atom) (out : List Int) (E : List Atom) (W : World) : Prop := ∃ v, Own n w W (resA (L + 1) :: resA L :: blkA bo #[v] 25 :: rowA 3 1 v out.length (ints out) :: (K ++ E))
theorem InP.putObj {out : List Int} {E : List Atom} {W : World} (o' : Obj) (h : InP n w L bo K out E W) : InP n w L bo K out E (W.putObj (L + 1) o') := by
  obtain ⟨v, h⟩ := h
  exact ⟨v, h.putObj o'⟩
def kParts (b1 b2 b3 g : Nat) (buf : Int) (may : Bool) (ps F : List Atom) : List Atom := blkA b1 #[.pointer (some ⟨g, 0, none⟩)] 23 :: blkA b2 #[.int .i64 buf] 3 :: blkA b3 #[.bool may] 4 :: (ps ++ F)
set_option maxHeartbeats 4000000 in
set_option maxRecDepth 100000 in
theorem some1_c (hg : IsG g st ps) (hf : Fit st) (buf : Int) (may : Bool) (hw : (Lit.int .i64 buf).wf = true)
    (hY : ∀ (s : Sg) W, InP n w L bo (kParts b1 b2 b3 g buf may ps F) s.1 s.2.2 W ∧ s.1.length < 1099511627776 → Ready L rec W → YieldAt Fence.wide 0 Try.prog (L + 1) #[.int .i64 s.2.1] W fun e W' =>
        (e = .returned (.bool true) ∧ InP n w L bo (kParts b1 b2 b3 g buf may ps F) (s.1 ++ [s.2.1]) s.2.2 W' ∧ Ready L rec W') ∨ (e = .returned (.bool false) ∧ ∃ c, False ∧ Stopped L rec c W'))
    (W : World) (hin : InP n w L bo (kParts b1 b2 b3 g buf may ps F) [] [] W) (hrdy : Ready L rec W) :
    CallsIn Fence.wide 0 Try.prog 45 #[.func (.yield (L + 1)) #[] #[], .pointer (some ⟨b1, 0, none⟩), .pointer (some ⟨b2, 0, none⟩), .pointer (some ⟨b3, 0, none⟩)] W fun e W' => (∃ v, e = .returned v) ∧
      (∃ E, InP n w L bo (kParts b1 b2 b3 g buf may ps F) (someS st buf may) E W') ∧ Ready L rec W' := by
  have HY := hide hY
  have HIN := hide hin
  have HRDY := hide hrdy
  have HF := hide hf
  have HG := hide hg
  obtain ⟨v0, ho⟩ := hin
  have c1 := (ho.hold (blkA b1 #[.pointer (some ⟨g, 0, none⟩)] 23) (by simp [kParts])).cell 0
  have c2 := (ho.hold (blkA b2 #[.int .i64 buf] 3) (by simp [kParts])).cell 0
  have c3 := (ho.hold (blkA b3 #[.bool may] 4) (by simp [kParts])).cell 0
  have HO := hide ho
  obtain ⟨vl, bb, nb, mb, hb, hlk, hmap⟩ := bufs_look hg hf (W := W) (fun a ha => ho.hold a (by simp [kParts, ha])) buf hw
  have z1 := hb.cell 1
  have hlk1 : (Instr.lookup 54 (.map (some bb)) (.int .i64 buf) false).run Try.prog W.drew = .ok (.map mb) W.drew := hlk 1
  have HLK := hide hlk
  have HMAP := hide hmap
  clear hY hrdy hf hg hb hlk hmap ho c3
  refine callsIn_of_wp Try.func45 rfl trivial ?_ rfl
  simp only [Try.ntmps45, List.size_toArray, List.length_cons, List.length_nil, Nat.reduceAdd, Nat.reduceSub, Array.replicate_succ, Array.replicate_zero, List.push_toArray, List.append_toArray, List.nil_append, List.cons_append]
  gi_wp2
  gi_cut [14, 15, 16] from 7 (fun v14 v15 v16 wx => ∃ (A : Option Addr) (c : Nat) (xs : List Int), v14 = .slice A xs.length c ∧ v15 = .int .i64 xs.length ∧ v16 = .int .i64 0 ∧ Hid (Rising xs ∧ (∀ x, x ∈ xs ↔ (match st.bufs buf with | some s => s x | none => false) = true) ∧ InP n w L bo (kParts b1 b2 b3 g buf may ps F) [] [rowA 3 1 (.slice A xs.length c) xs.length (ints xs)] wx ∧ Ready L rec wx))
  case first =>
    gi_region_with ((with_reducible refine wide_calls ?_); first | (go_at_call 39; refine (keys39_c _ _).mono ?_; rintro e w' ⟨rfl, rfl⟩) | (go_at_call 34; refine (sortedB_m _ mb _ _ (cellNew _ _ _) (HMAP.out.above ((Below.refl _ _).drew.alloc (Nat.le_refl _) _))).mono ?_; rintro e w5 ⟨v, xs, rfl, hr, hx, hrow, hb5⟩; obtain ⟨A, c, rfl⟩ := own_slice hrow))
    all_goals (gi_wp2; gi_meet; exact ⟨A, c, xs, rfl, rfl, rfl, hide ⟨hr, fun x => (hx x).trans (by rw [setF_isSome]; cases st.bufs buf <;> exact Iff.rfl), ⟨v0, Own.back (l := resA (L + 1) :: resA L :: blkA bo #[v0] 25 :: rowA 3 1 v0 [].length (ints []) :: kParts b1 b2 b3 g buf may ps F) ((HO.out.drew.alloc _).moreRow hb5 hrow)⟩,
      HRDY.out.ext (((Below.refl _ W).drew.alloc (Nat.le_refl _) _).trans (hb5.mono (by simp)))⟩⟩)
  case rest =>
    obtain ⟨A, c, xs, rfl, rfl, rfl, HX⟩ := hcut
    have hxl : xs.length < 1099511627776 := by
      have h1 := nodup_le (m := (List.range st.l.length).map (fun i : Nat => (i : Int))) (l := xs) (HX.out.1.imp (fun h => by omega)) (fun x hx => by
        have := (HX.out.2.1 x).1 hx
        cases hb : st.bufs buf with
        | none => rw [hb] at this; cases this
        | some s => rw [hb] at this; exact mem_rangeI (HF.out.set buf s hb x this))
      have := HF.out.len
      simp at h1
      omega
    have HIDS := hide (fun x (hx : x ∈ xs) => show 0 ≤ x ∧ x < st.l.length by
      have := (HX.out.2.1 x).1 hx
      cases hb : st.bufs buf with
      | none => rw [hb] at this; cases this
      | some s => rw [hb] at this; exact HF.out.set buf s hb x this)
    clear hlk1 HLK HMAP c1 c2 z1 HO HIN HRDY
    gi_wp2
    gi_loopw [16] (fun i wr => ∃ k : Nat, k ≤ xs.length ∧ i = .int .i64 k ∧ Hid (InP n w L bo (kParts b1 b2 b3 g buf may ps F) ((xs.take k).filter (fun id => decide ((at_ st id).left = 0) == may)) [rowA 3 1 (.slice A xs.length c) xs.length (ints xs)] wr ∧ Ready L rec wr)) (fun i _ => xs.length - (intOf i).toNat)
    case atStart => exact ⟨0, by omega, rfl, hide ⟨HX.out.2.2.1, HX.out.2.2.2⟩⟩
    case round =>
      obtain ⟨k, hk, rfl, HK⟩ := hrel
      by_cases hlt : k < xs.length
      · obtain ⟨⟨v, ho⟩, hrdy⟩ := HK.out
        have hrow : wr.ownsRow 0 3 1 (.slice A xs.length c) xs.length (ints xs) := ho.hold (rowA 3 1 (.slice A xs.length c) xs.length (ints xs)) (by simp)
        obtain ⟨gk, rfl⟩ := row_form hrow (by omega)
        have y0 := hrow.cellAt k (by omega)
        rw [ints_at hlt] at y0
        have hid := HIDS.out _ (List.getElem_mem hlt)
        have c1 : wr.cell? ⟨b1, 0, none⟩ = some (.pointer (some ⟨g, 0, none⟩)) := (ho.hold (blkA b1 #[.pointer (some ⟨g, 0, none⟩)] 23) (by simp [kParts])).cell 0
        have c3 : wr.cell? ⟨b3, 0, none⟩ = some (.bool may) := (ho.hold (blkA b3 #[.bool may] 4) (by simp [kParts])).cell 0
        have HNX := hide (show (xs.take (k + 1)).filter (fun id => decide ((at_ st id).left = 0) == may) = (xs.take k).filter (fun id => decide ((at_ st id).left = 0) == may) ++ (if (decide ((at_ st xs[k]).left = 0) == may) = true then [xs[k]] else []) by
          rw [List.take_succ_eq_append_getElem hlt, List.filter_append]
          congr 1
          rw [List.filter_cons]
          split <;> rfl)
        have HLN := hide (show ((xs.take k).filter (fun id => decide ((at_ st id).left = 0) == may)).length < 1099511627776 by
          have h1 := List.length_filter_le (fun id => decide ((at_ st id).left = 0) == may) (xs.take k)
          have h2 := List.length_take_le k xs
          omega)
        generalize xs[k] = id at y0 hid HNX
        obtain ⟨i, rfl⟩ := Int.eq_ofNat_of_zero_le hid.1
        have hil : i < st.l.length := by omega
        obtain ⟨gl, vl, cl, bb, nb, von, vto, rfl, x0, -, -, x3, -⟩ := HG.out.cellAt (W := wr) (fun a ha => ho.hold a (by simp [kParts, ha])) hil
        have hat : (at_ st (i : Int)).left = st.l[i].left := by unfold at_; simp [hil]
        have HNY := hide (fun h : (decide (st.l[i].left = 0) == may) = true => show (xs.take (k + 1)).filter (fun id => decide ((at_ st id).left = 0) == may) = (xs.take k).filter (fun id => decide ((at_ st id).left = 0) == may) ++ [(i : Int)] by rw [HNX.out, hat, if_pos h])
        have HNN := hide (fun h : (decide (st.l[i].left = 0) == may) = false => show (xs.take (k + 1)).filter (fun id => decide ((at_ st id).left = 0) == may) = (xs.take k).filter (fun id => decide ((at_ st id).left = 0) == may) by rw [HNX.out, hat, if_neg (by rw [h]; simp), List.append_nil])
        clear HNX
        have o1 : (0 : Int) ≤ (k : Int) := by omega
        have o2 : (k : Int) < (xs.length : Int) := by omega
        have o3 : (0 : Int) ≤ (i : Int) := by omega
        have o4 : (i : Int) < (st.l.length : Int) := by omega
        have HO := hide ho
        have HR := hide hrdy
        generalize st.l[i].left = lf at x3 HNY HNN
        have HYV := hide (HY.out ((xs.take k).filter (fun id => decide ((at_ st id).left = 0) == may), (i : Int), [rowA 3 1 (.slice (some ⟨gk, 0, none⟩) xs.length c) xs.length (ints xs)]) wr.drew ⟨⟨v, ho.drew⟩, HLN.out⟩ (hrdy.keeps (Keeps2.drewN L wr 1)))
        clear hrow ho hrdy hat hid
        cases may
        · by_cases hz : lf = 0
          · have e1 : (lf == 0) = true := by rw [hz]; rfl
            have HN := hide (HNN.out (by simp [hz]))
            clear hz HNN HNY
            gi_wp2
            refine wpIn_region_quiet_lit rfl (by kernel_rfl) (by kernel_rfl) ?_
            iterate 14 (quiet_step_in (fail))
            refine wpQuietIn_step (fun _ _ _ _ => trivial) (fun K hK => ?_)
            go_simp
            (refine hK _ ?_; clear hK K)
            iterate 2 (quiet_step_in (fail))
            refine wpQuietIn_nil ?_
            intro _ hw'
            obtain ⟨nq, hw''⟩ := hw'
            subst hw''
            gi_wp2
            go_roundw
            case rel => exact ⟨k + 1, by omega, by go_num, hide ⟨by rw [HN.out]; exact ⟨v, HO.out.drewN _⟩, HR.out.keeps (Keeps2.drewN L wr _)⟩⟩
            case measure => simp [intOf]; omega
          · have e1 : (lf == 0) = false := by rw [beq_eq_false_iff_ne]; exact hz
            have HN := hide (HNY.out (by simp [hz]))
            obtain ⟨fn, tmps, assign, body, hy, hR⟩ := HYV.out
            dsimp only at hy
            have HRR := hide hR
            clear hz hR HNN HNY
            gi_wp2
            gi_region_with (refine ⟨rfl, ?_⟩; refine HRR.out.mono ?_; rintro e W3 (⟨rfl, hi3, hr3⟩ | ⟨_, _, ⟨⟩, _⟩))
            all_goals
              have HI3 := hide (And.intro hi3 hr3)
              clear hi3 hr3
              gi_wp2
              go_roundw
              case rel => exact ⟨k + 1, by omega, by go_num, hide ⟨by rw [HN.out]; exact HI3.out.1, HI3.out.2⟩⟩
              case measure => simp [intOf]; omega
        · by_cases hz : lf = 0
          · have e1 : (lf == 0) = true := by rw [hz]; rfl
            have HN := hide (HNY.out (by simp [hz]))
            obtain ⟨fn, tmps, assign, body, hy, hR⟩ := HYV.out
            dsimp only at hy
            have HRR := hide hR
            clear hz hR HNN HNY
            gi_wp2
            gi_region_with (refine ⟨rfl, ?_⟩; refine HRR.out.mono ?_; rintro e W3 (⟨rfl, hi3, hr3⟩ | ⟨_, _, ⟨⟩, _⟩))
            all_goals
              have HI3 := hide (And.intro hi3 hr3)
              clear hi3 hr3
              gi_wp2
              go_roundw
              case rel => exact ⟨k + 1, by omega, by go_num, hide ⟨by rw [HN.out]; exact HI3.out.1, HI3.out.2⟩⟩
              case measure => simp [intOf]; omega
          · have e1 : (lf == 0) = false := by rw [beq_eq_false_iff_ne]; exact hz
            have HN := hide (HNN.out (by simp [hz]))
            clear hz HNN HNY
            gi_wp2
            refine wpIn_region_quiet_lit rfl (by kernel_rfl) (by kernel_rfl) ?_
            iterate 14 (quiet_step_in (fail))
            refine wpQuietIn_step (fun _ _ _ _ => trivial) (fun K hK => ?_)
            go_simp
            (refine hK _ ?_; clear hK K)
            iterate 2 (quiet_step_in (fail))
            refine wpQuietIn_nil ?_
            intro _ hw'
            obtain ⟨nq, hw''⟩ := hw'
            subst hw''
            gi_wp2
            go_roundw
            case rel => exact ⟨k + 1, by omega, by go_num, hide ⟨by rw [HN.out]; exact ⟨v, HO.out.drewN _⟩, HR.out.keeps (Keeps2.drewN L wr _)⟩⟩
            case measure => simp [intOf]; omega
      · have HT := hide (show (xs.take k).filter (fun id => decide ((at_ st id).left = 0) == may) = someS st buf may by
          rw [List.take_of_length_le (by omega)]
          exact someS_of_keys HF.out HX.out.1 HX.out.2.1)
        have hge : (xs.length : Int) ≤ (k : Int) := by omega
        gi_wp2
        go_end0
        exact ⟨⟨_, rfl⟩, ⟨_, by rw [← HT.out]; exact HK.out.1⟩, HK.out.2⟩
end
end Go.Proofs.Ytlpdhmkcbdhelaa
