/-
  The walk of (*walker).down, inside a range over a function. Condition: what the yield function does, by HY.
  The walks of walk.paths and of the iterator that it makes.
  The contract of walk.Paths. Conditions: the nodes are as they came in.
  The document's own way down: what it comes to, and that it comes to what walk.Paths tells. The contract of (*paths).down.
  The contract of the document's own (*paths).down. Conditions: the nodes are as they came in; the node was not seen.
  The contract of the document's own Paths: it tells what walk.Paths tells. Conditions: the nodes are as they came in.
  The contract of the laws' example.
  The walk of the law WalkFinds.
-/
import Derived.Test.YtnmlmbbacicojaaMWalkFinds1
import Derived.Sort.QuietIn
import Derived.Stop.RegionWithIn
import Derived.Sort.CutIn
import Derived.Laws.MakeOwn
import Derived.Test.YtnmlmbbacicojaaPWalkSamex2
namespace Go.Proofs.Ytnmlmbbacicojaa
set_option linter.unusedVariables false
set_option linter.unusedSimpArgs false
open Go.RowKit Go.Maps Go.Proofs.YtnmlmbbacicojaaW.PrintWords Go.Proofs.YtnmlmbbacicojaaW.PrintLast Go.Proofs.YtnmlmbbacicojaaW.PrintMore Go.Proofs.Ytnmlmbbacicojaa.PWalkSame

abbrev Sg := List ByteArray × ByteArray × World
/-- F: what the whole walk comes to; a walk that is stopped has come to it -/
def InP (n : Nat) (w : World) (F : List ByteArray) (s : Sg) (W : World) : Prop := ConsP n w s.1 W ∧ s.1.length ≤ 10000 ∧ KeepP n s.2.2 W ∧ s.2.1.size ≤ 500 ∧ (s.1.length = 10000 → s.1 = F)
def JnP (n : Nat) (w : World) (s : Sg) (W : World) : Prop := ConsP n w (s.1 ++ [s.2.1]) W ∧ s.1.length ≠ 10000 ∧ s.1.length ≤ 10000 ∧ KeepP n s.2.2 W
def JxP (n : Nat) (w : World) (F : List ByteArray) (s : Sg) (c : Code) (W : World) : Prop := s.1.length = 10000 ∧ s.1 = F ∧ ConsP n w s.1 W
def DownPost (n L : Nat) (rec : LoopState → Option Code → Loop) (w : World) (F : List ByteArray) (it : (Int → Bool) → World → Prop) (C : Code → Prop) (r : Bool × St) (e : Ending) (W' : World) : Prop :=
  (e = .returned (.bool true) ∧ r.1 = true ∧ ConsP n w r.2.1 W' ∧ r.2.1.length ≤ 10000 ∧ Ready L rec W' ∧ it r.2.2 W') ∨ (e = .returned (.bool false) ∧ r.1 = false ∧ ∃ s c, C c ∧ JxP n w F s c W' ∧ Stopped L rec c W')
def YieldP (n L : Nat) (rec : LoopState → Option Code → Loop) (w : World) (F : List ByteArray) (C : Code → Prop) : Prop :=
  ∀ s W, InP n w F s W → Ready L rec W → YieldAt Fence.wide 0 Try.prog (L + 1) #[.string s.2.1] W fun e W' =>
    (e = .returned (.bool true) ∧ JnP n w s W' ∧ Ready L rec W') ∨ (e = .returned (.bool false) ∧ ∃ c, C c ∧ JxP n w F s c W' ∧ Stopped L rec c W')

theorem wide_in {P : Program} {n : Nat} {f : FuncId} {args : Array Value} {w : World} {R : Ending → World → Prop} (h : CallsIn Fence.wide n P f args w R) : Fence.wide.fn f ∧ Fence.wide.depth = none ∧ CallsIn Fence.wide n P f args w R := ⟨trivial, rfl, h⟩
theorem int_ne' {a b : Int} (h : ¬ a = b) : (a == b) = false ∧ (a != b) = true := by simp [h]
set_option maxHeartbeats 4000000 in
set_option maxRecDepth 100000 in
theorem down_c {n L : Nat} {rec : LoopState → Option Code → Loop} {w : World} {F : List ByteArray} {C : Code → Prop} (hY : YieldP n L rec w F C) (l : List S30) (A : Option Addr) (N c bw ba bi : Nat) (hN : l.length = N) (hNc : N ≤ c) (hok : NodesOk l) (hC : Kd.C k30 w A N l) (hn : n = w.heap.size) (hL : n ≤ L) :
    ∀ (f k : Nat) (ahead : ByteArray) (st : St) (W : World), k < l.length → ahead.size ≤ 500 → left l st.2 < f → ConsP n w st.1 W → st.1.length ≤ 10000 → Ready L rec W → ItP l A N c n bw ba bi st.2 W → ((dn l f k ahead st).1 = false → (dn l f k ahead st).2.1 = F) →
      CallsIn Fence.wide 0 Try.prog 44 #[.pointer (some ⟨bw, 0, none⟩), .int .i64 k, .string ahead, .func (.yield (L + 1)) #[] #[]] W (DownPost n L rec w F (ItP l A N c n bw ba bi) C (dn l f k ahead st)) := by
  have hr47 := reach47
  have hll : l.length ≤ 140737488355328 := by have := hok.2; omega
  subst hN
  have HNN := hide hn
  clear hn
  intro f
  induction f with
  | zero => intro k ahead st W _ _ h; exact absurd h (by omega)
  | succ f ih =>
    intro k ahead st W hk ha hf hcons hlen hrdy hit hF
    have HFF := hide hF
    clear hF
    have IH := hide ih
    have HY := hide hY
    have HC := hide hC
    have HOK := hide hok
    clear ih hY hC hok
    obtain ⟨cw0, cw1, cw2⟩ := hit.cells
    obtain ⟨m, hlm, hib⟩ := hit.2.2.1
    have hlk := hib.look Try.underlying3 Try.underlying4 Try.underlying82 (zero4 _) (k : Int) (wfk (by omega))
    have HIT := hide hit
    have HCONS := hide hcons
    have HRDY := hide hrdy
    have HIB := hide hib
    clear hit hcons hrdy hib
    have hx := HOK.out.1 _ (List.getElem_mem hk)
    obtain ⟨ad, A4, c4, A5, c5, e5, x0, x1, x2, x3, x4, x5, l4, g4, l5, g5⟩ := at_T30 HC.out (k : Int) (by omega) (by omega)
    rw [rd30 hk] at x0 x1 x2 x3 x4 x5 l4 g4 l5 g5
    rw [Int.toNat_natCast] at x0 x1 x2 x3 x4 x5
    subst e5
    have hbel := HCONS.out.2
    rw [HNN.out] at hbel
    replace x1 := (hbel.cell (World.block_lt_of_cell? w _ x1)).trans x1
    have X5 := hide x5
    clear x5
    clear x0 x2 x3 x4 l4 g4
    have hgd : l.getD k z30 = l[k] := by simp [hk]
    have o1 : (0 : Int) ≤ (k : Int) := by omega
    have o2 : (k : Int) < (l.length : Int) := by omega
    have HBEL := hide hbel
    clear hbel
    by_cases hvis : st.2 (k : Int) = true
    · have HR := hide (show dn l (f + 1) k ahead st = (true, st) by unfold dn; rw [if_pos (.inl hvis)])
      rw [hvis] at hlk
      clear hvis hgd
      refine callsIn_of_wp Try.func44 rfl trivial ?_ rfl
      simp only [Try.ntmps44, List.size_toArray, List.length_cons, List.length_nil, Nat.reduceAdd, Nat.reduceSub, Array.replicate_succ, Array.replicate_zero, List.push_toArray, List.append_toArray, List.nil_append, List.cons_append]
      gi_wp2
      go_ret
      rw [HR.out]
      exact .inl ⟨by first | rfl | simp, rfl, HCONS.out, hlen, HRDY.out, HIT.out⟩
    · have hvis' : st.2 (k : Int) = false := by simpa using hvis
      rw [hvis'] at hlk
      by_cases hkind : (l[k]).f1 = 2
      · have HR := hide (show dn l (f + 1) k ahead st = slotsF (dn l f) l ahead (l[k]).f5 (into st k) by
          conv => lhs; unfold dn
          rw [if_neg (by rw [hgd]; simp [hvis', hkind]), hgd])
        have hlf : left l (into st k).2 < f := by have := left_into hk hvis'; omega
        have HLF := hide hlf
        rw [hkind] at x1
        have hn5 := hx.2.2.2.2.2
        have hE5 := fun e (he : e ∈ (l[k]).f5) => hn5.1 e he
        have hl5 : (l[k]).f5.length ≤ 140737488355328 := by have := hn5.2; omega
        generalize (l[k]).f5 = es at X5 l5 g5 HR hE5 hl5
        have HE5 := hide hE5
        have G5 := hide g5
        have HM := hide hlm
        have HLI := hide (left_into hk hvis')
        clear hvis hvis' hkind hgd hx hE5 hn5 g5 hlf hlm
        obtain ⟨D, hD1, hD2⟩ := HIB.out
        refine callsIn_of_wp Try.func44 rfl trivial ?_ rfl
        simp only [Try.ntmps44, List.size_toArray, List.length_cons, List.length_nil, Nat.reduceAdd, Nat.reduceSub, Array.replicate_succ, Array.replicate_zero, List.push_toArray, List.append_toArray, List.nil_append, List.cons_append]
        gi_wp2_with (gi_at_mapUpdate; refine wpListIn_mapUpdate_own _ rfl _ _ _ 82 rfl 3 4 (Maps.int_keyed Try.underlying3) Try.underlying82 _ bi _ _ rfl hD1 (by have := HM.out; unfold maxLen; omega) _ _ _ rfl rfl (Maps.keyOf_int_mk Try.underlying3 (wfk (by omega))) _ [] (plainElem_bool Try.underlying4 true) ?_; intro w1 hown1 hg1; have hbw : w1.heap[bw]? = some (.cells #[.slice (some ad) l.length c, .map (some ba), .map (some bi)] 84 (0, 0)) := (hg1.block bw (Array.getElem?_eq_some_iff.1 HIT.out.1).1 (by rintro ⟨⟩; obtain ⟨es', ck, e⟩ := HIB.out.obj; have := HIT.out.1; rw [e] at this; cases this)).trans HIT.out.1; have y0 := blk_cell hbw 0; have y1 := blk_cell hbw 1; have hbel1 := HBEL.out.grown hg1 HBEL.out.size (fun q hq => by cases hq; have := HIT.out.2.2.2; have := HNN.out; omega); have y5 := (hbel1.cell (World.block_lt_of_cell? w _ X5.out)).trans X5.out)
        have hit1 : ItP l (some ad) l.length c n bw ba bi (into st k).2 w1 := by
          obtain ⟨h1, ⟨m1, h2⟩, h3, h4, h5, h6, h7⟩ := HIT.out
          exact ⟨hbw, ⟨m1, h2.kept hg1 (by intro e; cases e; exact h7 rfl)⟩, ⟨m + 1, by have := HM.out; have := HLI.out; omega, ⟨_, hown1, hD2.put _ _⟩⟩, h4, h5, h6, h7⟩
        have hcons1 := HCONS.out.turned hg1 (fun c t e => by obtain ⟨es', ck, e'⟩ := HIB.out.obj; rw [e'] at e; cases e) (by have := HIT.out.2.2.2; omega)
        have hrdy1 := HRDY.out.keeps (Keeps2.grown hg1 (by intro e; cases e; obtain ⟨es', ck, e'⟩ := HIB.out.obj; have := HRDY.out.2; rw [e'] at this; cases this) (by intro e; cases e; obtain ⟨es', ck, e'⟩ := HIB.out.obj; have := HRDY.out.1; rw [e'] at this; cases this))
        have H1 := hide (And.intro hit1 (And.intro hcons1 hrdy1))
        have HR2 := hide (rfl : slotsF (dn l f) l ahead es (into st k) = slotsF (dn l f) l ahead es (into st k))
        clear hit1 hcons1 hrdy1 hown1 hD1 hD2 hg1 hbw y0 y1 y5 hbel1 cw0 cw1 cw2 hlk x1
        gi_loopw [45] (fun i wr => ∃ (j : Nat) (sj : St), j ≤ es.length ∧ i = .int .i64 j ∧ Hid (slotsF (dn l f) l ahead (es.drop j) sj = slotsF (dn l f) l ahead es (into st k)) ∧ Hid (left l sj.2 < f) ∧ Hid (ConsP n w sj.1 wr ∧ Ready L rec wr ∧ ItP l (some ad) l.length c n bw ba bi sj.2 wr) ∧ sj.1.length ≤ 10000) (fun i _ => es.length - (intOf i).toNat)
        case atStart => exact ⟨0, into st k, by omega, rfl, hide (by rw [List.drop_zero]), HLF, hide ⟨H1.out.2.1, H1.out.2.2, H1.out.1⟩, hlen⟩
        case round =>
          obtain ⟨j, sj, hj, rfl, HT, HLJ, HD, hsl⟩ := hrel
          by_cases hlt : j < es.length
          · have he := HE5.out _ (List.getElem_mem hlt)
            obtain ⟨ae, e6, u0, u1⟩ := at_T32 G5.out (j : Int) (by omega) (by omega)
            rw [rd32 hlt] at u0 u1
            rw [Int.toNat_natCast] at u0 u1
            subst e6
            have hbr := HD.out.1.2
            rw [HNN.out] at hbr
            replace u0 := (hbr.cell (World.block_lt_of_cell? w _ u0)).trans u0
            replace u1 := (hbr.cell (World.block_lt_of_cell? w _ u1)).trans u1
            have q1 : (0 : Int) ≤ (j : Int) := by omega
            have q2 : (j : Int) < (es.length : Int) := by omega
            have q3 : ((⟨#[47]⟩ : ByteArray).size : Int) = 1 := rfl
            have q4 : ((es[j].f1).size : Int) ≤ 140737488355328 := by have := he.2; omega
            have q5 : (ahead.size : Int) ≤ 500 := by omega
            have q6 : ((ahead ++ (⟨#[47]⟩ : ByteArray)).size : Int) ≤ 501 := by rw [ByteArray.size_append]; omega
            have hwf := he.1
            have HNS := hide (show (nextS ahead es[j].f1).size = ahead.size + 1 + (es[j].f1).size by unfold nextS; rw [ByteArray.size_append, ByteArray.size_append]; rfl)
            clear hbr he
            by_cases hz : es[j].f0 = 0
            · have HS := hide (slotsF_skip (rec := dn l f) (l := l) (a := ahead) (st := sj) hlt (.inl hz))
              rw [hz] at u0
              generalize es[j].f1 = nm at u1 q4
              clear hz
              gi_wp2
              go_roundw
              case rel => exact ⟨j + 1, sj, by omega, by go_num, hide (HS.out.symm.trans HT.out), HLJ, hide ⟨HD.out.1.alloc _, HD.out.2.1.keeps (Keeps2.alloc _ _ _), HD.out.2.2.alloc _⟩, hsl⟩
              case measure => simp [intOf]; omega
            · have z1 := int_ne' hz
              by_cases hbig : 500 < (nextS ahead es[j].f1).size
              · have HS := hide (slotsF_skip (rec := dn l f) (l := l) (a := ahead) (st := sj) hlt (.inr hbig))
                have q7 : (500 : Int) < (ahead.size : Int) + 1 + ((es[j].f1).size : Int) := by have := HNS.out; omega
                generalize es[j].f1 = nm at u1 q4 q7
                generalize es[j].f0 = ino at u0 hwf z1
                clear hz hbig
                gi_wp2
                go_roundw
                case rel => exact ⟨j + 1, sj, by omega, by go_num, hide (HS.out.symm.trans HT.out), HLJ, hide ⟨HD.out.1.alloc _, HD.out.2.1.keeps (Keeps2.alloc _ _ _), HD.out.2.2.alloc _⟩, hsl⟩
                case measure => simp [intOf]; omega
              · have HB := hide (show ¬ (es[j].f0 = 0 ∨ 500 < (nextS ahead es[j].f1).size) from fun h => h.elim hz hbig)
                have q7 : (ahead.size : Int) + 1 + ((es[j].f1).size : Int) ≤ 500 := by have := HNS.out; omega
                have q8 := HNS.out
                have HFU := hide (fun hf => slotsF_full (rec := dn l f) (l := l) (a := ahead) (st := sj) hlt HB.out hf)
                have HNO := hide (fun hf hn => slotsF_none (rec := dn l f) (l := l) (a := ahead) (st := sj) hlt HB.out hf hn)
                have HSO := hide (fun hf i hn => slotsF_some (rec := dn l f) (l := l) (a := ahead) (st := sj) hlt HB.out hf i hn)
                have HNX := hide (show nextS ahead es[j].f1 = ahead ++ (⟨#[47]⟩ : ByteArray) ++ es[j].f1 from rfl)
                generalize hs : nextS ahead es[j].f1 = s at HFU HNO HSO HNX q8
                generalize es[j].f1 = nm at u1 q4 q7 q8 HNX
                generalize es[j].f0 = ino at u0 hwf z1 HNO HSO
                clear hz hbig hs HB HNS
                gi_wp2
                have HFF2 := hide (show ∀ x : List ByteArray, (slotsF (dn l f) l ahead es (into st k)).1 = false → (slotsF (dn l f) l ahead es (into st k)).2.1 = x → x = F from fun x h1 h2 => by rw [← h2, ← HR.out]; exact HFF.out (by rw [HR.out]; exact h1))
                obtain ⟨fn, tmps, assign, body, hy, hR⟩ := HY.out (sj.1, ahead ++ (⟨#[47]⟩ : ByteArray) ++ nm, wr.alloc (.cells #[.int .i64 ino, .string nm] 32)) (wr.alloc (.cells #[.int .i64 ino, .string nm] 32))
                  ⟨HD.out.1.alloc _, hsl, KeepP.refl _ _, by rw [← HNX.out, q8]; omega, fun h => HFF2.out _ (by rw [← HT.out, HFU.out h]) (by rw [← HT.out, HFU.out h])⟩ (HD.out.2.1.keeps (Keeps2.alloc _ _ _))
                dsimp only at hy
                have hhb : (wr.alloc (.cells #[.int .i64 ino, .string nm] 32)).heap[wr.heap.size]? = some (.cells #[.int .i64 ino, .string nm] 32 (0, 0)) := World.alloc_heap_new _ _
                have HHB := hide hhb
                clear hhb
                rw [hy, Oper.uponIn_round]
                refine ⟨fun h => by simp [Fence.wide] at h, ?_⟩
                refine hR.mono ?_
                rintro e W3 (⟨rfl, ⟨hc3, hne, hle, hk3⟩, hrd3⟩ | ⟨rfl, cc, hCc, hJx, hst⟩)
                · have hc3' : ConsP n w (sj.1 ++ [s]) W3 := by rw [HNX.out]; exact hc3
                  have hit3 := (HD.out.2.2.alloc (.cells #[.int .i64 ino, .string nm] 32)).keep hk3
                  have hnb : wr.heap.size ≠ n := by have := HD.out.1.1; obtain ⟨v, hv, _⟩ := this; have := hv.lt; omega
                  have hb3 := hk3.2 _ _ HHB.out hnb (by simp [kindOk])
                  have t0 := blk_cell hb3 0
                  have t1 := blk_cell hb3 1
                  obtain ⟨cw0, cw1, cw2⟩ := hit3.cells
                  obtain ⟨ma, hia⟩ := hit3.2.1
                  have hlk0 := hia.look Try.underlying3 Try.underlying3 Try.underlying56 (zero3 _) ino hwf
                  have hlk1 : ∀ q, (Instr.lookup 56 (.map (some ba)) (.int .i64 ino) true).run Try.prog (W3.drewN q) = .ok (.tuple #[.int .i64 ((atF l ino).getD 0), .bool (atF l ino).isSome]) (W3.drewN q) := fun q => (show OwnII Try.prog 3 3 (W3.drewN q) ba ma (atF l) from hia).look Try.underlying3 Try.underlying3 Try.underlying56 (zero3 _) ino hwf
                  have HI3 := hide (And.intro hc3' (And.intro hrd3 hit3))
                  have HNE := hide hne
                  have hle' : sj.1.length ≤ 9999 := by dsimp only at hne hle; omega
                  clear hc3 hne hk3 hrd3 hc3' hit3 hnb hb3 hia hle
                  cases hq : atF l ino with
                  | none =>
                    have HT3 := hide ((HNO.out HNE.out hq).symm.trans HT.out)
                    rw [hq] at hlk0 hlk1
                    simp only [Option.getD_none, Option.isSome_none] at hlk0 hlk1
                    clear hq
                    gi_wp2
                    gi_quiet (fail)
                    gi_wp2
                    refine ⟨trivial, ?_⟩
                    gi_wp2
                    go_roundw
                    case rel => exact ⟨j + 1, (sj.1 ++ [s], sj.2), by omega, by go_num, HT3, HLJ, hide ⟨HI3.out.1.drewN _, HI3.out.2.1.keeps (Keeps2.drewN _ _ _), HI3.out.2.2.drewN _⟩, by simp; omega⟩
                    case measure => simp [intOf]; omega
                  | some v =>
                    obtain ⟨i, rfl, hil, _⟩ := atF_lt hq
                    have HT3 := hide ((HSO.out HNE.out i hq).symm.trans HT.out)
                    have HCL := hide (fun q => IH.out i s (sj.1 ++ [s], sj.2) (W3.drewN q) hil (by rw [q8]; omega) HLJ.out (HI3.out.1.drewN q) (by simp; omega) (HI3.out.2.1.keeps (Keeps2.drewN _ _ _)) (HI3.out.2.2.drewN q) (fun h => HFF2.out _ (by rw [← HT3.out, if_neg (by rw [h]; simp)]) (by rw [← HT3.out, if_neg (by rw [h]; simp)])))
                    rw [hq] at hlk0 hlk1
                    simp only [Option.getD_some, Option.isSome_some] at hlk0 hlk1
                    clear hq
                    generalize hdn : dn l f i s (sj.1 ++ [s], sj.2) = r at HT3 HCL
                    have HDN := hide hdn
                    clear hdn
                    rw [HNX.out] at HCL
                    gi_wp2
                    gi_quiet (fail)
                    gi_wp2
                    refine wide_in ?_
                    refine (HCL.out _).mono ?_
                    rintro e W4 (⟨rfl, hr1, hr2, hr3, hr4, hr5⟩ | ⟨rfl, hr1, sx, cx, hcx, hjx, hsx⟩)
                    · have HLR := hide (show left l r.2.2 < f from Nat.lt_of_le_of_lt (left_le (fun x hx => by rw [← HDN.out]; exact dn_mono l f i s (sj.1 ++ [s], sj.2) x hx)) HLJ.out)
                      have HT4 := hide (show slotsF (dn l f) l ahead (es.drop (j + 1)) r.2 = slotsF (dn l f) l ahead es (into st k) by have := HT3.out; rw [if_pos hr1] at this; exact this)
                      clear hr1
                      gi_wp2
                      go_roundw
                      case rel => exact ⟨j + 1, r.2, by omega, by go_num, HT4, HLR, hide ⟨hr2, hr4, hr5⟩, hr3⟩
                      case measure => simp [intOf]; omega
                    · have HT4 := hide (show (false, r.2) = slotsF (dn l f) l ahead es (into st k) by have := HT3.out; rw [if_neg (by rw [hr1]; simp)] at this; exact this)
                      clear hr1
                      gi_wp2
                      go_ret
                      rw [HR.out, ← HT4.out]
                      exact .inr ⟨by first | rfl | simp, rfl, sx, cx, hcx, hjx, hsx⟩
                · have HT3 := hide ((HFU.out hJx.1).symm.trans HT.out)
                  gi_wp2
                  go_ret
                  rw [HR.out, ← HT3.out]
                  exact .inr ⟨by first | rfl | simp, rfl, _, cc, hCc, hJx, hst⟩
          · have hje : j = es.length := by omega
            subst hje
            clear hlt hj
            have HT2 := hide (show slotsF (dn l f) l ahead es (into st k) = (true, sj) by rw [← HT.out, List.drop_length]; rfl)
            gi_wp2
            go_ret
            rw [HR.out, HT2.out]
            exact .inl ⟨by first | rfl | simp, rfl, HD.out.1, hsl, HD.out.2.1, HD.out.2.2⟩
      · have HR := hide (show dn l (f + 1) k ahead st = (true, st) by unfold dn; rw [if_pos (.inr (by rw [hgd]; exact hkind))])
        have n1 := int_ne' hkind
        clear hvis hvis' hgd
        refine callsIn_of_wp Try.func44 rfl trivial ?_ rfl
        simp only [Try.ntmps44, List.size_toArray, List.length_cons, List.length_nil, Nat.reduceAdd, Nat.reduceSub, Array.replicate_succ, Array.replicate_zero, List.push_toArray, List.append_toArray, List.nil_append, List.cons_append]
        gi_wp2
        go_ret
        rw [HR.out]
        exact .inl ⟨by first | rfl | simp, rfl, HCONS.out, hlen, HRDY.out, HIT.out⟩
end Go.Proofs.Ytnmlmbbacicojaa
namespace Go.Proofs.Ytnmlmbbacicojaa
set_option linter.unusedVariables false
set_option linter.unusedSimpArgs false
open Go.RowKit Go.Maps Go.Proofs.YtnmlmbbacicojaaW.PrintWords Go.Proofs.YtnmlmbbacicojaaW.PrintLast Go.Proofs.YtnmlmbbacicojaaW.PrintMore Go.Proofs.Ytnmlmbbacicojaa.PWalkSame

theorem paths_c (A : Option Addr) (N c : Nat) (w : World) : Calls Try.prog 31 #[.slice A N c] w fun e w' => e = .returned (.func (.func 43) #[] #[.pointer (some ⟨w.heap.size, 0, none⟩)]) ∧ w' = w.alloc (.cells #[.slice A N c] 22) := by
  go_enter Try.func31, Try.ntmps31
  go_wp2
  go_ret
  exact ⟨rfl, rfl⟩
theorem ConsP.ext {n : Nat} {w V W' : World} {out : List ByteArray} (h : ConsP n w out V) (hb : Below V.heap.size V W') : ConsP n w out W' := by
  obtain ⟨⟨v, h1, h2⟩, h3⟩ := h
  exact ⟨⟨v, (hb.block n h1.lt).trans h1, own_move h2 (fun k hk => hb.block k (h2.lt k hk).2)⟩, h3.trans (hb.mono (by have := h1.lt; omega))⟩
theorem Ready.ext {L : Nat} {rec : LoopState → Option Code → Loop} {V W' : World} (h : Ready L rec V) (hb : Below V.heap.size V W') : Ready L rec W' :=
  ⟨(hb.block _ h.lt).trans h.1, (hb.block _ (by have := h.lt; omega)).trans h.2⟩
theorem of_drew {V W5 : World} (h : Below V.drew.heap.size V.drew W5) : Below V.heap.size V W5 := ⟨h.os, h.tape, h.output, h.size, h.block⟩
section
variable {l : List S30} {A : Option Addr} {N c n L ba m : Nat} {rec : LoopState → Option Code → Loop} {w W W5 : World}
theorem it_first (hN : l.length = N) (hcons : ConsP n w [] W) (hrdy : Ready L rec W) (hL : n + 2 = L) (hb5 : Below (W.alloc (.map #[] 0)).heap.size (W.alloc (.map #[] 0)) W5) (hba : (W.alloc (.map #[] 0)).heap.size ≤ ba) (hii : OwnII Try.prog 3 3 W5 ba m (atF l)) :
    ItP l A N c n W5.heap.size ba W.heap.size (fun _ => false) (W5.alloc (.cells #[.slice A N c, .map (some ba), .map (some W.heap.size)] 84)) ∧ ConsP n w [] (W5.alloc (.cells #[.slice A N c, .map (some ba), .map (some W.heap.size)] 84)) ∧ Ready L rec (W5.alloc (.cells #[.slice A N c, .map (some ba), .map (some W.heap.size)] 84)) := by
  have hlt := hrdy.lt
  rw [World.size_alloc] at hba
  have h5 := hb5.size
  rw [World.size_alloc] at h5
  have hib : OwnIB Try.prog 3 4 (W.alloc (.map #[] 0)) W.heap.size 0 (fun _ => false) := ⟨_, World.ownsMap_made _ _ _ _, MapIB.none_⟩
  have hib5 := hib.same (hb5.block W.heap.size (by rw [World.size_alloc]; omega))
  have hbW : Below W.heap.size W W5 := ((Below.refl _ W).alloc (Nat.le_refl _) _).trans (hb5.mono (by rw [World.size_alloc]; omega))
  have hbF := hbW.alloc (by omega) (.cells #[.slice A N c, .map (some ba), .map (some W.heap.size)] 84)
  refine ⟨⟨World.alloc_heap_new _ _, ⟨m, hii.kept (World.grownBy_alloc W5 _ none) (by simp)⟩, ⟨0, ?_, hib5.kept (World.grownBy_alloc W5 _ none) (by simp)⟩, by omega, by omega, by omega, by omega⟩, hcons.ext hbF, hrdy.ext hbF⟩
  rw [left_all]; omega
theorem it_second (hN : l.length = N) (hcons : ConsP n w [] W) (hrdy : Ready L rec W) (hL : n + 2 = L) (hb5 : Below W.heap.size W W5) (hba : W.heap.size ≤ ba) (hii : OwnII Try.prog 3 3 W5 ba m (atF l)) :
    ItP l A N c n (W5.heap.size + 1) ba W5.heap.size (fun _ => false) ((W5.alloc (.map #[] 0)).alloc (.cells #[.slice A N c, .map (some ba), .map (some W5.heap.size)] 84)) ∧ ConsP n w [] ((W5.alloc (.map #[] 0)).alloc (.cells #[.slice A N c, .map (some ba), .map (some W5.heap.size)] 84)) ∧ Ready L rec ((W5.alloc (.map #[] 0)).alloc (.cells #[.slice A N c, .map (some ba), .map (some W5.heap.size)] 84)) := by
  have hlt := hrdy.lt
  have h5 := hb5.size
  have hlt2 := hii.lt
  have hib : OwnIB Try.prog 3 4 (W5.alloc (.map #[] 0)) W5.heap.size 0 (fun _ => false) := ⟨_, World.ownsMap_made _ _ _ _, MapIB.none_⟩
  have hbF := (hb5.alloc h5 (.map #[] 0)).alloc (by rw [World.size_alloc]; omega) (.cells #[.slice A N c, .map (some ba), .map (some W5.heap.size)] 84)
  have e := World.alloc_heap_new (W5.alloc (.map #[] 0)) (.cells #[.slice A N c, .map (some ba), .map (some W5.heap.size)] 84)
  rw [World.size_alloc] at e
  refine ⟨⟨e, ⟨m, (hii.kept (World.grownBy_alloc W5 _ none) (by simp)).kept (World.grownBy_alloc _ _ none) (by simp)⟩, ⟨0, ?_, hib.kept (World.grownBy_alloc _ _ none) (by simp)⟩, by omega, by omega, by omega, by omega⟩, hcons.ext hbF, hrdy.ext hbF⟩
  rw [left_all]; omega
end
def DoneP (n : Nat) (w : World) (F : List ByteArray) (W : World) : Prop := ConsP n w F W

set_option maxHeartbeats 4000000 in
set_option maxRecDepth 100000 in
theorem paths1_c {n L : Nat} {rec : LoopState → Option Code → Loop} {w : World} {C : Code → Prop} (l : List S30) (hY : YieldP n L rec w (pathsF l) C) (A : Option Addr) (N c : Nat) (hN : l.length = N) (hNc : N ≤ c) (hok : NodesOk l) (hC : Kd.C k30 w A N l) (hn : n = w.heap.size) (hL : n + 2 = L)
    (W : World) (hcons : ConsP n w [] W) (hrdy : Ready L rec W) (hbox : Boxed W (n + 1) 22 (.slice A N c)) :
    CallsIn Fence.wide 0 Try.prog 43 #[.func (.yield (L + 1)) #[] #[], .pointer (some ⟨n + 1, 0, none⟩)] W fun e W' => (∃ v, e = .returned v) ∧ ((DoneP n w (pathsF l) W' ∧ Ready L rec W') ∨ (∃ s c, C c ∧ JxP n w (pathsF l) s c W' ∧ Stopped L rec c W')) := by
  have hr47 := reach47
  have hll : l.length ≤ 140737488355328 := by have := hok.2; omega
  have hbel := hcons.2
  rw [hn] at hbel
  have HI := hide (fun (V : World) (hb : Below w.heap.size w V) => index_c A N c l V hN (Kd.C_below hC hb) hNc (by omega) (fun x hx => (hok.1 x hx).1))
  have HBEL := hide hbel
  have HB1 := hide (hbel.alloc hbel.size (.map #[] 0))
  have HNN := hide hn
  have HCONS := hide hcons
  have HRDY := hide hrdy
  have HBOX := hide hbox
  have HLL := hide hL
  have cb := hbox.cell
  have cb1 : (W.alloc (.map #[] 0)).cell? ⟨n + 1, 0, none⟩ = some (.slice A N c) := (hbox.alloc _).cell
  have hmm := @run_makeMap Try.prog
  clear hbel hn hcons hrdy hbox hL
  refine callsIn_of_wp Try.func43 rfl trivial ?_ rfl
  simp only [Try.ntmps43, List.size_toArray, List.length_cons, List.length_nil, Nat.reduceAdd, Nat.reduceSub, Array.replicate_succ, Array.replicate_zero, List.push_toArray, List.append_toArray, List.nil_append, List.cons_append]
  gi_wp2
  gi_cut [3] from 6 (fun v3 wx => ∃ bw ba bi, v3 = .pointer (some ⟨bw, 0, none⟩) ∧ Hid (ItP l A N c n bw ba bi (fun _ => false) wx ∧ ConsP n w [] wx ∧ Ready L rec wx))
  case first =>
    gi_region_with ((with_reducible refine wide_calls ?_); go_at_call 27; refine (HI.out _ (by repeat (first | (with_reducible first | exact HBEL.out | apply below_alloc | apply pw_below_drewN | apply below_drew1) | exact HBEL.out))).mono ?_; rintro e W5 ⟨ba, m, rfl, hba, hii, hm, hb5⟩; have c5 : W5.cell? ⟨n + 1, 0, none⟩ = some (.slice A N c) := (hb5.cell (p := ⟨n + 1, 0, none⟩) (by have := HBOX.out.lt; first | exact this | (simp; omega))).trans (by first | exact cb | exact cb1); have c5a : (W5.alloc (.map #[] 0)).cell? ⟨n + 1, 0, none⟩ = some (.slice A N c) := (((Below.refl W5.heap.size W5).alloc (Nat.le_refl _) (.map #[] 0)).cell (World.block_lt_of_cell? W5 _ c5)).trans c5)
    all_goals (gi_wp2; gi_meet; first | exact ⟨_, _, _, rfl, hide (it_first hN HCONS.out HRDY.out HLL.out (of_drew hb5) hba hii)⟩ | exact ⟨_, _, _, rfl, hide (it_second hN HCONS.out HRDY.out HLL.out (of_drew hb5) hba hii)⟩)
  case rest =>
    obtain ⟨bw, ba, bi, rfl, HX⟩ := hcut
    obtain ⟨cw0, cw1, cw2⟩ := HX.out.1.cells
    obtain ⟨ma, hia⟩ := HX.out.1.2.1
    have hlk := hia.look Try.underlying3 Try.underlying3 Try.underlying56 (zero3 _) 1 (by decide)
    clear hia cb cb1 hmm
    cases hq : atF l 1 with
    | none =>
      have HP := hide (show pathsF l = [] by unfold pathsF; rw [hq])
      rw [hq] at hlk
      simp only [Option.getD_none, Option.isSome_none] at hlk
      clear hq
      gi_wp2
      go_end0
      exact ⟨⟨_, rfl⟩, .inl ⟨by rw [HP.out]; exact HX.out.2.1, HX.out.2.2⟩⟩
    | some v =>
      obtain ⟨i, rfl, hil, _⟩ := atF_lt hq
      have HP := hide (show pathsF l = (dn l (l.length + 1) i ⟨#[]⟩ ([], fun _ => false)).2.1 by unfold pathsF; rw [hq]; rfl)
      have HD := hide (down_c hY l A N c bw ba bi hN hNc hok hC HNN.out (by have := HLL.out; omega) (l.length + 1) i ⟨#[]⟩ ([], fun _ => false) wc hil (by decide) (by rw [left_all]; omega) HX.out.2.1 (by simp) HX.out.2.2 HX.out.1 (fun _ => HP.out.symm))
      rw [hq] at hlk
      simp only [Option.getD_some, Option.isSome_some] at hlk
      clear hq
      gi_wp2
      refine wide_in ?_
      refine HD.out.mono ?_
      rintro e W4 (⟨rfl, hr1, hr2, hr3, hr4, hr5⟩ | ⟨rfl, hr1, sx, cx, hcx, hjx, hsx⟩)
      · have HR := hide (And.intro hr2 hr4)
        clear hr1 hr2 hr3 hr4 hr5
        gi_wp2
        go_end0
        exact ⟨⟨_, rfl⟩, .inl ⟨by rw [HP.out]; exact HR.out.1, HR.out.2⟩⟩
      · clear hr1
        gi_wp2
        go_end0
        exact ⟨⟨_, rfl⟩, .inr ⟨sx, cx, hcx, hjx, hsx⟩⟩
end Go.Proofs.Ytnmlmbbacicojaa
namespace Go.Proofs.Ytnmlmbbacicojaa
set_option linter.unusedVariables false
set_option linter.unusedSimpArgs false
open Go.RowKit Go.Shelf Go.Maps Go.Proofs.YtnmlmbbacicojaaW.PrintWords Go.Proofs.YtnmlmbbacicojaaW.PrintLast Go.Proofs.YtnmlmbbacicojaaW.PrintMore Go.Proofs.Ytnmlmbbacicojaa.PWalkSame
attribute [local go_sem] Oper.semAt_some

theorem info9p : (Try.prog.info? 9).map (fun i => (i.zero, i.size, i.bytes)) = some (some (.string ⟨#[]⟩), 1, 16) := by kernel_rfl

theorem keep_append {n k : Nat} {W w1 : World} {v v0 : Value} {tmp : Obj} {xs : List Value} (hown : W.ownsRow (n + 2) 9 1 v k xs) (hg : (W.alloc tmp).grownBy w1 v.ownBlock) (hv : Boxed W n 44 v0) (u : Value) : KeepP n W (w1.setCell ⟨n, 0, none⟩ u) := by
  refine ⟨by have := hg.size; simp at this ⊢; omega, fun b o h1 h2 h3 => ?_⟩
  have hlt : b < W.heap.size := (Array.getElem?_eq_some_iff.1 h1).1
  refine (Below.heap_setCell w1 ⟨n, 0, none⟩ u b h2).trans ?_
  refine (hg.block b (by simp; omega) (fun e => ?_)).trans ((Below.heap_alloc _ _ _ hlt).trans h1)
  obtain ⟨cells, hc⟩ := own_typed hown b e.symm
  rw [hc] at h1
  injection h1 with h1
  subst h1
  exact h3 rfl
set_option maxHeartbeats 4000000 in
set_option maxRecDepth 100000 in
theorem walkPaths_c (l : List S30) (A : Option Addr) (N c : Nat) (w : World) (hN : l.length = N) (hNc : N ≤ c) (hok : NodesOk l) (hC : Kd.C k30 w A N l) :
    Calls Try.prog 19 #[.slice A N c] w fun e w' => ∃ v, e = .returned v ∧ w'.ownsRow w.heap.size 9 1 v (pathsF l).length ((pathsF l).map Value.string) ∧ Below w.heap.size w w' := by
  have HN := hide hN
  have HOK := hide hok
  have HC := hide hC
  clear hN hok hC
  refine (callsIn_wide (n := 0)).1 ?_
  refine callsIn_of_wp_marks Try.func19 rfl trivial ?_
  simp only [Try.ntmps19, List.size_toArray, List.length_cons, List.length_nil, Nat.reduceAdd, Nat.reduceSub, Array.replicate_succ, Array.replicate_zero, List.push_toArray, List.append_toArray, List.nil_append, List.cons_append]
  gi_wp2_with ((with_reducible refine wide_calls ?_); go_at_call 31; refine (paths_c _ _ _ _).mono ?_; rintro e w' ⟨rfl, rfl⟩)
  have bx0 : Boxed ((w.alloc (.cells #[.slice none 0 0] 44)).alloc (.cells #[.slice A N c] 22)) w.heap.size 44 (.slice none 0 0) := (Boxed.new w 44 _).alloc _
  have bx1 : Boxed ((w.alloc (.cells #[.slice none 0 0] 44)).alloc (.cells #[.slice A N c] 22)) (w.heap.size + 1) 22 (.slice A N c) := by
    have := Boxed.new (w.alloc (.cells #[.slice none 0 0] 44)) 22 (.slice A N c)
    rw [World.size_alloc] at this
    exact this
  have hbl : Below w.heap.size w ((w.alloc (.cells #[.slice none 0 0] 44)).alloc (.cells #[.slice A N c] 22)) := ((Below.refl _ _).alloc (Nat.le_refl _) _).alloc (by simp) _
  have hsz : ((w.alloc (.cells #[.slice none 0 0] 44)).alloc (.cells #[.slice A N c] 22)).heap.size = w.heap.size + 2 := by simp
  have hcons0 : ConsP w.heap.size w [] ((w.alloc (.cells #[.slice none 0 0] 44)).alloc (.cells #[.slice A N c] 22)) := ⟨⟨_, bx0, World.ownsRow_nil _ _ _ _⟩, hbl⟩
  generalize (w.alloc (.cells #[.slice none 0 0] 44)).alloc (.cells #[.slice A N c] 22) = W4 at bx0 bx1 hbl hsz hcons0 ⊢
  clear bx0 hbl
  obtain ⟨F, hF⟩ : ∃ F, F = pathsF l := ⟨_, rfl⟩
  have HF := hide hF
  clear hF
  refine wpIn_rangeFunc_dir (σ := Sg) (gf := 43) (lb := #[.pointer (some ⟨w.heap.size + 1, 0, none⟩)]) rfl (enters_of Try.func43 (by kernel_rfl) rfl)
    (InP w.heap.size w F) (JnP w.heap.size w) (fun s c W => c = .exit 0 ∧ JxP w.heap.size w F s c W) (fun s a₁ W => InP w.heap.size w F s W ∧ a₁ = (fun x : ByteArray => ({ tmps := #[.slice A N c, undef, .slice none 0 0, .pointer (some ⟨w.heap.size, 0, none⟩), .string x, .slice A N c, .func (.func 43) #[] #[.pointer (some ⟨w.heap.size + 1, 0, none⟩)], .string x, undef, undef, undef, undef, undef, undef, undef, undef], defers := [] } : Act)) s.2.1) (DoneP w.heap.size w F) (fun s => #[.string s.2.1])
    ?hI ?hJ ?hJx ?hMid ?hDone (fun _ => rfl) ?assign ?body ?iter ?done ?stop
  case hI => exact fun s W r o' ⟨h1, h2, h3, h4⟩ hl => ⟨h1.putObj _ hl (by omega), h2, h3.putObj _ hl, h4⟩
  case hJ => exact fun s W r o' ⟨h1, h2, h3, h4⟩ hl => ⟨h1.putObj _ hl (by omega), h2, h3, h4.putObj _ hl⟩
  case hJx => exact fun s c W r o' ⟨h0, h1, h2, h3⟩ hl => ⟨h0, h1, h2, h3.putObj _ hl (by omega)⟩
  case hMid => exact fun s a₁ W r o' ⟨⟨h1, h2, h3, h4⟩, h5⟩ hl => ⟨⟨h1.putObj _ hl (by omega), h2, h3.putObj _ hl, h4⟩, h5⟩
  case hDone => exact fun W r o' h1 hl => ConsP.putObj _ h1 hl (by omega)
  case assign =>
    intro l s W hi hl
    have HI := hide hi
    clear hi
    gi_wp2
    obtain ⟨h1, h2, h3, h4⟩ := HI.out
    first | exact ⟨Keeps2.refl _ _, h1, h2, h3, h4⟩ | exact ⟨Keeps2.refl _ _, ⟨h1, h2, h3, h4⟩, rfl⟩ | exact ⟨Keeps2.refl _ _, ⟨h1, h2, h3, h4⟩, trivial⟩
  case body =>
    rintro l' ⟨out, x, W0⟩ a₁ W hl ⟨⟨⟨⟨v, hv, hown⟩, hb⟩, hlen, hk0, hx5, hF5⟩, rfl⟩
    dsimp only at hlen hown hk0 hx5 hF5
    obtain ⟨A5, c5, rfl⟩ := own_slice hown
    have cv := hv.cell
    have fv := hv.frozen
    have hlt := hv.lt
    have HB := hide hb
    have HK := hide hk0
    have HF5 := hide hF5
    clear hb hk0 hF5
    by_cases hful : out.length = 10000
    · have e1 : ((out.length : Int) == 10000) = true := by rw [hful]; rfl
      have HFU := hide hful
      have HOWN := hide hown
      have HV := hide hv
      clear hful hown hv
      gi_wp2
      exact ⟨Keeps2.refl _ _, rfl, HFU.out, HF5.out HFU.out, ⟨_, HV.out, HOWN.out⟩, HB.out⟩
    · have e1 : ((out.length : Int) == 10000) = false := by rw [beq_eq_false_iff_ne]; omega
      have HFU := hide hful
      clear hful
      obtain ⟨i0, hi, hz0, hz1, hz2⟩ := info_parts info9p
      gi_wp2_with (gi_at_builtin; go_must (refine wpListIn_append_own _ rfl _ _ 44 rfl (w.heap.size + 2) 9 i0 (.string ⟨#[]⟩) 1 16 Try.underlying44 hi hz0 hz1 hz2 rfl (by decide) _ _ _ rfl (hown.alloc _) ⟨W.heap.size, 0, none⟩ 1 1 [.string x] rfl rfl (cell_one_new _ _ _) (by simp [Value.oneCell']) (by unfold maxLen; omega) (by omega) (by simp; omega) ?_); intro v' w1 hown' hgrow _; obtain ⟨g', cap', rfl⟩ := ownsRow_succ hown'; obtain ⟨hbox, hko⟩ := appended_box hv hown (by omega) hgrow; have hv1 := hbox _ _ _ (by omega) hv; have hc1 := hv1.cell; have hf1 := hv1.frozen)
      obtain ⟨st1, st2, st3, st4⟩ := stored_box hv1 hown' (by omega)
      refine ⟨(Keeps2.of_others hko).trans (Keeps2.of_others st4), ⟨⟨_, st2, by simpa using st3⟩, ?_⟩, HFU.out, hlen, HK.out.trans (keep_append hown hgrow hv _)⟩
      exact ((HB.out.alloc (by omega) _).grown hgrow (by simp; omega) (fun k hk => by have := (hown.lt k hk).1; omega)).setCell (p := ⟨w.heap.size, 0, none⟩) (Nat.le_refl _) _
  case iter =>
    rintro rec W1 hW1 hrdy hY
    have hbW : Below W4.heap.size W4 W1 := by subst hW1; exact ((Below.refl _ _).alloc (Nat.le_refl _) _).alloc (by simp) _
    have hcons1 : ConsP w.heap.size w [] W1 := hcons0.ext hbW
    have hbx1 : Boxed W1 (w.heap.size + 1) 22 (.slice A N c) := (hbW.block _ (by omega)).trans bx1
    rw [hsz] at hrdy hY ⊢
    rw [HF.out] at hY ⊢
    refine (paths1_c (C := fun c => c = .exit 0) l (fun s W hi hr => ?_) A N c HN.out hNc HOK.out HC.out rfl rfl W1 hcons1 hrdy hbx1).mono ?_
    · obtain ⟨fn, tmps, asg, bd, hy, hR⟩ := hY s W hi hr
      refine ⟨fn, tmps, asg, bd, hy, hR.mono ?_⟩
      rintro e W' (h | ⟨h1, c', ⟨h2, h3⟩, h4⟩)
      · exact .inl h
      · exact .inr ⟨h1, c', h2, h3, h4⟩
    · rintro e W' ⟨h1, (h2 | ⟨s, c', h3, h4, h5⟩)⟩
      · exact ⟨h1, .inl h2⟩
      · exact ⟨h1, .inr ⟨s, c', ⟨h3, h4⟩, h5⟩⟩
  case done =>
    rintro W ⟨⟨v, hv, hown⟩, hb⟩ hD
    have cv := hv.cell
    have H := hide (And.intro hv (And.intro hown (And.intro hb hD)))
    clear hv hown hb hD
    gi_wp2
    obtain ⟨hv, hown, hb, hD⟩ := H.out
    refine ⟨by simp, .inl ⟨_, _, rfl, run_takeDeferred hD, ?_⟩⟩
    refine ⟨_, results_tmp rfl _ _ _, v, rfl, ?_, below_putObj _ hb (by omega) (Array.getElem?_eq_some_iff.1 hD).1⟩
    rw [← HF.out]
    exact own_less (ownsRow_putObj hown _ hD rfl) (by omega)
  case stop =>
    rintro s c W ⟨rfl, hx1, hx2, ⟨v, hv, hown⟩, hb⟩ hD
    have cv := hv.cell
    have H := hide (And.intro hv (And.intro hown (And.intro hb (And.intro hD hx2))))
    clear hv hown hb hD hx1 hx2
    gi_wp2
    obtain ⟨hv, hown, hb, hD, hx2⟩ := H.out
    refine ⟨by simp, .inl ⟨_, _, rfl, run_takeDeferred hD, ?_⟩⟩
    refine ⟨_, results_tmp rfl _ _ _, v, rfl, ?_, below_putObj _ hb (by omega) (Array.getElem?_eq_some_iff.1 hD).1⟩
    rw [← HF.out, ← hx2]
    exact own_less (ownsRow_putObj hown _ hD rfl) (by omega)
end Go.Proofs.Ytnmlmbbacicojaa
namespace Go.Proofs.Ytnmlmbbacicojaa
set_option linter.unusedVariables false
set_option linter.unusedSimpArgs false
open Go.RowKit Go.Maps Go.Proofs.YtnmlmbbacicojaaW.PrintWords Go.Proofs.YtnmlmbbacicojaaW.PrintLast Go.Proofs.YtnmlmbbacicojaaW.PrintMore Go.Proofs.Ytnmlmbbacicojaa.PWalkSame

def slotsR (rec : Nat → ByteArray → St → St) (l : List S30) (ahead : ByteArray) : List S32 → St → St
  | [], st => st
  | e :: es, st =>
    if 10000 ≤ st.1.length then st
    else if e.f0 = 0 ∨ 500 < (nextS ahead e.f1).size then slotsR rec l ahead es st
    else match atF l e.f0 with
      | none => slotsR rec l ahead es (st.1 ++ [nextS ahead e.f1], st.2)
      | some n => if (l.getD n.toNat z30).f1 = 2 ∧ st.2 n = false then slotsR rec l ahead es (rec n.toNat (nextS ahead e.f1) (st.1 ++ [nextS ahead e.f1], st.2)) else slotsR rec l ahead es (st.1 ++ [nextS ahead e.f1], st.2)
def dnR (l : List S30) : Nat → Nat → ByteArray → St → St
  | 0, _, _, st => st
  | f + 1, k, ahead, st => slotsR (dnR l f) l ahead (l.getD k z30).f5 (into st k)
/-- the one walk's end and the other's -/
def Rl (r : Bool × St) (s : St) : Prop := s.1 = r.2.1 ∧ s.1.length ≤ 10000 ∧ (r.1 = true → s.2 = r.2.2) ∧ (r.1 = false → s.1.length = 10000)
theorem slotsF_full' {rec : Nat → ByteArray → St → Bool × St} {l : List S30} {a : ByteArray} : ∀ (es : List S32) {st : St}, st.1.length = 10000 → ∃ b, slotsF rec l a es st = (b, st)
  | [], st, _ => ⟨true, rfl⟩
  | e :: es, st, h => by
    unfold slotsF
    split
    · exact slotsF_full' es h
    · exact ⟨_, rfl⟩
theorem slotsR_full {rec : Nat → ByteArray → St → St} {l : List S30} {a : ByteArray} (es : List S32) {st : St} (h : 10000 ≤ st.1.length) : slotsR rec l a es st = st := by
  cases es with
  | nil => rfl
  | cons e es => unfold slotsR; rw [if_pos h]
theorem slots_rl {recF : Nat → ByteArray → St → Bool × St} {recR : Nat → ByteArray → St → St} {l : List S30} (a : ByteArray)
    (h1 : ∀ k a st, st.1.length ≤ 10000 → st.2 (k : Int) = false → (l.getD k z30).f1 = 2 → Rl (recF k a st) (recR k a st)) (h2 : ∀ k a st, (st.2 (k : Int) = true ∨ (l.getD k z30).f1 ≠ 2) → recF k a st = (true, st)) :
    ∀ (es : List S32) (st : St), st.1.length ≤ 10000 → Rl (slotsF recF l a es st) (slotsR recR l a es st)
  | [], st, h => ⟨rfl, h, (fun _ => rfl), (fun h => by cases h)⟩
  | e :: es, st, h => by
    by_cases hf : st.1.length = 10000
    · obtain ⟨b, hb⟩ := slotsF_full' (rec := recF) (l := l) (a := a) (e :: es) hf
      rw [hb, slotsR_full _ (by omega)]
      exact ⟨rfl, h, fun _ => rfl, fun _ => hf⟩
    · unfold slotsF slotsR
      rw [if_neg (show ¬ 10000 ≤ st.1.length by omega)]
      by_cases hd : e.f0 = 0 ∨ 500 < (nextS a e.f1).size
      · rw [if_pos hd, if_pos hd]; exact slots_rl a h1 h2 es st h
      · rw [if_neg hd, if_neg hd, if_neg hf]
        have hl1 : (st.1 ++ [nextS a e.f1]).length ≤ 10000 := by simp; omega
        cases hq : atF l e.f0 with
        | none => exact slots_rl a h1 h2 es _ hl1
        | some n =>
          obtain ⟨i, rfl, hi, _⟩ := atF_lt hq
          simp only [Int.toNat_natCast]
          by_cases hg : (l.getD i z30).f1 = 2 ∧ st.2 (i : Int) = false
          · rw [if_pos hg]
            have hr := h1 i (nextS a e.f1) (st.1 ++ [nextS a e.f1], st.2) hl1 hg.2 hg.1
            generalize recF i (nextS a e.f1) (st.1 ++ [nextS a e.f1], st.2) = r at hr
            generalize recR i (nextS a e.f1) (st.1 ++ [nextS a e.f1], st.2) = s at hr
            obtain ⟨rb, r1, r2⟩ := r
            obtain ⟨s1, s2⟩ := s
            obtain ⟨e1, e2, e3, e4⟩ := hr
            dsimp only at e1 e2 e3 e4
            subst e1
            cases rb with
            | true =>
              have := e3 rfl
              subst this
              rw [if_pos rfl]
              exact slots_rl a h1 h2 es _ e2
            | false =>
              have := e4 rfl
              rw [if_neg (by simp), slotsR_full es (show 10000 ≤ (s1, s2).1.length by dsimp only; omega)]
              exact ⟨rfl, e2, (fun h => by cases h), (fun _ => this)⟩
          · rw [if_neg hg, h2 i _ _ (by
              by_cases hk : (l.getD i z30).f1 = 2
              · refine .inl ?_
                cases hs : st.2 (i : Int) with
                | true => rfl
                | false => exact absurd ⟨hk, hs⟩ hg
              · exact .inr hk)]
            rw [if_pos rfl]
            exact slots_rl a h1 h2 es _ hl1
theorem dn_rl (l : List S30) : ∀ (f k : Nat) (a : ByteArray) (st : St), st.1.length ≤ 10000 → st.2 (k : Int) = false → (l.getD k z30).f1 = 2 → Rl (dn l f k a st) (dnR l f k a st)
  | 0, k, a, st, h, _, _ => ⟨rfl, h, (fun _ => rfl), (fun h => by cases h)⟩
  | f + 1, k, a, st, h, hg, hk => by
    unfold dn dnR
    rw [if_neg (show ¬ (st.2 (k : Int) = true ∨ (l.getD k z30).f1 ≠ 2) from fun h => h.elim (fun h => by rw [hg] at h; cases h) (fun h => h hk))]
    refine slots_rl a (fun k a st h1 h2 h3 => dn_rl l f k a st h1 h2 h3) (fun k a st h => ?_) _ _ h
    cases f with
    | zero => rfl
    | succ f => unfold dn; rw [if_pos h]
/-- all paths, as the document tells them -/
def pathsR (l : List S30) : List ByteArray := match atF l 1 with
  | none => []
  | some k => if (l.getD k.toNat z30).f1 = 2 then (dnR l (l.length + 1) k.toNat ⟨#[]⟩ ([], fun _ => false)).1 else []
theorem paths_eq (l : List S30) : pathsR l = pathsF l := by
  unfold pathsR pathsF
  cases h : atF l 1 with
  | none => rfl
  | some k =>
    obtain ⟨i, rfl, hi, _⟩ := atF_lt h
    simp only [Int.toNat_natCast]
    by_cases hk : (l.getD i z30).f1 = 2
    · rw [if_pos hk]; exact (dn_rl l _ i _ _ (by simp) rfl hk).1
    · rw [if_neg hk]; unfold dn; rw [if_pos (.inr hk)]

/-- what lies in memory: the head, what was seen, the paths -/
def seenL (N : Nat) (g : Int → Bool) : List Value := (List.range N).map fun k : Nat => Value.bool (g (k : Int))
def PP (w : World) (bp bs : Nat) (A : Option Addr) (N c : Nat) (st : St) (W : World) : Prop :=
  (∃ v, Blk W bp #[.slice A N c, .slice (some ⟨bs, 0, none⟩) N N, v] 69 ∧ W.ownsRow (bp + 1) 9 1 v st.1.length (st.1.map Value.string)) ∧ W.ownsRow w.heap.size 4 1 (.slice (some ⟨bs, 0, none⟩) N N) N (seenL N st.2) ∧ bs < bp ∧ w.heap.size ≤ bs ∧ Below w.heap.size w W
section
variable {w W : World} {bp bs N c : Nat} {A : Option Addr} {st : St}
theorem PP.drewN (h : PP w bp bs A N c st W) (q : Nat) : PP w bp bs A N c st (W.drewN q) := by
  obtain ⟨⟨v, h1, h2⟩, h3, h4, h5, h6⟩ := h
  exact ⟨⟨v, h1, h2⟩, h3, h4, h5, below_drewN' h6 q⟩
theorem PP.alloc (h : PP w bp bs A N c st W) (o : Obj) : PP w bp bs A N c st (W.alloc o) := by
  obtain ⟨⟨v, h1, h2⟩, h3, h4, h5, h6⟩ := h
  exact ⟨⟨v, h1.alloc o, h2.alloc o⟩, h3.alloc o, h4, h5, h6.alloc h6.size o⟩
theorem seen_set {g : Int → Bool} {k : Nat} (hk : k < N) (out : List ByteArray) : (seenL N g).set k (.bool true) = seenL N (into (out, g) k).2 := by
  refine List.ext_getElem (by simp [seenL]) fun i h1 h2 => ?_
  simp only [seenL, List.getElem_set, List.getElem_map, List.getElem_range, into]
  by_cases e : k = i
  · subst e; simp
  · rw [if_neg e, if_neg (show ¬ ((i : Nat) : Int) = (k : Int) by omega)]
theorem PP.mark {k : Nat} (h : PP w bp bs A N c st W) (hk : k < N) : PP w bp bs A N c (into st k) (W.setCell ⟨bs, k, none⟩ (.bool true)) := by
  obtain ⟨⟨v, h1, h2⟩, h3, h4, h5, h6⟩ := h
  have h7 := h3.stored k (.bool true)
  rw [seen_set hk st.1] at h7
  exact ⟨⟨v, h1.other (by simp; omega) _, ownsRow_far h2 (by simp; omega) _⟩, h7.1, h4, h5, h6.setCell (p := ⟨bs, k, none⟩) (by simp; omega) _⟩
theorem PP.push {W1 : World} {v v' : Value} {s : ByteArray} {tmp : Obj} (h : PP w bp bs A N c st W) (hb : Blk W bp #[.slice A N c, .slice (some ⟨bs, 0, none⟩) N N, v] 69) (h2 : W.ownsRow (bp + 1) 9 1 v st.1.length (st.1.map Value.string))
    (hown : W1.ownsRow (bp + 1) 9 1 v' (st.1.length + 1) (st.1.map Value.string ++ [.string s])) (hg : (W.alloc tmp).grownBy W1 v.ownBlock) : Blk W1 bp #[.slice A N c, .slice (some ⟨bs, 0, none⟩) N N, v] 69 ∧ PP w bp bs A N c (st.1 ++ [s], st.2) (W1.setCell ⟨bp, 2, none⟩ v') := by
  obtain ⟨_, h3, h4, h5, h6⟩ := h
  have hne : ∀ j, v.ownBlock = some j → bp + 1 ≤ j := fun j hj => (h2.lt j hj).1
  have hb1 : Blk W1 bp #[.slice A N c, .slice (some ⟨bs, 0, none⟩) N N, v] 69 := (hb.alloc tmp).kept hg (fun e => by have := hne bp e.symm; omega)
  refine ⟨hb1, ⟨v', hb1.set 2 v', ?_⟩, ?_, h4, h5, ?_⟩
  · have := ownsRow_far hown (a := ⟨bp, 2, none⟩) (by simp) v'
    simpa using this
  · refine ownsRow_setCell_other ((h3.alloc tmp).kept hg (.inr fun e => ?_)) (by simp [Value.ownBlock]; omega) v'
    have := hne bs (by rw [← e]; rfl)
    omega
  · refine Below.setCell (p := ⟨bp, 2, none⟩) ((h6.alloc h6.size tmp).grown hg (by have := h6.size; simp; omega) (fun j hj => ?_)) (by simp; omega) v'
    have := hne j hj
    omega
end
theorem slotsR_skip {rec : Nat → ByteArray → St → St} {l : List S30} {a : ByteArray} {es : List S32} {st : St} {j : Nat} (h : j < es.length) (hf : st.1.length < 10000) (hs : es[j].f0 = 0 ∨ 500 < (nextS a es[j].f1).size) : slotsR rec l a (es.drop j) st = slotsR rec l a (es.drop (j + 1)) st := by
  rw [drop_cons h]; conv => lhs; unfold slotsR
  rw [if_neg (by omega), if_pos hs]
theorem slotsR_none {rec : Nat → ByteArray → St → St} {l : List S30} {a : ByteArray} {es : List S32} {st : St} {j : Nat} (h : j < es.length) (hf : st.1.length < 10000) (hs : ¬ (es[j].f0 = 0 ∨ 500 < (nextS a es[j].f1).size)) (hn : atF l es[j].f0 = none) :
    slotsR rec l a (es.drop j) st = slotsR rec l a (es.drop (j + 1)) (st.1 ++ [nextS a es[j].f1], st.2) := by
  rw [drop_cons h]; conv => lhs; unfold slotsR
  rw [if_neg (by omega), if_neg hs, hn]
theorem slotsR_some {rec : Nat → ByteArray → St → St} {l : List S30} {a : ByteArray} {es : List S32} {st : St} {j : Nat} (h : j < es.length) (hf : st.1.length < 10000) (hs : ¬ (es[j].f0 = 0 ∨ 500 < (nextS a es[j].f1).size)) (i : Nat) (hn : atF l es[j].f0 = some (i : Int)) :
    slotsR rec l a (es.drop j) st = if (l.getD i z30).f1 = 2 ∧ st.2 (i : Int) = false then slotsR rec l a (es.drop (j + 1)) (rec i (nextS a es[j].f1) (st.1 ++ [nextS a es[j].f1], st.2)) else slotsR rec l a (es.drop (j + 1)) (st.1 ++ [nextS a es[j].f1], st.2) := by
  rw [drop_cons h]; conv => lhs; unfold slotsR
  rw [if_neg (by omega), if_neg hs, hn]; rfl
end Go.Proofs.Ytnmlmbbacicojaa
namespace Go.Proofs.Ytnmlmbbacicojaa
set_option linter.unusedVariables false
set_option linter.unusedSimpArgs false
open Go.RowKit Go.Maps Go.Proofs.YtnmlmbbacicojaaW.PrintWords Go.Proofs.YtnmlmbbacicojaaW.PrintLast Go.Proofs.YtnmlmbbacicojaaW.PrintMore Go.Proofs.Ytnmlmbbacicojaa.PWalkSame

theorem slotsR_mono {l : List S30} {rec : Nat → ByteArray → St → St} (hr : ∀ k a st x, st.2 x = true → (rec k a st).2 x = true) (ahead : ByteArray) : ∀ (es : List S32) (st : St) (x : Int), st.2 x = true → (slotsR rec l ahead es st).2 x = true
  | [], st, x, h => h
  | e :: es, st, x, h => by
    unfold slotsR
    split
    · exact h
    · split
      · exact slotsR_mono hr ahead es st x h
      · split
        · exact slotsR_mono hr ahead es _ x h
        · split
          · exact slotsR_mono hr ahead es _ x (hr _ _ _ _ h)
          · exact slotsR_mono hr ahead es _ x h
theorem dnR_mono (l : List S30) : ∀ (f k : Nat) (a : ByteArray) (st : St) (x : Int), st.2 x = true → (dnR l f k a st).2 x = true
  | 0, _, _, _, _, h => h
  | f + 1, k, a, st, x, h => by
    unfold dnR
    refine slotsR_mono (fun k a st x h => dnR_mono l f k a st x h) a _ _ x ?_
    unfold into
    dsimp only
    split
    · rfl
    · exact h
theorem bool_cases' {b : Bool} (h : ¬ b = true) : b = false := by cases b <;> simp_all
set_option maxHeartbeats 4000000 in
set_option maxRecDepth 100000 in
theorem downR_c {w : World} (l : List S30) (A : Option Addr) (N c bp bs : Nat) (hN : l.length = N) (hNc : N ≤ c) (hok : NodesOk l) (hC : Kd.C k30 w A N l) :
    ∀ (f k : Nat) (ahead : ByteArray) (st : St) (W : World), k < l.length → ahead.size ≤ 500 → st.2 (k : Int) = false → left l st.2 < f → PP w bp bs A N c st W →
      Calls Try.prog 32 #[.pointer (some ⟨bp, 0, none⟩), .int .i64 k, .string ahead] W fun e W' => e = .returned (.tuple #[]) ∧ PP w bp bs A N c (dnR l f k ahead st) W' := by
  have hr47 := reach47
  have hll : l.length ≤ 140737488355328 := by have := hok.2; omega
  subst hN
  have HI := hide (fun (V : World) (x : Int) (hb : Below w.heap.size w V) => refAt_c l A l.length c x V rfl hNc hll (Kd.C_below hC hb))
  have HC := hide hC
  have HOK := hide hok
  clear hC hok
  intro f
  induction f with
  | zero => intro k ahead st W _ _ _ h; exact absurd h (by omega)
  | succ f ih =>
    intro k ahead st W hk ha hs hf hP
    have IH := hide ih
    clear ih
    have hx := HOK.out.1 _ (List.getElem_mem hk)
    have hgd : l.getD k z30 = l[k] := by simp [hk]
    have HR := hide (show dnR l (f + 1) k ahead st = slotsR (dnR l f) l ahead (l[k]).f5 (into st k) by
      show slotsR (dnR l f) l ahead (l.getD k z30).f5 (into st k) = _
      rw [hgd])
    have HLF := hide (show left l (into st k).2 < f by have := left_into hk hs; omega)
    obtain ⟨ad, A4, c4, A5, c5, e5, x0, x1, x2, x3, x4, x5, l4, g4, l5, g5⟩ := at_T30 HC.out (k : Int) (by omega) (by omega)
    rw [rd30 hk] at x0 x1 x2 x3 x4 x5 l4 g4 l5 g5
    rw [Int.toNat_natCast] at x0 x1 x2 x3 x4 x5
    subst e5
    have hE5 := hx.2.2.2.2.2
    generalize (l[k]).f5 = es at x5 l5 g5 HR hE5
    have HE5 := hide hE5.1
    have hl5 : es.length ≤ 140737488355328 := by have := hE5.2; omega
    have G5 := hide g5
    have X5 := hide x5
    clear x0 x1 x2 x3 x4 x5 l4 g4 g5 hx hE5 hgd hs hf
    obtain ⟨⟨v, hb, hown⟩, hseen, hlt, hge, hbel⟩ := hP
    have p1 := hb.cell 1
    have s1 := hseen.cellAt k (by omega)
    rw [show (seenL l.length st.2)[k]? = some (.bool (st.2 (k : Int))) by simp [seenL, hk]] at s1
    have s2 := hseen.frozenAt k
    have o1 : (0 : Int) ≤ (k : Int) := by omega
    have o2 : (k : Int) < (l.length : Int) := by omega
    have HM := hide (PP.mark (k := k) ⟨⟨v, hb, hown⟩, hseen, hlt, hge, hbel⟩ hk)
    have p1' : W.cell? ⟨bp, 1, none⟩ = some (.slice (some ⟨bs, 0, none⟩) l.length l.length) := p1
    clear hb hown hseen hlt hge hbel p1
    go_enter Try.func32, Try.ntmps32
    go_upto_region 1 with (fail)
    generalize hW : W.setCell ⟨bs, k, none⟩ (.bool true) = W0 at HM
    clear hW p1' s1 s2
    go_wp2
    go_loopw [6] (fun i wr => ∃ (j : Nat) (sj : St), j ≤ es.length ∧ i = .int .i64 j ∧ Hid (slotsR (dnR l f) l ahead (es.drop j) sj = slotsR (dnR l f) l ahead es (into st k)) ∧ Hid (left l sj.2 < f) ∧ Hid (PP w bp bs (some ad) l.length c sj wr)) (fun i _ => es.length - (intOf i).toNat)
    case atStart => exact ⟨0, into st k, by omega, rfl, hide (by rw [List.drop_zero]), HLF, HM⟩
    case round =>
      obtain ⟨j, sj, hj, rfl, HT, HLJ, HD⟩ := hrel
      obtain ⟨⟨v, hb, hown⟩, hseen, hlt, hge, hbel⟩ := HD.out
      have hbp := hb.lt
      have p0 : wr.cell? ⟨bp, 0, none⟩ = some (.slice (some ad) l.length c) := hb.cell 0
      have p1 : wr.cell? ⟨bp, 1, none⟩ = some (.slice (some ⟨bs, 0, none⟩) l.length l.length) := hb.cell 1
      have p2 : wr.cell? ⟨bp, 2, none⟩ = some v := hb.cell 2
      have p3 := hb.frozen 2
      obtain ⟨A6, c6, rfl⟩ := own_slice hown
      have x5 := (hbel.cell (World.block_lt_of_cell? w _ X5.out)).trans X5.out
      have HBEL := hide hbel
      have HB := hide hb
      have HOWN := hide hown
      clear hb hown hseen hbel
      by_cases hjl : j < es.length
      · have he := HE5.out _ (List.getElem_mem hjl)
        obtain ⟨ae, e6, u0, u1⟩ := at_T32 (Kd.C_below G5.out HBEL.out) (j : Int) (by omega) (by omega)
        rw [rd32 hjl] at u0 u1
        rw [Int.toNat_natCast] at u0 u1
        subst e6
        have q1 : (0 : Int) ≤ (j : Int) := by omega
        have q2 : (j : Int) < (es.length : Int) := by omega
        by_cases hful : sj.1.length < 10000
        · have hful' : (sj.1.length : Int) < 10000 := by omega
          have HNS := hide (show (nextS ahead es[j].f1).size = ahead.size + 1 + (es[j].f1).size by unfold nextS; rw [ByteArray.size_append, ByteArray.size_append]; rfl)
          have q4 : ((es[j].f1).size : Int) ≤ 140737488355328 := by have := he.2; omega
          have q5 : (ahead.size : Int) ≤ 500 := by omega
          by_cases hz : es[j].f0 = 0
          · have HS := hide (slotsR_skip (rec := dnR l f) (l := l) (a := ahead) (st := sj) hjl hful (.inl hz))
            have e1 := (show (es[j].f0 == 0) = true by simpa using hz)
            generalize es[j].f1 = nm at u1 q4
            generalize es[j].f0 = ino at u0 e1
            clear hz HNS he
            go_wp2
            go_roundw
            case rel => exact ⟨j + 1, sj, by omega, by go_num, hide (HS.out.symm.trans HT.out), HLJ, hide (HD.out.alloc _)⟩
            case measure => simp [intOf]; omega
          · have e1 := (show (es[j].f0 == 0) = false by simpa using hz)
            by_cases hbig : 500 < (nextS ahead es[j].f1).size
            · have HS := hide (slotsR_skip (rec := dnR l f) (l := l) (a := ahead) (st := sj) hjl hful (.inr hbig))
              have q7 : (500 : Int) < (ahead.size : Int) + 1 + ((es[j].f1).size : Int) := by have := HNS.out; omega
              generalize es[j].f1 = nm at u1 q4 q7
              generalize es[j].f0 = ino at u0 e1
              clear hz hbig HNS he
              go_wp2
              go_roundw
              case rel => exact ⟨j + 1, sj, by omega, by go_num, hide (HS.out.symm.trans HT.out), HLJ, hide (HD.out.alloc _)⟩
              case measure => simp [intOf]; omega
            · have hnd : ¬ (es[j].f0 = 0 ∨ 500 < (nextS ahead es[j].f1).size) := fun h => h.elim hz hbig
              have q7 : (ahead.size : Int) + 1 + ((es[j].f1).size : Int) ≤ 500 := by have := HNS.out; omega
              have q8 := HNS.out
              have HNO := hide (slotsR_none (rec := dnR l f) (l := l) (a := ahead) (st := sj) hjl hful hnd)
              have HSO := hide (slotsR_some (rec := dnR l f) (l := l) (a := ahead) (st := sj) hjl hful hnd)
              have HNX := hide (show nextS ahead es[j].f1 = ahead ++ (⟨#[47]⟩ : ByteArray) ++ es[j].f1 from rfl)
              have hwf := he.1
              generalize nextS ahead es[j].f1 = s at HNO HSO HNX q8
              generalize es[j].f1 = nm at u1 q4 q7 q8 HNX
              generalize es[j].f0 = ino at u0 hwf e1 HNO HSO
              clear hz hbig hnd HNS he
              have q3 : ((⟨#[47]⟩ : ByteArray).size : Int) = 1 := rfl
              have q6 : ((ahead ++ (⟨#[47]⟩ : ByteArray)).size : Int) ≤ 501 := by rw [ByteArray.size_append]; omega
              go_upto_region 7 with (fail)
              have h0 : (wr.alloc (.cells #[.int .i64 ino, .string nm] 32)).heap.size = wr.heap.size + 1 := by simp
              have hbx : Blk (wr.alloc (.cells #[.int .i64 ino, .string nm] 32)) wr.heap.size #[.int .i64 ino, .string nm] 32 := Blk.new _ _ _
              have HP1 := HD.out.alloc (.cells #[.int .i64 ino, .string nm] 32)
              have hb1 := HB.out.alloc (.cells #[.int .i64 ino, .string nm] 32)
              have hw1 := HOWN.out.alloc (.cells #[.int .i64 ino, .string nm] 32)
              have t0 : (wr.alloc (.cells #[.int .i64 ino, .string nm] 32)).cell? ⟨wr.heap.size, 0, none⟩ = some (.int .i64 ino) := hbx.cell 0
              have t1 : (wr.alloc (.cells #[.int .i64 ino, .string nm] 32)).cell? ⟨wr.heap.size, 1, none⟩ = some (.string nm) := hbx.cell 1
              generalize wr.alloc (.cells #[.int .i64 ino, .string nm] 32) = W1 at h0 hbx HP1 hb1 hw1 t0 t1 ⊢
              generalize hbb : wr.heap.size = bb at h0 hbx t0 t1 hbp ⊢
              have hbp1 : bp ≠ bb := by omega
              clear hbb u0 u1 p0 p1 p2 p3 x5 h0
              have p0 : W1.cell? ⟨bp, 0, none⟩ = some (.slice (some ad) l.length c) := hb1.cell 0
              have p1 : W1.cell? ⟨bp, 1, none⟩ = some (.slice (some ⟨bs, 0, none⟩) l.length l.length) := hb1.cell 1
              have p2 : W1.cell? ⟨bp, 2, none⟩ = some (.slice A6 sj.1.length c6) := hb1.cell 2
              have HX := hide hbx
              have HP := hide HP1
              have HB1 := hide hb1
              have HW1 := hide hw1
              have hs1 := (show W1.frozen? ⟨bp, 2, none⟩ = false from hb1.frozen 2)
              have hbpW : bp < W1.heap.size := hb1.lt
              clear hbx HP1 hb1 hw1 HD HB HOWN HBEL
              obtain ⟨i0, hi, hz0, hz1, hz2⟩ := info_parts info9p
              go_upto_region 8 with (at_builtin; go_must (refine wpList_append_own _ rfl _ _ 44 rfl (bp + 1) 9 i0 (.string ⟨#[]⟩) 1 16 Try.underlying44 hi hz0 hz1 hz2 rfl (by decide) _ _ _ rfl (HW1.out.alloc _) ⟨W1.heap.size, 0, none⟩ 1 1 [.string (ahead ++ (⟨#[47]⟩ : ByteArray) ++ nm)] rfl rfl (cell_one_new _ _ _) (by simp [Value.oneCell']) (by unfold maxLen; omega) (by omega) (by simp; omega) ?_); intro v' W2 hown' hgrow _; obtain ⟨A7, c7, rfl⟩ := own_slice hown'; obtain ⟨hb2, HP2⟩ := HP.out.push HB1.out HW1.out hown' hgrow; have hx2 := ((HX.out.alloc _).kept hgrow (HX.out.not_row (by decide) HW1.out)).other (a := ⟨bp, 2, none⟩) (Ne.symm hbp1) (.slice A7 (sj.1.length + 1) c7); have r1 : W2.cell? ⟨bp, 2, none⟩ = some (.slice A6 sj.1.length c6) := hb2.cell 2; have r2 := hb2.frozen 2; have hb3 := hb2.set 2 (.slice A7 (sj.1.length + 1) c7); clear p0 p1 p2 hs1)
              rw [← HNX.out] at HP2
              rw [← HNX.out]
              have hbel3 := HP2.2.2.2.2
              have HP3 := hide HP2
              clear HP2 hown' hgrow hb2
              generalize W2.setCell ⟨bp, 2, none⟩ (.slice A7 (sj.1.length + 1) c7) = W3 at HP3 hx2 hb3 hbel3 ⊢
              have p0 : W3.cell? ⟨bp, 0, none⟩ = some (.slice (some ad) l.length c) := hb3.cell 0
              have p1 : W3.cell? ⟨bp, 1, none⟩ = some (.slice (some ⟨bs, 0, none⟩) l.length l.length) := hb3.cell 1
              have t0 : W3.cell? ⟨bb, 0, none⟩ = some (.int .i64 ino) := hx2.cell 0
              have HBEL := hide hbel3
              clear hb3 hx2 t1 hbel3 r1 r2
              cases hq : atF l ino with
              | none =>
                have HA := hide (fun V hb => hq ▸ HI.out V ino hb)
                have HT3 := hide ((HNO.out hq).symm.trans HT.out)
                simp only [Option.getD_none] at HA
                clear hq
                go_wp2
                go_quiet ((go_at_call 15; exact Calls.quiet_of (HA.out _ (below_drewN' HBEL.out _))))
                go_wp2
                go_roundw
                case rel => exact ⟨j + 1, (sj.1 ++ [s], sj.2), by omega, by go_num, HT3, HLJ, hide (HP3.out.drewN _)⟩
                case measure => simp [intOf]; omega
              | some v =>
                obtain ⟨i, rfl, hil, _⟩ := atF_lt hq
                have HA := hide (fun V hb => hq ▸ HI.out V ino hb)
                have HT3 := hide ((HSO.out i hq).symm.trans HT.out)
                simp only [Option.getD_some] at HA
                clear hq
                have hgd : l.getD i z30 = l[i] := by simp [hil]
                rw [hgd] at HT3
                obtain ⟨ad', A4', c4', A5', c5', e5', y0, y1, y2, y3, y4, y5, m4, n4, m5, n5⟩ := at_T30 (Kd.C_below HC.out HBEL.out) (i : Int) (by omega) (by omega)
                injection e5' with e5'
                subst e5'
                rw [rd30 hil] at y1
                rw [Int.toNat_natCast] at y1
                clear y0 y2 y3 y4 y5 m4 n4 m5 n5 hgd
                have q9 : (0 : Int) ≤ (i : Int) := by omega
                have q10 : (i : Int) < (l.length : Int) := by omega
                have hseen3 := HP3.out.2.1
                have s1 := hseen3.cellAt i (by omega)
                rw [show (seenL l.length sj.2)[i]? = some (.bool (sj.2 (i : Int))) by simp [seenL, hil]] at s1
                clear hseen3
                by_cases hkind : (l[i]).f1 = 2
                · have k1 := (show ((l[i]).f1 == 2) = true by simpa using hkind)
                  by_cases hvis : sj.2 (i : Int) = true
                  · rw [hvis] at s1
                    have HT4 := hide (show slotsR (dnR l f) l ahead (es.drop (j + 1)) (sj.1 ++ [s], sj.2) = slotsR (dnR l f) l ahead es (into st k) by have := HT3.out; rw [if_neg (by simp [hvis])] at this; exact this)
                    generalize (l[i]).f1 = kd at y1 k1
                    clear hkind hvis HT3
                    go_wp2
                    go_quiet ((go_at_call 15; exact Calls.quiet_of (HA.out _ (below_drewN' HBEL.out _))))
                    go_wp2
                    go_roundw
                    case rel => exact ⟨j + 1, (sj.1 ++ [s], sj.2), by omega, by go_num, HT4, HLJ, hide (HP3.out.drewN _)⟩
                    case measure => simp [intOf]; omega
                  · have hvis' := bool_cases' hvis
                    rw [hvis'] at s1
                    have HT4 := hide (show slotsR (dnR l f) l ahead (es.drop (j + 1)) (dnR l f i s (sj.1 ++ [s], sj.2)) = slotsR (dnR l f) l ahead es (into st k) by have := HT3.out; rw [if_pos ⟨hkind, hvis'⟩] at this; exact this)
                    generalize (l[i]).f1 = kd at y1 k1
                    have HCL := hide (fun q => IH.out i s (sj.1 ++ [s], sj.2) (W3.drewN q) hil (by rw [q8]; omega) hvis' HLJ.out (HP3.out.drewN q))
                    clear hkind hvis HT3 hvis'
                    go_wp2
                    go_quiet ((go_at_call 15; exact Calls.quiet_of (HA.out _ (below_drewN' HBEL.out _))))
                    go_wp2_with fail
                    refine (HCL.out _).mono ?_
                    rintro e W5 ⟨rfl, hP5⟩
                    have HP5 := hide hP5
                    clear hP5
                    go_wp2_with fail
                    go_roundw
                    case rel => exact ⟨j + 1, _, by omega, by go_num, HT4, hide (Nat.lt_of_le_of_lt (left_le (fun x hx => dnR_mono l f i s (sj.1 ++ [s], sj.2) x hx)) HLJ.out), HP5⟩
                    case measure => simp [intOf]; omega
                · have k1 := (show ((l[i]).f1 == 2) = false by simpa using hkind)
                  have HT4 := hide (show slotsR (dnR l f) l ahead (es.drop (j + 1)) (sj.1 ++ [s], sj.2) = slotsR (dnR l f) l ahead es (into st k) by have := HT3.out; rw [if_neg (by simp [hkind])] at this; exact this)
                  generalize (l[i]).f1 = kd at y1 k1
                  clear hkind HT3 s1
                  go_wp2
                  go_quiet ((go_at_call 15; exact Calls.quiet_of (HA.out _ (below_drewN' HBEL.out _))))
                  go_wp2
                  go_roundw
                  case rel => exact ⟨j + 1, (sj.1 ++ [s], sj.2), by omega, by go_num, HT4, HLJ, hide (HP3.out.drewN _)⟩
                  case measure => simp [intOf]; omega
        · have HS := hide (slotsR_full (rec := dnR l f) (l := l) (a := ahead) (st := sj) (es.drop j) (by omega))
          have hful' : (10000 : Int) ≤ (sj.1.length : Int) := by omega
          clear u0 u1 he
          go_wp2
          go_end0
          rw [HR.out, ← HT.out, HS.out]
          exact ⟨by first | rfl | simp, HD.out⟩
      · have HS := hide (show slotsR (dnR l f) l ahead es (into st k) = sj by rw [← HT.out, List.drop_of_length_le (by omega)]; rfl)
        have q2 : (es.length : Int) ≤ (j : Int) := by omega
        go_wp2
        go_end0
        rw [HR.out, HS.out]
        exact ⟨by first | rfl | simp, HD.out⟩
end Go.Proofs.Ytnmlmbbacicojaa
namespace Go.Proofs.Ytnmlmbbacicojaa
set_option linter.unusedVariables false
set_option linter.unusedSimpArgs false
open Go.RowKit Go.Maps Go.Proofs.YtnmlmbbacicojaaW.PrintWords Go.Proofs.YtnmlmbbacicojaaW.PrintLast Go.Proofs.YtnmlmbbacicojaaW.PrintMore Go.Proofs.Ytnmlmbbacicojaa.PWalkSame

theorem info4p : (Try.prog.info? 4).map (fun i => (i.zero, i.size, i.bytes)) = some (some (.bool false), 1, 1) := by kernel_rfl
set_option maxHeartbeats 4000000 in
set_option maxRecDepth 100000 in
theorem refPaths_c (l : List S30) (A : Option Addr) (N c : Nat) (w : World) (hN : l.length = N) (hNc : N ≤ c) (hok : NodesOk l) (hC : Kd.C k30 w A N l) :
    Calls Try.prog 20 #[.slice A N c] w fun e w' => ∃ v, e = .returned v ∧ w'.ownsRow w.heap.size 9 1 v (pathsF l).length ((pathsF l).map Value.string) ∧ Below w.heap.size w w' := by
  have hr47 := reach47
  have hll : l.length ≤ 140737488355328 := by have := hok.2; omega
  subst hN
  have HI := hide (fun (V : World) (x : Int) (hb : Below w.heap.size w V) => refAt_c l A l.length c x V rfl hNc hll (Kd.C_below hC hb))
  have HD := hide (fun bp bs => downR_c (w := w) l A l.length c bp bs rfl hNc hok hC)
  have HC := hide hC
  clear hC hok
  cases hq : atF l 1 with
  | none =>
    have HA := hide (fun V hb => hq ▸ HI.out V 1 hb)
    have HF := hide (show pathsF l = [] by unfold pathsF; rw [hq])
    clear hq
    go_enter Try.func20, Try.ntmps20
    go_wp2_with (go_at_call 15; refine (HA.out _ (Below.refl _ _)).mono ?_; rintro e w1 ⟨rfl, q, rfl⟩)
    go_ret
    rw [HF.out]
    exact ⟨_, rfl, World.ownsRow_nil _ _ _ _, below_drewN' (Below.refl _ _) q⟩
  | some kk =>
    obtain ⟨k, rfl, hk, _⟩ := atF_lt hq
    have HA := hide (fun V hb => hq ▸ HI.out V 1 hb)
    have HF := hide (show pathsF l = if (l[k]).f1 = 2 then (dnR l (l.length + 1) k ⟨#[]⟩ ([], fun _ => false)).1 else [] by
      rw [← paths_eq]; unfold pathsR; rw [hq]; simp [hk])
    clear hq
    obtain ⟨ad, A4, c4, A5, c5, e5, x0, x1, x2, x3, x4, x5, l4, g4, l5, g5⟩ := at_T30 HC.out (k : Int) (by omega) (by omega)
    rw [rd30 hk] at x1
    rw [Int.toNat_natCast] at x1
    subst e5
    have o1 : (0 : Int) ≤ (k : Int) := by omega
    have o2 : (k : Int) < (l.length : Int) := by omega
    clear x0 x2 x3 x4 x5 l4 g4 l5 g5
    by_cases hkind : (l[k]).f1 = 2
    · have n1 := (show ((l[k]).f1 == 2) = true ∧ ((l[k]).f1 != 2) = false by simp [hkind])
      rw [if_pos hkind] at HF
      generalize (l[k]).f1 = kd at x1 n1
      obtain ⟨n1, n2⟩ := n1
      clear hkind
      obtain ⟨i0, hi, hz0, hz1, hz2⟩ := info_parts info4p
      have hmk : ∀ (V : World), (Instr.makeSlice 67 (.int .i64 (l.length : Int)) (.int .i64 (l.length : Int))).run Try.prog V = .ok (.slice (some ⟨V.heap.size, 0, none⟩) l.length l.length) (V.alloc (.cells (madeCells #[.bool false] l.length) 4)) := fun V => by
        have := run_make (P := Try.prog) V 67 4 i0 (.bool false) Try.underlying67 hi hz0 .i64 .i64 (l.length : Int) (l.length : Int) (by omega) (by omega) (by rw [hz2]; omega) (by omega)
        rw [hz1] at this
        simpa [Value.cells] using this
      clear hi hz0 hz1 hz2
      go_enter Try.func20, Try.ntmps20
      go_upto_region 5 with (go_at_call 15; refine (HA.out _ (Below.refl _ _)).mono ?_; rintro e w1 ⟨rfl, q, rfl⟩)
      have HPP := hide (show PP w (w.heap.size + 1) w.heap.size (some ad) l.length c ([], fun _ => false) (((w.drewN q).alloc (Obj.cells (madeCells #[Value.bool false] l.length) 4)).alloc (Obj.cells #[Value.slice (some ad) l.length c, Value.slice (some { block := w.heap.size, off := 0 }) l.length l.length, Value.slice none 0 0] 69)) by
        have hs : ((w.drewN q).alloc (Obj.cells (madeCells #[Value.bool false] l.length) 4)).heap.size = w.heap.size + 1 := by simp
        have h1 : ((w.drewN q).alloc (Obj.cells (madeCells #[Value.bool false] l.length) 4)).ownsRow w.heap.size 4 1 (.slice (some ⟨w.heap.size, 0, none⟩) l.length l.length) l.length (madeCells #[Value.bool false] l.length).toList :=
          World.ownsRow_lit (base := w.heap.size) (e := 4) (size := 1) (w.drewN q) (madeCells #[Value.bool false] l.length) l.length (Nat.le_refl _) (by unfold maxLen; omega) (by rw [size_madeCells]; omega)
        rw [toList_madeCells_one] at h1
        have h2 : seenL l.length (fun _ => false) = List.replicate l.length (.bool false) := by
          refine List.ext_getElem (by simp [seenL]) fun i h1 h2 => by simp [seenL]
        refine ⟨⟨_, ?_, World.ownsRow_nil _ _ _ _⟩, ?_, by omega, Nat.le_refl _, ?_⟩
        · rw [← hs]; exact Blk.new _ _ _
        · rw [h2]; exact h1.alloc _
        · exact ((below_drewN' (Below.refl _ w) q).alloc (Nat.le_refl _) _).alloc (by rw [hs]; exact Nat.le_succ _) _)
      have HCL := hide (fun V hp => HD.out (w.heap.size + 1) w.heap.size (l.length + 1) k ⟨#[]⟩ ([], fun _ => false) V hk (by show 0 ≤ 500; omega) rfl (by rw [left_all]; omega) hp)
      generalize (((w.drewN q).alloc (Obj.cells (madeCells #[Value.bool false] l.length) 4)).alloc (Obj.cells #[Value.slice (some ad) l.length c, Value.slice (some { block := w.heap.size, off := 0 }) l.length l.length, Value.slice none 0 0] 69)) = W1 at HPP ⊢
      clear x1 hmk n1 n2
      go_wp2_with fail
      refine (HCL.out _ HPP.out).mono ?_
      rintro e W5 ⟨rfl, ⟨v, hb, hown⟩, _, _, _, hbel⟩
      have p2 : W5.cell? ⟨w.heap.size + 1, 2, none⟩ = some v := hb.cell 2
      obtain ⟨A7, c7, rfl⟩ := own_slice hown
      have H := hide (And.intro hown hbel)
      clear hb hown hbel
      go_wp2
      go_ret
      exact ⟨_, rfl, by rw [HF.out]; exact own_less H.out.1 (by omega), H.out.2⟩
    · have n1 := (show ((l[k]).f1 == 2) = false ∧ ((l[k]).f1 != 2) = true by simp [hkind])
      rw [if_neg hkind] at HF
      generalize (l[k]).f1 = kd at x1 n1
      obtain ⟨n1, n2⟩ := n1
      clear hkind
      go_enter Try.func20, Try.ntmps20
      go_wp2_with (go_at_call 15; refine (HA.out _ (Below.refl _ _)).mono ?_; rintro e w1 ⟨rfl, q, rfl⟩)
      go_ret
      rw [HF.out]
      exact ⟨_, rfl, World.ownsRow_nil _ _ _ _, below_drewN' (Below.refl _ _) q⟩
end Go.Proofs.Ytnmlmbbacicojaa
namespace Go.Proofs.Ytnmlmbbacicojaa
set_option linter.unusedVariables false
set_option linter.unusedSimpArgs false
open Go.RowKit Go.Shelf Go.Maps Go.Proofs.YtnmlmbbacicojaaW.PrintWords Go.Proofs.YtnmlmbbacicojaaW.PrintLast Go.Proofs.YtnmlmbbacicojaaW.PrintMore Go.Proofs.Ytnmlmbbacicojaa.PWalkSame

def treeL : List S30 := [⟨1, 2, 0, 0, [], [⟨5, ⟨#[97]⟩⟩]⟩, ⟨5, 2, 0, 0, [], [⟨0, ⟨#[]⟩⟩, ⟨9, ⟨#[98]⟩⟩]⟩, ⟨9, 1, 0, 0, [], []⟩]
theorem tree_paths : pathsF treeL = [⟨#[47, 97]⟩, ⟨#[47, 97, 47, 98]⟩] := by decide +kernel
theorem tree_ok : NodesOk treeL := by
  refine ⟨fun x hx => ?_, by decide⟩
  simp only [treeL, List.mem_cons, List.not_mem_nil, or_false] at hx
  rcases hx with rfl | rfl | rfl
  · exact ⟨by decide, by decide, by decide, by decide, ⟨by simp, by decide⟩, ⟨by simp [EntOk]; decide, by decide⟩⟩
  · exact ⟨by decide, by decide, by decide, by decide, ⟨by simp, by decide⟩, ⟨by simp [EntOk]; decide, by decide⟩⟩
  · exact ⟨by decide, by decide, by decide, by decide, ⟨by simp, by decide⟩, ⟨by simp, by decide⟩⟩
theorem tree_c (w : World) : Calls Try.prog 21 #[] w fun e w' => ∃ A c, e = .returned (.slice A 3 c) ∧ 3 ≤ c ∧ Kd.C k30 w' A 3 treeL ∧ Below w.heap.size w w' := by
  refine (lockgatelaw20_Tree.calls treeL w rfl).mono ?_
  rintro e w' ⟨v, rfl, hN, hb⟩
  obtain ⟨A, c, rfl, hl, hC⟩ := Kd.N_reads hN
  exact ⟨A, c, rfl, hl, hC, hb⟩
/-- a row of strings that was made, its cells -/
theorem rows_cells {w : World} {base n : Nat} {v : Value} {xs : List ByteArray} (h : w.ownsRow base 9 1 v n (xs.map Value.string)) (hn : xs.length = n) (h0 : 0 < n) : ∃ g c, v = .slice (some ⟨g, 0, none⟩) n c ∧ ∀ i (hi : i < xs.length), w.cell? ⟨g, i, none⟩ = some (.string xs[i]) := by
  obtain ⟨g, cap, rfl, _, _⟩ := h.form h0
  refine ⟨g, cap, rfl, fun i hi => ?_⟩
  rw [h.cellAt i (by omega), List.getElem?_map, List.getElem?_eq_getElem hi]
  rfl
theorem alive_c (w : World) : Calls Try.prog 9 #[] w fun e w' => e = .returned (.bool true) ∧ Below w.heap.size w w' := by
  have HP := hide (fun (A : Option Addr) (c : Nat) (W : World) (hc : 3 ≤ c) (hC : Kd.C k30 W A 3 treeL) => walkPaths_c treeL A 3 c W rfl hc tree_ok hC)
  have HQ := hide tree_paths
  go_enter Try.func9, Try.ntmps9
  go_wp2_with (first | (go_at_call 21; refine (tree_c _).mono ?_; rintro e w1 ⟨A, c, rfl, hc, hC, hb⟩; have HC := hide hC; clear hC) | (go_at_call 19; refine (HP.out _ _ _ hc HC.out).mono ?_; rintro e w2 ⟨v, rfl, hown, hb2⟩; rw [HQ.out] at hown; obtain ⟨g, c2, rfl, hcell⟩ := rows_cells (n := 2) hown rfl (by omega); have c0 := hcell 0 (by decide); have c1 := hcell 1 (by decide); have e0 : ([⟨#[47, 97]⟩, ⟨#[47, 97, 47, 98]⟩] : List ByteArray).length = 2 := rfl; clear hown hcell; dsimp only [List.getElem_cons_zero, List.getElem_cons_succ] at c0 c1))
  go_ret
  exact ⟨by first | rfl | simp, hb.trans (hb2.mono hb.size)⟩
end Go.Proofs.Ytnmlmbbacicojaa
namespace Go.Proofs.Ytnmlmbbacicojaa
set_option linter.unusedVariables false
set_option linter.unusedSimpArgs false
open Go.RowKit Go.Shelf Go.Maps Go.Proofs.YtnmlmbbacicojaaW.PrintWords Go.Proofs.YtnmlmbbacicojaaW.PrintLast Go.Proofs.YtnmlmbbacicojaaW.PrintMore Go.Proofs.Ytnmlmbbacicojaa.PWalkSame

theorem paths_len (l : List S30) : (pathsF l).length ≤ 10000 := by
  unfold pathsF
  cases h : atF l 1 with
  | none => simp
  | some k =>
    obtain ⟨i, rfl, hi, _⟩ := atF_lt h
    simp only [Int.toNat_natCast]
    by_cases hk : (l.getD i z30).f1 = 2
    · have := dn_rl l (l.length + 1) i ⟨#[]⟩ ([], fun _ => false) (by simp) rfl hk
      rw [← this.1]; exact this.2.1
    · unfold dn; rw [if_pos (.inr hk)]; simp
theorem int_refl (a : Int) : (a == a) = true ∧ (a != a) = false := by simp
theorem num_c (n : Int) (w : World) : Calls Try.prog 18 #[.int .i64 n] w fun e w' => e = .returned (.int .i64 n) ∧ w = w' := by
  go_enter Try.func18, Try.ntmps18
  go_wp2
  go_ret
  exact ⟨rfl, rfl⟩
theorem own_below {W W' : World} {base : Nat} {e : TypeId} {size n : Nat} {v : Value} {xs : List Value} (h : W.ownsRow base e size v n xs) (hb : Below W.heap.size W W') : W'.ownsRow base e size v n xs := by
  refine ⟨h.1, ?_⟩
  rcases h.2 with h2 | ⟨g, cap, cur, h1, h2, h3, h4⟩
  · exact .inl h2
  · exact .inr ⟨g, cap, cur, h1, h2, (hb.block g (Array.getElem?_eq_some_iff.1 h3).1).trans h3, h4⟩
set_option maxHeartbeats 4000000 in
set_option maxRecDepth 100000 in
theorem WalkFinds_walk (w : World) (A : Option Addr) (N c : Nat) (xs : List S30) (hn : xs.length = N) (hc : N ≤ c) (hok : NodesOk xs) (hC : Kd.C k30 w A N xs) (s : ByteArray) (hs : s.size ≤ maxLen) :
    Calls Try.prog 6 #[.slice A N c, .string s] w fun e w' => e = .returned (.bool true) ∧ Below w.heap.size w w' := by
  subst hn
  unfold maxLen at hs
  have HX := hide (fun W (hb : Below w.heap.size w W) => big_c A xs.length c xs hok W rfl (Kd.C_below hC hb) hc)
  have H1 := hide (fun (hs2 : s.size ≤ 2000) W (hb : Below w.heap.size w W) => find_c xs A xs.length c s W rfl hc hok (Kd.C_below hC hb) (by omega))
  have H2 := hide (fun (hs2 : s.size ≤ 2000) W (hb : Below w.heap.size w W) => refFind_c xs A xs.length c s W rfl hc hok (Kd.C_below hC hb) (by omega))
  have H3 := hide (fun W (hb : Below w.heap.size w W) => walkPaths_c xs A xs.length c W rfl hc hok (Kd.C_below hC hb))
  have H4 := hide (fun W (hb : Below w.heap.size w W) => refPaths_c xs A xs.length c W rfl hc hok (Kd.C_below hC hb))
  have hp := paths_len xs
  generalize bigB xs hok = bx at HX
  generalize findF xs s = fr at H1 H2
  generalize pathsF xs = ps at H3 H4 hp
  clear hok hC
  obtain ⟨f1, f1'⟩ := int_refl fr.1
  obtain ⟨f2, f2'⟩ := int_refl fr.2
  cases bx with
  | true =>
    go_enter Try.func6, Try.ntmps6
    go_wp2_with (first | (go_at_call 9; refine (alive_c _).mono ?_; rintro e w1 ⟨rfl, hb⟩) | (go_at_call 10; refine (HX.out _ hb).mono ?_; rintro e w2 ⟨rfl, hb2⟩))
    go_ret
    exact ⟨by first | rfl | simp, hb.trans (hb2.mono hb.size)⟩
  | false =>
    by_cases hbig : 2000 < s.size
    · have hb' : (2000 : Int) < (s.size : Int) := by omega
      go_enter Try.func6, Try.ntmps6
      go_wp2_with (first | (go_at_call 9; refine (alive_c _).mono ?_; rintro e w1 ⟨rfl, hb⟩) | (go_at_call 10; refine (HX.out _ hb).mono ?_; rintro e w2 ⟨rfl, hb2⟩))
      go_ret
      exact ⟨by first | rfl | simp, hb.trans (hb2.mono hb.size)⟩
    · have hb' : (s.size : Int) ≤ 2000 := by omega
      go_enter Try.func6, Try.ntmps6
      go_upto_region 9 with (first | (go_at_call 9; refine (alive_c _).mono ?_; rintro e w1 ⟨rfl, hb⟩) | (go_at_call 10; refine (HX.out _ hb).mono ?_; rintro e w2 ⟨rfl, hb2⟩; have hb2' := hb.trans (hb2.mono hb.size)) | (go_at_call 16; refine (H1.out (by omega) _ hb2').mono ?_; rintro e w3 ⟨rfl, hb3⟩; have hb3' := hb2'.trans (hb3.mono hb2'.size)) | (go_at_call 17; refine (H2.out (by omega) _ hb3').mono ?_; rintro e w4 ⟨rfl, hb4⟩; have hb4' := hb3'.trans (hb4.mono hb3'.size)) | (go_at_call 18; refine (num_c _ _).mono ?_; rintro e w5 ⟨rfl, rfl⟩))
      clear hb hb2 hb3 hb4 hb2' hb3'
      go_upto_region 11 with (first | (go_at_call 19; refine (H3.out _ hb4').mono ?_; rintro e w6 ⟨v6, rfl, hown6, hb6⟩; have hb6' := hb4'.trans (hb6.mono hb4'.size)) | (go_at_call 20; refine (H4.out _ hb6').mono ?_; rintro e w7 ⟨v7, rfl, hown7, hb7⟩; have hb7' := hb6'.trans (hb7.mono hb6'.size)))
      have hown6' := own_below hown6 hb7
      obtain ⟨A6, c6, rfl⟩ := own_slice hown6
      obtain ⟨A7, c7, rfl⟩ := own_slice hown7
      have HO6 := hide hown6'
      have HO7 := hide hown7
      have HB := hide hb7'
      clear hown6 hown7 hb7 hb6 hb6' hb4' hown6' hb7'
      go_wp2
      go_loopw [13] (fun i wr => ∃ k : Nat, k ≤ ps.length ∧ i = .int .i64 k ∧ ∃ q, wr = w7.drewN q) (fun i _ => ps.length - (intOf i).toNat)
      case atStart => exact ⟨0, by omega, rfl, 0, rfl⟩
      case round =>
        obtain ⟨k, hk, rfl, q, rfl⟩ := hrel
        by_cases hlt : k < ps.length
        · obtain ⟨g6, cc6, e6, hc6⟩ := rows_cells HO6.out rfl (by omega)
          obtain ⟨g7, cc7, e7, hc7⟩ := rows_cells HO7.out rfl (by omega)
          injection e6 with e6 _ e6c
          injection e7 with e7 _ e7c
          subst e6 e7 e6c e7c
          have c6k : w7.cell? ⟨g6, k, none⟩ = some (.string ps[k]) := hc6 k hlt
          have c7k : w7.cell? ⟨g7, k, none⟩ = some (.string ps[k]) := hc7 k hlt
          clear hc6 hc7
          generalize ps[k] = p at c6k c7k
          have p1 : (p.toList == p.toList) = true := by simp
          have p2 : (p.toList != p.toList) = false := by simp
          have o1 : (0 : Int) ≤ (k : Int) := by omega
          have o2 : (k : Int) < (ps.length : Int) := by omega
          go_wp2
          go_quiet (fail)
          go_wp2
          go_roundw
          case rel => exact ⟨k + 1, by omega, by go_num, _, rfl⟩
          case measure => simp [intOf]; omega
        · have hge : (ps.length : Int) ≤ (k : Int) := by omega
          go_wp2
          go_ret
          exact ⟨by first | rfl | simp, below_drewN' HB.out q⟩
end Go.Proofs.Ytnmlmbbacicojaa
