/-
  The walk of (*walker).down, inside a range over a function. Condition: what the yield function does, by HY.
-/
import Derived.Test.YtnmlmbbacicojaaK
import Derived.Sort.QuietIn
namespace Go.Proofs.Ytnmlmbbacicojaa
set_option linter.unusedVariables false
set_option linter.unusedSimpArgs false
open Go.RowKit Go.Maps Go.Proofs.YtnmlmbbacicojaaW.PrintWords Go.Proofs.YtnmlmbbacicojaaW.PrintLast Go.Proofs.YtnmlmbbacicojaaW.PrintMore Go.Proofs.Ytnmlmbbacicojaa.PWalkSame

abbrev Sg := List ByteArray × ByteArray × World
/-- F: what the whole walk comes to; a walk that is stopped has come to it -/
def InP (n : Nat) (w : World) (F : List ByteArray) (s : Sg) (W : World) : Prop := ConsP n w s.1 W ∧ s.1.length ≤ 10000 ∧ KeepP n s.2.2 W ∧ s.2.1.size ≤ 500 ∧ (s.1.length = 10000 → s.1 = F)
def JnP (n : Nat) (w : World) (s : Sg) (W : World) : Prop := ConsP n w (s.1 ++ [s.2.1]) W ∧ s.1.length ≠ 10000 ∧ s.1.length ≤ 10000 ∧ KeepP n s.2.2 W
def JxP (n : Nat) (w : World) (F : List ByteArray) (s : Sg) (c : Code) (W : World) : Prop := s.1.length = 10000 ∧ s.1 = F ∧ ConsP n w s.1 W
def DownPost (n L : Nat) (rec : LoopState → Option Code → Loop) (w : World) (F : List ByteArray) (it : (Int → Bool) → World → Prop) (C : Code → Prop) (r : Bool × St) (e : Ending) (W' : World) : Prop :=
  (e = .returned (.bool true) ∧ r.1 = true ∧ ConsP n w r.2.1 W' ∧ r.2.1.length ≤ 10000 ∧ Ready L rec W' ∧ it r.2.2 W') ∨ (e = .returned (.bool false) ∧ r.1 = false ∧ ∃ s c, C c ∧ JxP n w F s c W' ∧ Stopped L rec c W')
def YieldP (n L : Nat) (rec : LoopState → Option Code → Loop) (w : World) (F : List ByteArray) (C : Code → Prop) : Prop :=
  ∀ s W, InP n w F s W → Ready L rec W → YieldAt Fence.wide 0 Try.prog (L + 1) #[.string s.2.1] W fun e W' =>
    (e = .returned (.bool true) ∧ JnP n w s W' ∧ Ready L rec W') ∨ (e = .returned (.bool false) ∧ ∃ c, C c ∧ JxP n w F s c W' ∧ Stopped L rec c W')

theorem wide_in {P : Program} {n : Nat} {f : FuncId} {args : Array Value} {w : World} {R : Ending → World → Prop} (h : CallsIn Fence.wide n P f args w R) : Fence.wide.fn f ∧ Fence.wide.depth = none ∧ CallsIn Fence.wide n P f args w R := ⟨trivial, rfl, h⟩
theorem int_ne' {a b : Int} (h : ¬ a = b) : (a == b) = false ∧ (a != b) = true := by simp [h]
set_option maxHeartbeats 4000000 in
set_option maxRecDepth 100000 in
theorem down_c {n L : Nat} {rec : LoopState → Option Code → Loop} {w : World} {F : List ByteArray} {C : Code → Prop} (hY : YieldP n L rec w F C) (l : List S30) (A : Option Addr) (N c bw ba bi : Nat) (hN : l.length = N) (hNc : N ≤ c) (hok : NodesOk l) (hC : Kd.C k30 w A N l) (hn : n = w.heap.size) (hL : n ≤ L) :
    ∀ (f k : Nat) (ahead : ByteArray) (st : St) (W : World), k < l.length → ahead.size ≤ 500 → left l st.2 < f → ConsP n w st.1 W → st.1.length ≤ 10000 → Ready L rec W → ItP l A N c n bw ba bi st.2 W → ((dn l f k ahead st).1 = false → (dn l f k ahead st).2.1 = F) →
      CallsIn Fence.wide 0 Try.prog 44 #[.pointer (some ⟨bw, 0, none⟩), .int .i64 k, .string ahead, .func (.yield (L + 1)) #[] #[]] W (DownPost n L rec w F (ItP l A N c n bw ba bi) C (dn l f k ahead st)) := by
  have hr47 := reach47
  have hll : l.length ≤ 140737488355328 := by have := hok.2; omega
  subst hN
  have HNN := hide hn
  clear hn
  intro f
  induction f with
  | zero => intro k ahead st W _ _ h; exact absurd h (by omega)
  | succ f ih =>
    intro k ahead st W hk ha hf hcons hlen hrdy hit hF
    have HFF := hide hF
    clear hF
    have IH := hide ih
    have HY := hide hY
    have HC := hide hC
    have HOK := hide hok
    clear ih hY hC hok
    obtain ⟨cw0, cw1, cw2⟩ := hit.cells
    obtain ⟨m, hlm, hib⟩ := hit.2.2.1
    have hlk := hib.look Try.underlying3 Try.underlying4 Try.underlying82 (zero4 _) (k : Int) (wfk (by omega))
    have HIT := hide hit
    have HCONS := hide hcons
    have HRDY := hide hrdy
    have HIB := hide hib
    clear hit hcons hrdy hib
    have hx := HOK.out.1 _ (List.getElem_mem hk)
    obtain ⟨ad, A4, c4, A5, c5, e5, x0, x1, x2, x3, x4, x5, l4, g4, l5, g5⟩ := at_T30 HC.out (k : Int) (by omega) (by omega)
    rw [rd30 hk] at x0 x1 x2 x3 x4 x5 l4 g4 l5 g5
    rw [Int.toNat_natCast] at x0 x1 x2 x3 x4 x5
    subst e5
    have hbel := HCONS.out.2
    rw [HNN.out] at hbel
    replace x1 := (hbel.cell (World.block_lt_of_cell? w _ x1)).trans x1
    have X5 := hide x5
    clear x5
    clear x0 x2 x3 x4 l4 g4
    have hgd : l.getD k z30 = l[k] := by simp [hk]
    have o1 : (0 : Int) ≤ (k : Int) := by omega
    have o2 : (k : Int) < (l.length : Int) := by omega
    have HBEL := hide hbel
    clear hbel
    by_cases hvis : st.2 (k : Int) = true
    · have HR := hide (show dn l (f + 1) k ahead st = (true, st) by unfold dn; rw [if_pos (.inl hvis)])
      rw [hvis] at hlk
      clear hvis hgd
      refine callsIn_of_wp Try.func44 rfl trivial ?_ rfl
      simp only [Try.ntmps44, List.size_toArray, List.length_cons, List.length_nil, Nat.reduceAdd, Nat.reduceSub, Array.replicate_succ, Array.replicate_zero, List.push_toArray, List.append_toArray, List.nil_append, List.cons_append]
      gi_wp2
      go_ret
      rw [HR.out]
      exact .inl ⟨by first | rfl | simp, rfl, HCONS.out, hlen, HRDY.out, HIT.out⟩
    · have hvis' : st.2 (k : Int) = false := by simpa using hvis
      rw [hvis'] at hlk
      by_cases hkind : (l[k]).f1 = 2
      · have HR := hide (show dn l (f + 1) k ahead st = slotsF (dn l f) l ahead (l[k]).f5 (into st k) by
          conv => lhs; unfold dn
          rw [if_neg (by rw [hgd]; simp [hvis', hkind]), hgd])
        have hlf : left l (into st k).2 < f := by have := left_into hk hvis'; omega
        have HLF := hide hlf
        rw [hkind] at x1
        have hn5 := hx.2.2.2.2.2
        have hE5 := fun e (he : e ∈ (l[k]).f5) => hn5.1 e he
        have hl5 : (l[k]).f5.length ≤ 140737488355328 := by have := hn5.2; omega
        generalize (l[k]).f5 = es at X5 l5 g5 HR hE5 hl5
        have HE5 := hide hE5
        have G5 := hide g5
        have HM := hide hlm
        have HLI := hide (left_into hk hvis')
        clear hvis hvis' hkind hgd hx hE5 hn5 g5 hlf hlm
        obtain ⟨D, hD1, hD2⟩ := HIB.out
        refine callsIn_of_wp Try.func44 rfl trivial ?_ rfl
        simp only [Try.ntmps44, List.size_toArray, List.length_cons, List.length_nil, Nat.reduceAdd, Nat.reduceSub, Array.replicate_succ, Array.replicate_zero, List.push_toArray, List.append_toArray, List.nil_append, List.cons_append]
        gi_wp2_with (gi_at_mapUpdate; refine wpListIn_mapUpdate_own _ rfl _ _ _ 82 rfl 3 4 (Maps.int_keyed Try.underlying3) Try.underlying82 _ bi _ _ rfl hD1 (by have := HM.out; unfold maxLen; omega) _ _ _ rfl rfl (Maps.keyOf_int_mk Try.underlying3 (wfk (by omega))) _ [] (plainElem_bool Try.underlying4 true) ?_; intro w1 hown1 hg1; have hbw : w1.heap[bw]? = some (.cells #[.slice (some ad) l.length c, .map (some ba), .map (some bi)] 84 (0, 0)) := (hg1.block bw (Array.getElem?_eq_some_iff.1 HIT.out.1).1 (by rintro ⟨⟩; obtain ⟨es', ck, e⟩ := HIB.out.obj; have := HIT.out.1; rw [e] at this; cases this)).trans HIT.out.1; have y0 := blk_cell hbw 0; have y1 := blk_cell hbw 1; have hbel1 := HBEL.out.grown hg1 HBEL.out.size (fun q hq => by cases hq; have := HIT.out.2.2.2; have := HNN.out; omega); have y5 := (hbel1.cell (World.block_lt_of_cell? w _ X5.out)).trans X5.out)
        have hit1 : ItP l (some ad) l.length c n bw ba bi (into st k).2 w1 := by
          obtain ⟨h1, ⟨m1, h2⟩, h3, h4, h5, h6, h7⟩ := HIT.out
          exact ⟨hbw, ⟨m1, h2.kept hg1 (by intro e; cases e; exact h7 rfl)⟩, ⟨m + 1, by have := HM.out; have := HLI.out; omega, ⟨_, hown1, hD2.put _ _⟩⟩, h4, h5, h6, h7⟩
        have hcons1 := HCONS.out.turned hg1 (fun c t e => by obtain ⟨es', ck, e'⟩ := HIB.out.obj; rw [e'] at e; cases e) (by have := HIT.out.2.2.2; omega)
        have hrdy1 := HRDY.out.keeps (Keeps2.grown hg1 (by intro e; cases e; obtain ⟨es', ck, e'⟩ := HIB.out.obj; have := HRDY.out.2; rw [e'] at this; cases this) (by intro e; cases e; obtain ⟨es', ck, e'⟩ := HIB.out.obj; have := HRDY.out.1; rw [e'] at this; cases this))
        have H1 := hide (And.intro hit1 (And.intro hcons1 hrdy1))
        have HR2 := hide (rfl : slotsF (dn l f) l ahead es (into st k) = slotsF (dn l f) l ahead es (into st k))
        clear hit1 hcons1 hrdy1 hown1 hD1 hD2 hg1 hbw y0 y1 y5 hbel1 cw0 cw1 cw2 hlk x1
        gi_loopw [45] (fun i wr => ∃ (j : Nat) (sj : St), j ≤ es.length ∧ i = .int .i64 j ∧ Hid (slotsF (dn l f) l ahead (es.drop j) sj = slotsF (dn l f) l ahead es (into st k)) ∧ Hid (left l sj.2 < f) ∧ Hid (ConsP n w sj.1 wr ∧ Ready L rec wr ∧ ItP l (some ad) l.length c n bw ba bi sj.2 wr) ∧ sj.1.length ≤ 10000) (fun i _ => es.length - (intOf i).toNat)
        case atStart => exact ⟨0, into st k, by omega, rfl, hide (by rw [List.drop_zero]), HLF, hide ⟨H1.out.2.1, H1.out.2.2, H1.out.1⟩, hlen⟩
        case round =>
          obtain ⟨j, sj, hj, rfl, HT, HLJ, HD, hsl⟩ := hrel
          by_cases hlt : j < es.length
          · have he := HE5.out _ (List.getElem_mem hlt)
            obtain ⟨ae, e6, u0, u1⟩ := at_T32 G5.out (j : Int) (by omega) (by omega)
            rw [rd32 hlt] at u0 u1
            rw [Int.toNat_natCast] at u0 u1
            subst e6
            have hbr := HD.out.1.2
            rw [HNN.out] at hbr
            replace u0 := (hbr.cell (World.block_lt_of_cell? w _ u0)).trans u0
            replace u1 := (hbr.cell (World.block_lt_of_cell? w _ u1)).trans u1
            have q1 : (0 : Int) ≤ (j : Int) := by omega
            have q2 : (j : Int) < (es.length : Int) := by omega
            have q3 : ((⟨#[47]⟩ : ByteArray).size : Int) = 1 := rfl
            have q4 : ((es[j].f1).size : Int) ≤ 140737488355328 := by have := he.2; omega
            have q5 : (ahead.size : Int) ≤ 500 := by omega
            have q6 : ((ahead ++ (⟨#[47]⟩ : ByteArray)).size : Int) ≤ 501 := by rw [ByteArray.size_append]; omega
            have hwf := he.1
            have HNS := hide (show (nextS ahead es[j].f1).size = ahead.size + 1 + (es[j].f1).size by unfold nextS; rw [ByteArray.size_append, ByteArray.size_append]; rfl)
            clear hbr he
            by_cases hz : es[j].f0 = 0
            · have HS := hide (slotsF_skip (rec := dn l f) (l := l) (a := ahead) (st := sj) hlt (.inl hz))
              rw [hz] at u0
              generalize es[j].f1 = nm at u1 q4
              clear hz
              gi_wp2
              go_roundw
              case rel => exact ⟨j + 1, sj, by omega, by go_num, hide (HS.out.symm.trans HT.out), HLJ, hide ⟨HD.out.1.alloc _, HD.out.2.1.keeps (Keeps2.alloc _ _ _), HD.out.2.2.alloc _⟩, hsl⟩
              case measure => simp [intOf]; omega
            · have z1 := int_ne' hz
              by_cases hbig : 500 < (nextS ahead es[j].f1).size
              · have HS := hide (slotsF_skip (rec := dn l f) (l := l) (a := ahead) (st := sj) hlt (.inr hbig))
                have q7 : (500 : Int) < (ahead.size : Int) + 1 + ((es[j].f1).size : Int) := by have := HNS.out; omega
                generalize es[j].f1 = nm at u1 q4 q7
                generalize es[j].f0 = ino at u0 hwf z1
                clear hz hbig
                gi_wp2
                go_roundw
                case rel => exact ⟨j + 1, sj, by omega, by go_num, hide (HS.out.symm.trans HT.out), HLJ, hide ⟨HD.out.1.alloc _, HD.out.2.1.keeps (Keeps2.alloc _ _ _), HD.out.2.2.alloc _⟩, hsl⟩
                case measure => simp [intOf]; omega
              · have HB := hide (show ¬ (es[j].f0 = 0 ∨ 500 < (nextS ahead es[j].f1).size) from fun h => h.elim hz hbig)
                have q7 : (ahead.size : Int) + 1 + ((es[j].f1).size : Int) ≤ 500 := by have := HNS.out; omega
                have q8 := HNS.out
                have HFU := hide (fun hf => slotsF_full (rec := dn l f) (l := l) (a := ahead) (st := sj) hlt HB.out hf)
                have HNO := hide (fun hf hn => slotsF_none (rec := dn l f) (l := l) (a := ahead) (st := sj) hlt HB.out hf hn)
                have HSO := hide (fun hf i hn => slotsF_some (rec := dn l f) (l := l) (a := ahead) (st := sj) hlt HB.out hf i hn)
                have HNX := hide (show nextS ahead es[j].f1 = ahead ++ (⟨#[47]⟩ : ByteArray) ++ es[j].f1 from rfl)
                generalize hs : nextS ahead es[j].f1 = s at HFU HNO HSO HNX q8
                generalize es[j].f1 = nm at u1 q4 q7 q8 HNX
                generalize es[j].f0 = ino at u0 hwf z1 HNO HSO
                clear hz hbig hs HB HNS
                gi_wp2
                have HFF2 := hide (show ∀ x : List ByteArray, (slotsF (dn l f) l ahead es (into st k)).1 = false → (slotsF (dn l f) l ahead es (into st k)).2.1 = x → x = F from fun x h1 h2 => by rw [← h2, ← HR.out]; exact HFF.out (by rw [HR.out]; exact h1))
                obtain ⟨fn, tmps, assign, body, hy, hR⟩ := HY.out (sj.1, ahead ++ (⟨#[47]⟩ : ByteArray) ++ nm, wr.alloc (.cells #[.int .i64 ino, .string nm] 32)) (wr.alloc (.cells #[.int .i64 ino, .string nm] 32))
                  ⟨HD.out.1.alloc _, hsl, KeepP.refl _ _, by rw [← HNX.out, q8]; omega, fun h => HFF2.out _ (by rw [← HT.out, HFU.out h]) (by rw [← HT.out, HFU.out h])⟩ (HD.out.2.1.keeps (Keeps2.alloc _ _ _))
                dsimp only at hy
                have hhb : (wr.alloc (.cells #[.int .i64 ino, .string nm] 32)).heap[wr.heap.size]? = some (.cells #[.int .i64 ino, .string nm] 32 (0, 0)) := World.alloc_heap_new _ _
                have HHB := hide hhb
                clear hhb
                rw [hy, Oper.uponIn_round]
                refine ⟨fun h => by simp [Fence.wide] at h, ?_⟩
                refine hR.mono ?_
                rintro e W3 (⟨rfl, ⟨hc3, hne, hle, hk3⟩, hrd3⟩ | ⟨rfl, cc, hCc, hJx, hst⟩)
                · have hc3' : ConsP n w (sj.1 ++ [s]) W3 := by rw [HNX.out]; exact hc3
                  have hit3 := (HD.out.2.2.alloc (.cells #[.int .i64 ino, .string nm] 32)).keep hk3
                  have hnb : wr.heap.size ≠ n := by have := HD.out.1.1; obtain ⟨v, hv, _⟩ := this; have := hv.lt; omega
                  have hb3 := hk3.2 _ _ HHB.out hnb (by simp [kindOk])
                  have t0 := blk_cell hb3 0
                  have t1 := blk_cell hb3 1
                  obtain ⟨cw0, cw1, cw2⟩ := hit3.cells
                  obtain ⟨ma, hia⟩ := hit3.2.1
                  have hlk0 := hia.look Try.underlying3 Try.underlying3 Try.underlying56 (zero3 _) ino hwf
                  have hlk1 : ∀ q, (Instr.lookup 56 (.map (some ba)) (.int .i64 ino) true).run Try.prog (W3.drewN q) = .ok (.tuple #[.int .i64 ((atF l ino).getD 0), .bool (atF l ino).isSome]) (W3.drewN q) := fun q => (show OwnII Try.prog 3 3 (W3.drewN q) ba ma (atF l) from hia).look Try.underlying3 Try.underlying3 Try.underlying56 (zero3 _) ino hwf
                  have HI3 := hide (And.intro hc3' (And.intro hrd3 hit3))
                  have HNE := hide hne
                  have hle' : sj.1.length ≤ 9999 := by dsimp only at hne hle; omega
                  clear hc3 hne hk3 hrd3 hc3' hit3 hnb hb3 hia hle
                  cases hq : atF l ino with
                  | none =>
                    have HT3 := hide ((HNO.out HNE.out hq).symm.trans HT.out)
                    rw [hq] at hlk0 hlk1
                    simp only [Option.getD_none, Option.isSome_none] at hlk0 hlk1
                    clear hq
                    gi_wp2
                    gi_quiet (fail)
                    gi_wp2
                    refine ⟨trivial, ?_⟩
                    gi_wp2
                    go_roundw
                    case rel => exact ⟨j + 1, (sj.1 ++ [s], sj.2), by omega, by go_num, HT3, HLJ, hide ⟨HI3.out.1.drewN _, HI3.out.2.1.keeps (Keeps2.drewN _ _ _), HI3.out.2.2.drewN _⟩, by simp; omega⟩
                    case measure => simp [intOf]; omega
                  | some v =>
                    obtain ⟨i, rfl, hil, _⟩ := atF_lt hq
                    have HT3 := hide ((HSO.out HNE.out i hq).symm.trans HT.out)
                    have HCL := hide (fun q => IH.out i s (sj.1 ++ [s], sj.2) (W3.drewN q) hil (by rw [q8]; omega) HLJ.out (HI3.out.1.drewN q) (by simp; omega) (HI3.out.2.1.keeps (Keeps2.drewN _ _ _)) (HI3.out.2.2.drewN q) (fun h => HFF2.out _ (by rw [← HT3.out, if_neg (by rw [h]; simp)]) (by rw [← HT3.out, if_neg (by rw [h]; simp)])))
                    rw [hq] at hlk0 hlk1
                    simp only [Option.getD_some, Option.isSome_some] at hlk0 hlk1
                    clear hq
                    generalize hdn : dn l f i s (sj.1 ++ [s], sj.2) = r at HT3 HCL
                    have HDN := hide hdn
                    clear hdn
                    rw [HNX.out] at HCL
                    gi_wp2
                    gi_quiet (fail)
                    gi_wp2
                    refine wide_in ?_
                    refine (HCL.out _).mono ?_
                    rintro e W4 (⟨rfl, hr1, hr2, hr3, hr4, hr5⟩ | ⟨rfl, hr1, sx, cx, hcx, hjx, hsx⟩)
                    · have HLR := hide (show left l r.2.2 < f from Nat.lt_of_le_of_lt (left_le (fun x hx => by rw [← HDN.out]; exact dn_mono l f i s (sj.1 ++ [s], sj.2) x hx)) HLJ.out)
                      have HT4 := hide (show slotsF (dn l f) l ahead (es.drop (j + 1)) r.2 = slotsF (dn l f) l ahead es (into st k) by have := HT3.out; rw [if_pos hr1] at this; exact this)
                      clear hr1
                      gi_wp2
                      go_roundw
                      case rel => exact ⟨j + 1, r.2, by omega, by go_num, HT4, HLR, hide ⟨hr2, hr4, hr5⟩, hr3⟩
                      case measure => simp [intOf]; omega
                    · have HT4 := hide (show (false, r.2) = slotsF (dn l f) l ahead es (into st k) by have := HT3.out; rw [if_neg (by rw [hr1]; simp)] at this; exact this)
                      clear hr1
                      gi_wp2
                      go_ret
                      rw [HR.out, ← HT4.out]
                      exact .inr ⟨by first | rfl | simp, rfl, sx, cx, hcx, hjx, hsx⟩
                · have HT3 := hide ((HFU.out hJx.1).symm.trans HT.out)
                  gi_wp2
                  go_ret
                  rw [HR.out, ← HT3.out]
                  exact .inr ⟨by first | rfl | simp, rfl, _, cc, hCc, hJx, hst⟩
          · have hje : j = es.length := by omega
            subst hje
            clear hlt hj
            have HT2 := hide (show slotsF (dn l f) l ahead es (into st k) = (true, sj) by rw [← HT.out, List.drop_length]; rfl)
            gi_wp2
            go_ret
            rw [HR.out, HT2.out]
            exact .inl ⟨by first | rfl | simp, rfl, HD.out.1, hsl, HD.out.2.1, HD.out.2.2⟩
      · have HR := hide (show dn l (f + 1) k ahead st = (true, st) by unfold dn; rw [if_pos (.inr (by rw [hgd]; exact hkind))])
        have n1 := int_ne' hkind
        clear hvis hvis' hgd
        refine callsIn_of_wp Try.func44 rfl trivial ?_ rfl
        simp only [Try.ntmps44, List.size_toArray, List.length_cons, List.length_nil, Nat.reduceAdd, Nat.reduceSub, Array.replicate_succ, Array.replicate_zero, List.push_toArray, List.append_toArray, List.nil_append, List.cons_append]
        gi_wp2
        go_ret
        rw [HR.out]
        exact .inl ⟨by first | rfl | simp, rfl, HCONS.out, hlen, HRDY.out, HIT.out⟩
end Go.Proofs.Ytnmlmbbacicojaa
