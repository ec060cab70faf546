/-
  The statement 'Rows.SyncerPlansSaid' is proved: 'lockgate/lockgatelaw22.SyncerPlans' answers true at every input and leaves its arguments as they were. Conditions: none but the row's own.
-/
import Derived.Test.YtjfejimghbohdaaRows
import Derived.Test.YtjfejimghbohdaaMSyncerPlans13
import Derived.WalkKit
import Derived.ProofKit
import Derived.OpenShut
import Derived.ShutString
import Derived.ChangeOld
import Derived.Below
import Derived.SizedLaws
import Derived.SliceStrings
namespace Go.Proofs.Ytjfejimghbohdaa.SyncerPlansRow
open Go.ChangeShapes Go.WideShapes Go.ChangeAt Go.RowKit
open Go.ChangeMaps (open_string shut_string)

set_option linter.unusedVariables false

theorem own : ownKnob Try.prog.godebug = none := by kernel_rfl
theorem laid : laidOutB Try.prog = true := by kernel_rfl

set_option maxRecDepth 100000 in
theorem lifted (os : Os) (started : os.Started) (H : Type) (enc : TypeId × Value → H) :
    ReturnsInHanded {} Try.checked os 6 .any (Rows.syncerPlansSpec.pre6 enc Try.prog Try.f6 Rows.syncerPlansRow.domain false) (Rows.syncerPlansSpec.post enc Try.prog Try.f6 false true false false) := by
  refine returnsInHanded_of_change_sized (C := Try.checked) own started (by kernel_rfl) Try.func6
    (ChangeSpec.witness6 (enc := enc) (C := Try.checked) false ⟨#[], #[.slice none 0 0, .slice none 0 0], []⟩ 8 (by kernel_rfl) (by kernel_rfl) (by kernel_rfl) (by kernel_rfl)) ?_
  intro W base args ds gs before hval0 hW hcnd hsz0 _
  have hval : ∀ (j : Nat) t v, Try.f6.params[j]? = some t → args[j]? = some v → Value.okWide Try.prog W .any base t v := hval0
  have hsz : (DataW.weightsEach Try.prog (Try.f6.params.toList ++ Rows.syncerPlansSpec.plain.varTypes Try.prog) (ds ++ gs)).all (· ≤ reachBytes) = true := hsz0
  have hW' := hW
  obtain ⟨p, q, hA0, hV, rfl, hfz, hnd⟩ := hW
  have hA : DataW.TrodAll enc Try.prog W 0 (fun _ => true) true Try.f6.params.toList args.toList ds p := hA0
  rw [Try.params6] at hA hval hsz
  obtain ⟨v0, vs0, d0, ds0, p0, q0, hargs, rfl, rfl, h0, r0⟩ := trodAll_cons hA
  obtain ⟨v1, vs1, d1, ds1, p1, q1, rfl, rfl, rfl, h1, r1⟩ := trodAll_cons r0
  obtain ⟨rfl, rfl, rfl⟩ := trodAll_nil r1
  obtain rfl : args = #[v0, v1] := by cases args; simp_all
  obtain ⟨rfl, rfl⟩ := trodVars_none hV
  have k0 := h0
  have lt0 : ∀ x ∈ p0, x.block < W.heap.size := by obtain ⟨m, hm⟩ := k0; exact DataW.trod_lt m _ _ _ hm
  obtain ⟨a0, len0, cap0, rfl⟩ := okWide_slice Try.underlying22 (hval 0 22 v0 rfl rfl)
  obtain ⟨z0, w0⟩ : ∃ xs, xs.length = len0 ∧ len0 ≤ cap0 ∧ AcsOk xs ∧ kAc.C W a0 xs := by
    obtain ⟨fuel, hf⟩ := h0
    obtain ⟨xs, ⟨A', c', e, hl, hC⟩, hS⟩ := opens_acs hf (by
      rw [List.all_eq_true] at hsz ⊢
      exact fun n hn => hsz n (DataW.weights_mem_each (j := 0) rfl rfl n hn))
    simp [Value.cells] at e
    obtain ⟨rfl, rfl, rfl⟩ := e
    exact ⟨xs, rfl, hl, hS, hC⟩
  have k1 := h1
  have lt1 : ∀ x ∈ p1, x.block < W.heap.size := by obtain ⟨m, hm⟩ := k1; exact DataW.trod_lt m _ _ _ hm
  obtain ⟨a1, len1, cap1, rfl⟩ := okWide_slice Try.underlying23 (hval 1 23 v1 rfl rfl)
  obtain ⟨z1, w1⟩ : ∃ zs, zs.length = len1 ∧ len1 ≤ maxLen ∧ (∀ n ∈ zs, (Lit.int .i64 n).wf = true) ∧ (zs ≠ [] → ∃ x, a1 = some x ∧ x.block < W.heap.size ∧ ∀ j, j < zs.length → W.cell? (x.add j) = some (.int .i64 (zs.getD j 0))) := by
    obtain ⟨fuel, hf⟩ := h1
    rcases open_ints Try.underlying23 Try.underlying3 (by kernel_rfl) hf with ⟨hcs, _⟩ | ⟨x, l, c, zs, hcs, _, hl, hm, hz, _, hcell, hwz⟩
    · simp [Value.cells] at hcs
      obtain ⟨rfl, rfl, rfl⟩ := hcs
      exact ⟨[], rfl, Nat.zero_le _, by simp, fun h => absurd rfl h⟩
    · simp [Value.cells] at hcs
      obtain ⟨rfl, rfl, rfl⟩ := hcs
      have hz' : zs.length = cap1 := by simpa using hz
      refine ⟨zs.take len1, by rw [List.length_take]; omega, by omega, fun n hn => hwz n (List.mem_of_mem_take hn), fun hne => ?_⟩
      have h0l : 0 < len1 := by
        rcases Nat.eq_zero_or_pos len1 with h | h
        · simp [h] at hne
        · exact h
      have hblk : x.block < W.heap.size := by
        have := hcell 0 (by omega)
        have hb : (x.add 0).block = x.block := by simp [Addr.add]
        rw [← hb]
        exact World.block_lt_of_cell? _ _ this
      refine ⟨x, rfl, hblk, fun j hj => ?_⟩
      rw [List.length_take] at hj
      rw [hcell j (by omega)]
      congr 2
      simp [List.getD_eq_getElem?_getD, show j < len1 by omega]
  clear hA0 hval0
  refine (SyncerPlans_walk W a0 len0 cap0 z0 w0.1 w0.2.1 w0.2.2.1 w0.2.2.2 a1 len1 cap1 z1 w1.1 w1.2.1 w1.2.2.1 w1.2.2.2).mono fun e W' ⟨he, bel⟩ => ?_
  subst he
  exact ⟨_, rfl, _, _, _, [], _, [], hW', trodAll_mk1 (shut_bool Try.underlying4 _), (trodAll_cons_mk (Below.trod laid (by kernel_rfl) (of_decide_eq_true (by kernel_rfl)) k0 bel lt0) (trodAll_cons_mk (Below.trod laid (by kernel_rfl) (of_decide_eq_true (by kernel_rfl)) k1 bel lt1) trodAll_mk0)), rfl, bel.frame _, fun h => by cases h⟩

theorem over : Rows.syncerPlansRow.holds Try.pinned (OpenSpec.ofChange Rows.syncerPlansSpec) :=
  OpenClaim.holds_of_wide 6 Try.f6 rfl rfl rfl rfl rfl rfl rfl ⟨rfl, rfl, rfl, rfl, rfl⟩ rfl rfl rfl rfl rfl (by kernel_rfl) Try.func6 (by kernel_rfl)
    (of_decide_eq_true (by kernel_rfl)) (by unfold Func.isWrapper; first | (rw [if_pos (by decide +kernel)]; kernel_rfl) | (rw [if_neg (by decide +kernel)]; exact ⟨rfl, rfl⟩))
    (fun os started H enc _ => lifted os started H enc)

theorem proved : Rows.SyncerPlansSaid := over
#print axioms proved
end Go.Proofs.Ytjfejimghbohdaa.SyncerPlansRow
