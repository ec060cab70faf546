/-
  Opening of nodes that came in.
-/
import Derived.Test.YtnmlmbbacicojaaO
import Derived.Test.YtnmlmbbacicojaaPWalkSamex0
namespace Go.Proofs.Ytnmlmbbacicojaa
set_option linter.unusedVariables false
set_option linter.unusedSimpArgs false
open Go.RowKit Go.Proofs.YtnmlmbbacicojaaW.PrintWords Go.Proofs.YtnmlmbbacicojaaW.PrintLast Go.Proofs.YtnmlmbbacicojaaW.PrintMore Go.Proofs.Ytnmlmbbacicojaa.PWalkSame

theorem bytes5 : Try.prog.bytesOf 5 = 1 := by kernel_rfl
theorem bytes35 : Try.prog.bytesOf 35 = 32 := by kernel_rfl
theorem bytes32 : Try.prog.bytesOf 32 = 24 := by kernel_rfl
theorem bytes30 : Try.prog.bytesOf 30 = 80 := by kernel_rfl
theorem cells30 : Try.prog.cellsOf 30 = 6 := by kernel_rfl
theorem cells32 : Try.prog.cellsOf 32 = 2 := by kernel_rfl
theorem cells35 : Try.prog.cellsOf 35 = 2 := by kernel_rfl
theorem cells3 : Try.prog.cellsOf 3 = 1 := by kernel_rfl
theorem cells9 : Try.prog.cellsOf 9 = 1 := by kernel_rfl
theorem cells33 : Try.prog.cellsOf 33 = 1 := by kernel_rfl
theorem cells27 : Try.prog.cellsOf 27 = 1 := by kernel_rfl
theorem cells28 : Try.prog.cellsOf 28 = 1 := by kernel_rfl
theorem cells5 : Try.prog.cellsOf 5 = 1 := by kernel_rfl

def PartOk (x : S35) : Prop := (Lit.int .i64 x.f0).wf = true ∧ (∀ b ∈ x.f1, (Lit.int .u8 b).wf = true) ∧ x.f1.length ≤ reachBytes
def EntOk (x : S32) : Prop := (Lit.int .i64 x.f0).wf = true ∧ x.f1.size ≤ reachBytes
def NodeOk (x : S30) : Prop := (Lit.int .i64 x.f0).wf = true ∧ (Lit.int .i64 x.f1).wf = true ∧ (Lit.int .i64 x.f2).wf = true ∧ (Lit.int .i64 x.f3).wf = true ∧ ((∀ p ∈ x.f4, PartOk p) ∧ x.f4.length * 32 ≤ reachBytes) ∧ ((∀ p ∈ x.f5, EntOk p) ∧ x.f5.length * 24 ≤ reachBytes)
def NodesOk (xs : List S30) : Prop := (∀ x ∈ xs, NodeOk x) ∧ xs.length * 80 ≤ reachBytes

theorem opens_bytes : Opens Try.prog 33 (Kd.slice 5 (Kd.int .u8)) (fun xs => (∀ x ∈ xs, (Lit.int .u8 x).wf = true) ∧ xs.length * Try.prog.bytesOf 5 ≤ reachBytes ∧ xs.length ≤ maxLen) := opens_slice Try.underlying33 (opens_int Try.underlying5) cells5 5
theorem opens_part : Opens Try.prog 35 k35 PartOk := by
  intro H enc w base spare held fuel cs x h hw
  obtain ⟨xs, n, _, rfl, hl, hlen, hf⟩ := DataW.trod_struct Try.underlying35 h
  obtain ⟨v0, k0, s0⟩ := opens_field Try.underlying35 (opens_int Try.underlying3) hf hw hlen 0 0 (by decide) rfl rfl
  obtain ⟨v1, k1, s1⟩ := opens_field Try.underlying35 opens_bytes hf hw hlen 1 1 (by decide) rfl rfl
  rw [cells35] at hl
  rw [cells3] at k0
  rw [cells33] at k1
  match cs, hl with
  | [c0, c1], _ =>
    have e0 : [c0] = [Value.int .i64 v0] := k0
    obtain ⟨A, c, e1, l1, g1⟩ := k1
    have e1' : [c1] = [Value.slice A v1.length c] := e1
    rw [List.singleton_inj] at e0 e1'
    subst e0
    subst e1'
    exact ⟨⟨v0, v1⟩, k35_mk w ⟨v0, v1⟩ l1 g1, s0, s1.1, by have := s1.2.1; rw [bytes5, Nat.mul_one] at this; exact this⟩
theorem opens_ent : Opens Try.prog 32 k32 EntOk := by
  intro H enc w base spare held fuel cs x h hw
  obtain ⟨xs, n, _, rfl, hl, hlen, hf⟩ := DataW.trod_struct Try.underlying32 h
  obtain ⟨v0, k0, s0⟩ := opens_field Try.underlying32 (opens_int Try.underlying3) hf hw hlen 0 0 (by decide) rfl rfl
  obtain ⟨v1, k1, s1⟩ := opens_field Try.underlying32 (opens_string Try.underlying9) hf hw hlen 1 1 (by decide) rfl rfl
  rw [cells32] at hl
  rw [cells3] at k0
  rw [cells9] at k1
  match cs, hl with
  | [c0, c1], _ =>
    have e0 : [c0] = [Value.int .i64 v0] := k0
    have e1 : [c1] = [Value.string v1] := k1
    rw [List.singleton_inj] at e0 e1
    subst e0
    subst e1
    exact ⟨⟨v0, v1⟩, k32_mk w ⟨v0, v1⟩, s0, s1⟩
theorem opens_parts : Opens Try.prog 27 (Kd.slice 35 k35) (fun xs => (∀ x ∈ xs, PartOk x) ∧ xs.length * Try.prog.bytesOf 35 ≤ reachBytes ∧ xs.length ≤ maxLen) := opens_slice Try.underlying27 opens_part cells35 35
theorem opens_ents : Opens Try.prog 28 (Kd.slice 32 k32) (fun xs => (∀ x ∈ xs, EntOk x) ∧ xs.length * Try.prog.bytesOf 32 ≤ reachBytes ∧ xs.length ≤ maxLen) := opens_slice Try.underlying28 opens_ent cells32 32
theorem opens_node : Opens Try.prog 30 k30 NodeOk := by
  intro H enc w base spare held fuel cs x h hw
  obtain ⟨xs, n, _, rfl, hl, hlen, hf⟩ := DataW.trod_struct Try.underlying30 h
  obtain ⟨v0, k0, s0⟩ := opens_field Try.underlying30 (opens_int Try.underlying3) hf hw hlen 0 0 (by decide) rfl rfl
  obtain ⟨v1, k1, s1⟩ := opens_field Try.underlying30 (opens_int Try.underlying3) hf hw hlen 1 1 (by decide) rfl rfl
  obtain ⟨v2, k2, s2⟩ := opens_field Try.underlying30 (opens_int Try.underlying3) hf hw hlen 2 2 (by decide) rfl rfl
  obtain ⟨v3, k3, s3⟩ := opens_field Try.underlying30 (opens_int Try.underlying3) hf hw hlen 3 3 (by decide) rfl rfl
  obtain ⟨v4, k4, s4⟩ := opens_field Try.underlying30 opens_parts hf hw hlen 4 4 (by decide) rfl rfl
  obtain ⟨v5, k5, s5⟩ := opens_field Try.underlying30 opens_ents hf hw hlen 5 5 (by decide) rfl rfl
  rw [cells30] at hl
  rw [cells3] at k0 k1 k2 k3
  rw [cells27] at k4
  rw [cells28] at k5
  match cs, hl with
  | [c0, c1, c2, c3, c4, c5], _ =>
    have e0 : [c0] = [Value.int .i64 v0] := k0
    have e1 : [c1] = [Value.int .i64 v1] := k1
    have e2 : [c2] = [Value.int .i64 v2] := k2
    have e3 : [c3] = [Value.int .i64 v3] := k3
    obtain ⟨A4, q4, e4, l4, g4⟩ := k4
    obtain ⟨A5, q5, e5, l5, g5⟩ := k5
    have e4' : [c4] = [Value.slice A4 v4.length q4] := e4
    have e5' : [c5] = [Value.slice A5 v5.length q5] := e5
    rw [List.singleton_inj] at e0 e1 e2 e3 e4' e5'
    subst e0
    subst e1
    subst e2
    subst e3
    subst e4'
    subst e5'
    rw [bytes35] at s4
    rw [bytes32] at s5
    exact ⟨⟨v0, v1, v2, v3, v4, v5⟩, k30_mk w ⟨v0, v1, v2, v3, v4, v5⟩ l4 g4 l5 g5, s0, s1, s2, s3, ⟨s4.1, s4.2.1⟩, ⟨s5.1, s5.2.1⟩⟩
theorem opens_nodes : Opens Try.prog 22 (Kd.slice 30 k30) NodesOk := by
  intro H enc w base spare held fuel cs x h hw
  obtain ⟨v, hK, hS⟩ := opens_slice Try.underlying22 opens_node cells30 30 h hw
  exact ⟨v, hK, hS.1, by have := hS.2.1; rw [bytes30] at this; exact this⟩
end Go.Proofs.Ytnmlmbbacicojaa
