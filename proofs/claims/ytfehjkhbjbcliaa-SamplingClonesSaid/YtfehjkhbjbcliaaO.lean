/-
  How the list of what is to be done reads.
-/
import Derived.Test.YtfehjkhbjbcliaaT
import Derived.Test.YtfehjkhbjbcliaaI
set_option linter.unusedVariables false
set_option linter.unusedSimpArgs false
namespace Go.Proofs.Ytfehjkhbjbcliaa
open Go.ChangeShapes Go.WideShapes Go.ChangeAt Go.RowKit
set_option maxHeartbeats 1000000
/-- What is to be done came in. -/
def InOps (w : World) (v : Value) : Prop := ∃ (n : Nat) (O : Nat → OpS) (M : Nat → Value), InStr w 3 v n (fun i => [.int .i64 (O i).kind, .int .i64 (O i).now, M i]) ∧ ∀ i, i < n → ∃ n', Sees w 1 (M i) n' (nums .u32 (O i).m)
theorem inOps_of {H : Type} {enc : TypeId × Value → H} {W : World} {base : Nat} {v : Value} {d : DataW H} {p : List MemPlace} (hv : Value.okWide Try.prog W .any base 41 v) (h : DataW.Trod enc Try.prog W 0 (fun _ => true) true 41 v d p) : InOps W v := by
  have hc : Try.prog.cellsOf 45 = 3 := by kernel_rfl
  obtain ⟨n, C, h1, h2⟩ := inStr_of Try.underlying41 (by rw [hc]; decide) hv h
  rw [hc] at h1
  have h3 : ∀ i, ∃ (o : OpS) (m : Value), i < n → C i = [.int .i64 o.kind, .int .i64 o.now, m] ∧ ∃ n', Sees W 1 m n' (nums .u32 o.m) := by
    intro i
    by_cases hi : i < n
    · obtain ⟨f, x, hx⟩ := h2 i hi
      obtain ⟨y0, y1, y2, f', _, hl, e0, e1, e2⟩ := Go.Deep.trod_struct3 Try.underlying45 hx
      have c3 : Try.prog.cellsOf 3 = 1 := by kernel_rfl
      have c24 : Try.prog.cellsOf 24 = 1 := by kernel_rfl
      rw [hc] at hl
      match hC : C i, hl with
      | [u0, u1, u2], _ =>
        rw [hC] at e0 e1 e2
        simp only [c3, c24, List.drop_zero, List.drop_succ_cons, List.take_succ_cons, List.take_zero] at e0 e1 e2
        obtain ⟨a0, z0, _, _⟩ := DataW.trod_int Try.underlying3 e0
        obtain ⟨a1, z1, _, _⟩ := DataW.trod_int Try.underlying3 e1
        obtain ⟨n', xs, hs, _⟩ := inInts_cs Try.underlying24 Try.underlying37 (by kernel_rfl) e2
        simp at z0 z1
        subst z0 z1
        exact ⟨⟨a0, a1, xs⟩, u2, fun _ => ⟨rfl, n', hs⟩⟩
    · exact ⟨⟨0, 0, []⟩, .nilIface, fun h => absurd h hi⟩
  refine ⟨n, fun i => (h3 i).choose, fun i => (h3 i).choose_spec.choose, ?_, fun i hi => ((h3 i).choose_spec.choose_spec hi).2⟩
  refine ⟨h1.1, ?_⟩
  rcases h1.2 with h0 | ⟨ad, c, hv', hc1, hc2, hcell⟩
  · exact .inl h0
  · refine .inr ⟨ad, c, hv', hc1, hc2, fun i hi => ⟨(hcell i hi).1, fun j u hj => (hcell i hi).2 j u ?_⟩⟩
    rw [((h3 i).choose_spec.choose_spec hi).1]
    exact hj
end Go.Proofs.Ytfehjkhbjbcliaa
