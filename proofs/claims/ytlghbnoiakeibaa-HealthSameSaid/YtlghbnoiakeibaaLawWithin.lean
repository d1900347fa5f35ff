/-
  HealthWithin as a law over whatever comes in: rules, a bool, and acts.
-/
import Derived.Test.YtlghbnoiakeibaaW2
set_option linter.unusedVariables false
set_option linter.unusedSimpArgs false
namespace Go.Proofs.Ytlghbnoiakeibaa
open Go.ChangeShapes Go.WideShapes Go.ChangeAt Go.RowKit
section
variable {H : Type} {enc : TypeId × Value → H} {W : World} {base : Nat}
theorem inRules_of {v : Value} {d : DataW H} {p : List MemPlace} (hv : Value.okWide Try.prog W .any base 22 v) (h : DataW.Trod enc Try.prog W 0 (fun _ => true) true 22 v d p) : In3 .i64 .i64 .i64 W v :=
  in3_of Try.underlying22 (by kernel_rfl) Try.underlying46 ⟨Try.underlying3, Try.underlying3, Try.underlying3⟩ ⟨rfl, rfl, rfl⟩ ⟨by kernel_rfl, by kernel_rfl, by kernel_rfl⟩ hv h
theorem inActs_of {v : Value} {d : DataW H} {p : List MemPlace} (hv : Value.okWide Try.prog W .any base 23 v) (h : DataW.Trod enc Try.prog W 0 (fun _ => true) true 23 v d p) : In3 .u8 .i64 .i64 W v :=
  in3_of Try.underlying23 (by kernel_rfl) Try.underlying34 ⟨Try.underlying5, Try.underlying3, Try.underlying3⟩ ⟨rfl, rfl, rfl⟩ ⟨by kernel_rfl, by kernel_rfl, by kernel_rfl⟩ hv h
end
theorem within_law (v0 v1 v2 : Value) (W : World) (h0 : In3 .i64 .i64 .i64 W v0) (h1 : InBool v1) (h2 : In3 .u8 .i64 .i64 W v2) : Calls Try.prog 3 #[v0, v1, v2] W fun e w' => e = .returned (.bool true) ∧ Kp [] W w' := by
  obtain ⟨l, hl, hw⟩ := h0
  obtain ⟨m, rfl⟩ := h1
  obtain ⟨a, ha, hwa⟩ := h2
  exact within_calls W v0 v2 l m a hl hw ha hwa
end Go.Proofs.Ytlghbnoiakeibaa
