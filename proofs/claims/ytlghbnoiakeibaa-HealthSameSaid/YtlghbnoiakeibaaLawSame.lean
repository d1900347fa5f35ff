/-
  HealthSame as a law over whatever comes in: rules, a bool, and two lists of acts.
-/
import Derived.Test.YtlghbnoiakeibaaLawWithin
import Derived.Test.YtlghbnoiakeibaaG5
set_option linter.unusedVariables false
set_option linter.unusedSimpArgs false
namespace Go.Proofs.Ytlghbnoiakeibaa
open Go.ChangeShapes Go.WideShapes Go.ChangeAt Go.RowKit
theorem same_law (v0 v1 v2 v3 : Value) (W : World) (h0 : In3 .i64 .i64 .i64 W v0) (h1 : InBool v1) (h2 : In3 .u8 .i64 .i64 W v2) (h3 : In3 .u8 .i64 .i64 W v3) : Calls Try.prog 5 #[v0, v1, v2, v3] W fun e w' => e = .returned (.bool true) ∧ Kp [] W w' := by
  obtain ⟨l, hl, hw⟩ := h0
  obtain ⟨m, rfl⟩ := h1
  obtain ⟨a, ha, hwa⟩ := h2
  obtain ⟨a', ha', hwa'⟩ := h3
  exact same_calls W v0 v2 v3 l m a a' hl hw ha hwa ha' hwa'
end Go.Proofs.Ytlghbnoiakeibaa
