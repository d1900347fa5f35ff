/-
  HealthPlays as a law over whatever comes in: rules, a bool, and acts.
-/
import Derived.Test.YtlghbnoiakeibaaLawWithin
import Derived.Test.YtlghbnoiakeibaaPl
set_option linter.unusedVariables false
set_option linter.unusedSimpArgs false
namespace Go.Proofs.Ytlghbnoiakeibaa
open Go.ChangeShapes Go.WideShapes Go.ChangeAt Go.RowKit
theorem plays_law (v0 v1 v2 : Value) (W : World) (h0 : In3 .i64 .i64 .i64 W v0) (h1 : InBool v1) (h2 : In3 .u8 .i64 .i64 W v2) : Calls Try.prog 7 #[v0, v1, v2] W fun e w' => e = .returned (.bool true) ∧ Kp [] W w' := by
  obtain ⟨l, hl, hw⟩ := h0
  obtain ⟨m, rfl⟩ := h1
  obtain ⟨a, ha, hwa⟩ := h2
  exact plays_calls W v0 v2 l m a hl hw ha hwa
end Go.Proofs.Ytlghbnoiakeibaa
