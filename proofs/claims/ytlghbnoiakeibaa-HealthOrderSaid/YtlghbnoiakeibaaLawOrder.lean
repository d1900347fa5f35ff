/-
  HealthOrder as a law over whatever comes in: rules, a bool, a byte, and acts.
-/
import Derived.Test.YtlghbnoiakeibaaLawWithin
import Derived.Test.YtlghbnoiakeibaaO1
set_option linter.unusedVariables false
set_option linter.unusedSimpArgs false
namespace Go.Proofs.Ytlghbnoiakeibaa
open Go.ChangeShapes Go.WideShapes Go.ChangeAt Go.RowKit
theorem order_law (v0 v1 v2 v3 : Value) (W : World) (h0 : In3 .i64 .i64 .i64 W v0) (h1 : InBool v1) (h2 : InInt .u8 v2) (h3 : In3 .u8 .i64 .i64 W v3) : Calls Try.prog 6 #[v0, v1, v2, v3] W fun e w' => e = .returned (.bool true) ∧ Kp [] W w' := by
  obtain ⟨l, hl, hw⟩ := h0
  obtain ⟨m, rfl⟩ := h1
  obtain ⟨t, rfl, ht⟩ := h2
  obtain ⟨a, ha, hwa⟩ := h3
  exact order_calls W v0 v3 l m t a hl hw (bounds_u8 ht) ha hwa
end Go.Proofs.Ytlghbnoiakeibaa
