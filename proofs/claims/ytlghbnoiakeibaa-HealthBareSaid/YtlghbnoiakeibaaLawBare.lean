/-
  HealthBare as a law over whatever comes in.
-/
import Derived.Test.YtlghbnoiakeibaaBare
import Derived.Test.YtlghbnoiakeibaaI
set_option linter.unusedVariables false
set_option linter.unusedSimpArgs false
namespace Go.Proofs.Ytlghbnoiakeibaa
open Go.ChangeShapes Go.WideShapes Go.ChangeAt Go.RowKit
theorem bare_law (v0 v1 v2 v3 : Value) (W : World) (h0 : InInt .i64 v0) (h1 : InInt .u8 v1) (h2 : InInt .u8 v2) (h3 : InInt .u8 v3) : Calls Try.prog 4 #[v0, v1, v2, v3] W fun e w' => e = .returned (.bool true) ∧ Kp [] W w' := by
  obtain ⟨p, rfl, hp⟩ := h0
  obtain ⟨e, rfl, he⟩ := h1
  obtain ⟨o, rfl, ho⟩ := h2
  obtain ⟨d, rfl, hd⟩ := h3
  exact bare_calls p e o d W hp (bounds_u8 he) (bounds_u8 ho) (bounds_u8 hd)
end Go.Proofs.Ytlghbnoiakeibaa
