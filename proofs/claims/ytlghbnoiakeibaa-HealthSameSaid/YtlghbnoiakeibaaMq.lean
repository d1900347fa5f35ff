import Derived.Test.YtlghbnoiakeibaaM2
set_option linter.unusedVariables false
set_option linter.unusedSimpArgs false
namespace Go.Proofs.Ytlghbnoiakeibaa
open Go.ChangeShapes Go.WideShapes Go.WideElems Go.WideMaps Go.Maps
theorem firsts : PairMap2 Try.prog 32 38 36 where
  law := deep_law (m := 2) (by omega) (by kernel_rfl) (by kernel_rfl) (by rw [Try.underlying38])
  map := Try.underlying32
  zero := fun w => by kernel_rfl
  lit := key_lit2 Try.underlying38 (by kernel_rfl) (by kernel_rfl) (by kernel_rfl) Try.underlying3 ⟨102, by kernel_rfl⟩
end Go.Proofs.Ytlghbnoiakeibaa
