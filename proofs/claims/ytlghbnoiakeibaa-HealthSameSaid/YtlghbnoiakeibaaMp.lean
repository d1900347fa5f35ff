import Derived.Test.YtlghbnoiakeibaaM
set_option linter.unusedVariables false
set_option linter.unusedSimpArgs false
namespace Go.Proofs.Ytlghbnoiakeibaa
open Go.ChangeShapes Go.WideShapes Go.WideElems Go.WideMaps Go.Maps
theorem rules : PairMap Try.prog 61 75 3 where
  law := deep_law (m := 2) (by omega) (by kernel_rfl) (by kernel_rfl) (by rw [Try.underlying75])
  map := Try.underlying61
  elem := Try.underlying3
  zero := fun w => by kernel_rfl
  lit := key_lit Try.underlying75 (by kernel_rfl) (by kernel_rfl) (by decide) (by decide) ⟨by kernel_rfl, by kernel_rfl⟩ Try.underlying27 Try.underlying3 ⟨102, by kernel_rfl⟩
theorem counts : PairMap Try.prog 62 69 3 where
  law := deep_law (m := 2) (by omega) (by kernel_rfl) (by kernel_rfl) (by rw [Try.underlying69])
  map := Try.underlying62
  elem := Try.underlying3
  zero := fun w => by kernel_rfl
  lit := key_lit Try.underlying69 (by kernel_rfl) (by kernel_rfl) (by decide) (by decide) ⟨by kernel_rfl, by kernel_rfl⟩ Try.underlying3 Try.underlying27 ⟨102, by kernel_rfl⟩
end Go.Proofs.Ytlghbnoiakeibaa
