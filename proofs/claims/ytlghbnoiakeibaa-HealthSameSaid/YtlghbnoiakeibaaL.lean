/-
  Slices cut at a letter, as run equations in whatever world.
-/
import Derived.Test.YtlghbnoiakeibaaR
set_option linter.unusedVariables false
set_option linter.unusedSimpArgs false
namespace Go.Proofs.Ytlghbnoiakeibaa
open Go.RowKit
theorem cut_from {P : Program} {t e size : Nat} (ht : P.underlying t = some (.slice e)) (hz : ∀ w, (sizeOf e).run P w = .ok size w) (g o n c k : Nat) (h1 : k ≤ n) (h2 : k < c) (V : World) :
    (Instr.slice t (.slice (some ⟨g, o, none⟩) n c) (some (.int .i64 k)) none none).run P V = .ok (.slice (some ⟨g, o + k * size, none⟩) (n - k) (c - k)) V := by
  have hck : ¬ c = k := by omega
  have h3 : (k : Int) ≤ n := by omega
  simp [Instr.slice, run_underlying ht, Instr.sliceBounds, Instr.sliceBound, asIntOf, h1, hz, Result.andThen, add_at, hck]
theorem cut_to {P : Program} {t e size : Nat} (ht : P.underlying t = some (.slice e)) (hz : ∀ w, (sizeOf e).run P w = .ok size w) (a : Option Addr) (n c k : Nat) (h2 : k ≤ c) (ha : c = 0 ∨ ∃ g o, a = some ⟨g, o, none⟩) (V : World) :
    (Instr.slice t (.slice a n c) none (some (.int .i64 k)) none).run P V = .ok (.slice a k c) V := by
  have h3 : (k : Int) ≤ c := by omega
  rcases ha with rfl | ⟨g, o, rfl⟩
  · obtain rfl : k = 0 := by omega
    simp [Instr.slice, run_underlying ht, Instr.sliceBounds, Instr.sliceBound, asIntOf, hz, Result.andThen]
  · by_cases hc : c = 0
    · subst hc
      obtain rfl : k = 0 := by omega
      simp [Instr.slice, run_underlying ht, Instr.sliceBounds, Instr.sliceBound, asIntOf, hz, Result.andThen]
    · simp [Instr.slice, run_underlying ht, Instr.sliceBounds, Instr.sliceBound, asIntOf, h2, hz, Result.andThen, add_at, hc]
end Go.Proofs.Ytlghbnoiakeibaa
