/-
  A region that draws its order, whose operations read and whose calls give back a value that hangs on nothing that is new: one walk of the text's order, in whatever world has come of the first.
-/
import Derived.Test.YtlghbnoiakeibaaN
import Derived.BigQuiet
import Derived.Deep.QuietTactic
set_option linter.unusedVariables false
set_option linter.unusedSimpArgs false
namespace Go.Proofs.Ytlghbnoiakeibaa
open Go.RowKit
/-- The worlds that have come of w, S aside, as a family. -/
theorem fam (S : List Nat) (w : World) : ∃ (I : Type) (_ : Nonempty I) (F : I → World), (∀ n, Kp S w (F n)) ∧ ∀ V, Kp S w V → ∃ n, V = F n :=
  ⟨{V : World // Kp S w V}, ⟨⟨w, Kp.refl S w⟩⟩, Subtype.val, fun n => n.2, fun V h => ⟨⟨V, h⟩, rfl⟩⟩
theorem wp_region_fam {P : Program} {id : Nat} {Q : Exit → Act → World → Prop} {a : Act} {w : World} {l : List Oper} {I : Type} (F : I → World) (h0 : ∃ n, w.drew = F n) (hm : P.follows .mixedOrders = true) (hB : Region.lexB .any l.toArray = true)
    (h : wpQuiet P l.toArray (fun w' => ∃ n, w' = F n) (fun a' => ∀ w', (∃ n, w' = F n) → Q .normal a' w') l a) : (Code.region id l.toArray true).wp P Q a w :=
  wp_region_quiet (C := fun w' => ∃ n, w' = F n) hm hB h0 (by simpa using h)
end Go.Proofs.Ytlghbnoiakeibaa
