import Derived.Test.YtlghbnoiakeibaaG3
import Derived.Test.YtlghbnoiakeibaaO1
import Derived.Laws.MakeOwn
set_option linter.unusedVariables false
set_option linter.unusedSimpArgs false
namespace Go.Proofs.Ytlghbnoiakeibaa
open Go.RowKit
theorem cells3_zero (n : Nat) : ∀ j, j < n * 3 → (cells3 (List.replicate n (0, 0, 0)))[j]? = some (.int .i64 0) := by
  intro j hj
  have hk : j / 3 < (List.replicate n ((0, 0, 0) : Rule)).length := by simp; omega
  obtain ⟨h1, h2, h3⟩ := cells3_at _ _ hk
  simp at h1 h2 h3
  rcases (by omega : j = j / 3 * 3 ∨ j = j / 3 * 3 + 1 ∨ j = j / 3 * 3 + 2) with h | h | h <;> rw [h]
  · exact h1
  · exact h2
  · exact h3
theorem madeCells_zero (n : Nat) : (madeCells #[.int .i64 0, .int .i64 0, .int .i64 0] (n * 3)).toList = cells3 (List.replicate n (0, 0, 0)) := by
  apply List.ext_getElem?
  intro j
  by_cases hj : j < n * 3
  · rw [cells3_zero n j hj]
    have : j < (madeCells #[.int .i64 0, .int .i64 0, .int .i64 0] (n * 3)).size := by rw [size_madeCells]; exact hj
    rw [Array.getElem?_toList, Array.getElem?_eq_getElem this]
    congr 1
    simp only [madeCells, Array.getElem_map, Array.getElem_range]
    have h3 : j % 3 = 0 ∨ j % 3 = 1 ∨ j % 3 = 2 := by omega
    rcases h3 with h | h | h <;> simp [h]
  · rw [List.getElem?_eq_none (by rw [Array.length_toList, size_madeCells]; omega), List.getElem?_eq_none (by rw [cells3_len]; simp; omega)]
theorem cells3_set3 (l : List Rule) (k : Nat) (hk : k < l.length) (x : Rule) : (((cells3 l).set (k * 3) (.int .i64 x.1)).set (k * 3 + 1) (.int .i64 x.2.1)).set (k * 3 + 2) (.int .i64 x.2.2) = cells3 (l.set k x) := by
  induction l generalizing k with
  | nil => simp at hk
  | cons a l ih =>
    cases k with
    | zero => simp [cells3]
    | succ k =>
      have e : cells3 (a :: l) = [.int .i64 a.1, .int .i64 a.2.1, .int .i64 a.2.2] ++ cells3 l := by simp [cells3]
      have e2 : cells3 (a :: l.set k x) = [.int .i64 a.1, .int .i64 a.2.1, .int .i64 a.2.2] ++ cells3 (l.set k x) := by simp [cells3]
      rw [e, List.set_cons_succ, e2, ← ih k (by simpa using hk)]
      rw [List.set_append_right _ _ (by simp; omega), List.set_append_right _ _ (by simp; omega), List.set_append_right _ _ (by simp; omega)]
      simp [show (k + 1) * 3 - 3 = k * 3 by omega, show (k + 1) * 3 + 1 - 3 = k * 3 + 1 by omega, show (k + 1) * 3 + 2 - 3 = k * 3 + 2 by omega]
/-- Turned, as far as k rounds. -/
def turnL (l : List Rule) (k : Nat) : List Rule := List.replicate (l.length - k) (0, 0, 0) ++ (l.take k).reverse
theorem turnL_len (l : List Rule) (k : Nat) (hk : k ≤ l.length) : (turnL l k).length = l.length := by simp [turnL]; omega
theorem turnL_next (l : List Rule) (k : Nat) (hk : k < l.length) : turnL l (k + 1) = (turnL l k).set (l.length - 1 - k) l[k] := by
  unfold turnL
  rw [List.take_succ_eq_append_getElem hk, List.reverse_append, List.set_append_left _ _ (by simp; omega)]
  have : List.replicate (l.length - k) ((0, 0, 0) : Rule) = List.replicate (l.length - (k + 1)) (0, 0, 0) ++ [(0, 0, 0)] := by
    rw [show l.length - k = (l.length - (k + 1)) + 1 by omega, List.replicate_succ']
  rw [this, List.set_append_right _ _ (by simp; omega)]
  have h0 : l.length - 1 - k - (List.replicate (l.length - (k + 1)) ((0, 0, 0) : Rule)).length = 0 := by simp; omega
  rw [h0]
  simp
theorem turnL_all (l : List Rule) : turnL l l.length = l.reverse := by simp [turnL]
theorem sameFB_symm (f g : Int → Int → Option Int) : sameFB f g = sameFB g f := by
  rw [Bool.eq_iff_iff, sameFB_iff, sameFB_iff]
  exact ⟨fun h x y hx hy => (h x y hx hy).symm, fun h x y hx hy => (h x y hx hy).symm⟩
end Go.Proofs.Ytlghbnoiakeibaa
