/-
  A cell of a row is written.
-/
import Derived.Test.YtlghbnoiakeibaaR
set_option linter.unusedVariables false
set_option linter.unusedSimpArgs false
namespace Go.Proofs.Ytlghbnoiakeibaa
open Go.RowKit
theorem Row.plain {w : World} {e size n : Nat} {v : Value} {xs : List Value} (h : Row w e size v n xs) (hn : 0 < n) : ∃ g off cap cur, v = .slice (some ⟨g, off, none⟩) n cap ∧ w.heap[g]? = some (.cells cur e (0, 0)) ∧ cur.size = off + cap * size ∧ n ≤ cap := by
  rcases h.2 with ⟨_, h0⟩ | ⟨g, off, cap, cur, rfl, hh, h1, h2, h3, h4⟩
  · omega
  · exact ⟨g, off, cap, cur, rfl, hh, h3, h1⟩
theorem Row.free {w : World} {e size g off n c : Nat} {xs : List Value} (h : Row w e size (.slice (some ⟨g, off, none⟩) n c) n xs) (i : Nat) : w.frozen? ⟨g, i, none⟩ = false := by
  rcases h.2 with ⟨h0, _⟩ | ⟨g', off', cap', cur, he, hh, _⟩
  · simp at h0
  · simp only [Value.slice.injEq, Option.some.injEq, Addr.mk.injEq] at he
    obtain ⟨⟨rfl, rfl, _⟩, _, rfl⟩ := he
    exact blk_free hh i
theorem Row.set {w : World} {e size g off n c : Nat} {xs : List Value} (h : Row w e size (.slice (some ⟨g, off, none⟩) n c) n xs) (j : Nat) (hj : j < n * size) (u : Value) :
    Row (w.setCell ⟨g, off + j, none⟩ u) e size (.slice (some ⟨g, off, none⟩) n c) n (xs.set j u) := by
  rcases h.2 with ⟨h0, _⟩ | ⟨g', off', cap', cur, he, hh, h1, h2, h3, h4⟩
  · simp at h0
  · simp only [Value.slice.injEq, Option.some.injEq, Addr.mk.injEq, and_true, true_and] at he
    obtain ⟨⟨rfl, rfl⟩, rfl⟩ := he
    refine ⟨by rw [List.length_set]; exact h.1, .inr ⟨g, off, c, _, rfl, blk_set hh (off + j) u, h1, h2, by simpa using h3, ?_⟩⟩
    rw [Array.toList_setIfInBounds, List.drop_set, if_neg (by omega), Nat.add_sub_cancel_left, List.take_set, h4]
theorem Row.lt_heap {w : World} {e size g off n c : Nat} {xs : List Value} (h : Row w e size (.slice (some ⟨g, off, none⟩) n c) n xs) : g < w.heap.size := h.lt g (by simp [Value.ownBlock])
end Go.Proofs.Ytlghbnoiakeibaa
