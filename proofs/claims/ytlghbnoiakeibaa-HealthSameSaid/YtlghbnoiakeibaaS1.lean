import Derived.Test.YtlghbnoiakeibaaMp
set_option linter.unusedVariables false
set_option linter.unusedSimpArgs false
namespace Go.Proofs.Ytlghbnoiakeibaa
open Go.RowKit
def knownB (e : Int) : Bool := decide (1 ≤ e) && decide (e ≤ 27)
theorem known_calls (e : Int) (w : World) : Calls Try.prog 22 #[.int .i64 e] w fun r w' => r = .returned (.bool (knownB e)) ∧ w = w' := by
  go_enter Try.func22, Try.ntmps22
  by_cases h : 1 ≤ e
  · go_wp2
    go_ret
    exact ⟨by simp [knownB, h], rfl⟩
  · go_wp2
    go_ret
    exact ⟨by simp [knownB]; omega, rfl⟩
def hasB (m : Bool) (l : Int) : Bool := if m then l == 2 else l == 0 || l == 1
/-- The monitor in block b: module, rules f (block r), counts c (block q). -/
def MonAt (w : World) (b : Nat) (m : Bool) (f c : Int → Int → Option Int) (n k : Nat) : Prop :=
  ∃ r q, w.heap[b]? = some (.cells #[.bool m, .map (some r), .map (some q)] 64) ∧ MapAt Try.prog 75 3 w r n f ∧ MapAt Try.prog 69 3 w q k c ∧ r ≠ q ∧ r ≠ b ∧ q ≠ b
theorem has_calls (w : World) (b : Nat) (m : Bool) (f c : Int → Int → Option Int) (n k : Nat) (h : MonAt w b m f c n k) (l : Int) :
    Calls Try.prog 31 #[.pointer (some ⟨b, 0, none⟩), .int .i64 l] w fun r w' => r = .returned (.bool (hasB m l)) ∧ w = w' := by
  obtain ⟨r, q, hb, _⟩ := h
  have c0 := blk_cell hb
  go_enter Try.func31, Try.ntmps31
  cases m
  · by_cases hl : l = 0
    · subst hl
      go_wp2
      go_ret
      exact ⟨by simp [hasB], rfl⟩
    · have hl' : (l == 0) = false := by simpa using hl
      go_wp2
      go_ret
      exact ⟨by simp [hasB, hl], rfl⟩
  · go_wp2
    go_ret
    exact ⟨by simp [hasB], rfl⟩
theorem of_calls (w : World) (b : Nat) (m : Bool) (f c : Int → Int → Option Int) (n k : Nat) (h : MonAt w b m f c n k) (p : Int) :
    Calls Try.prog 23 #[.pointer (some ⟨b, 0, none⟩), .int .i64 p] w fun r w' => r = .returned (.int .i64 (if m then -1 else max p (-1))) ∧ w = w' := by
  obtain ⟨r, q, hb, _⟩ := h
  have c0 := blk_cell hb
  go_enter Try.func23, Try.ntmps23
  cases m
  · go_wp2
    all_goals
      go_ret
      exact ⟨by simp; try omega, rfl⟩
  · go_wp2
    go_ret
    exact ⟨by simp, rfl⟩
/-- What a rule's level lets be done. -/
def canL (l : Int) : List Int := if l = 0 then [0, 1, 2, 3] else if l = 1 then [0, 1, 4, 5, 6] else [0, 1]
theorem can_calls (w : World) (l : Int) : Calls Try.prog 33 #[.int .i64 l] w fun r w' => ∃ n c, r = .returned (.slice (some ⟨w.heap.size, 0, none⟩) n c) ∧ Sees w' 1 (.slice (some ⟨w.heap.size, 0, none⟩) n c) n (nums .i64 (canL l)) ∧ Kp [] w w' := by
  go_enter Try.func33, Try.ntmps33
  by_cases h0 : l = 0
  · subst h0
    go_wp2
    go_ret
    exact ⟨_, _, rfl, (Row.made #[.int .i64 0, .int .i64 1, .int .i64 2, .int .i64 3] 4 rfl (by decide)).sees, (Kp.refl _ _).alloc _⟩
  · have h0' : (l == 0) = false := by simpa using h0
    by_cases h1 : l = 1
    · subst h1
      go_wp2
      go_ret
      exact ⟨_, _, rfl, (Row.made #[.int .i64 0, .int .i64 1, .int .i64 4, .int .i64 5, .int .i64 6] 5 rfl (by decide)).sees, (Kp.refl _ _).alloc _⟩
    · have h1' : (l == 1) = false := by simpa using h1
      go_wp2
      go_ret
      refine ⟨_, _, rfl, ?_, (Kp.refl _ _).alloc _⟩
      rw [show canL l = [0, 1] from by simp [canL, h0, h1]]
      exact (Row.made #[.int .i64 0, .int .i64 1] 2 rfl (by decide)).sees
end Go.Proofs.Ytlghbnoiakeibaa
