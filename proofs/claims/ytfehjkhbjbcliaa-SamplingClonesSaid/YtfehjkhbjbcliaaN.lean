/-
  SamplingNews comes to true: of nil ports, and of ports that may or may not be.
-/
import Derived.Test.YtfehjkhbjbcliaaT
import Derived.Test.YtfehjkhbjbcliaaI
namespace Go.Proofs.Ytfehjkhbjbcliaa
open Go.RowKit
set_option maxHeartbeats 1000000
theorem write_nil (w : World) (now : Int) (v : Value) : Calls Try.prog 11 #[.pointer none, .int .i64 now, v] w fun e w' => e = .returned (.int .i64 1) ∧ w = w' := by
  go_enter Try.func11, Try.ntmps11
  go_wp2
  go_ret
  exact ⟨rfl, rfl⟩
theorem read_nil (w : World) (now : Int) : Calls Try.prog 12 #[.pointer none, .int .i64 now] w fun e w' => e = .returned (.tuple #[.slice none 0 0, .bool false, .int .i64 1]) ∧ w = w' := by
  go_enter Try.func12, Try.ntmps12
  go_wp2
  go_ret3
  exact ⟨rfl, rfl⟩
theorem stamp_nil (w : World) : Calls Try.prog 21 #[.pointer none] w fun e w' => e = .returned (.tuple #[.int .i64 0, .bool false]) ∧ w = w' := by
  go_enter Try.func21, Try.ntmps21
  go_wp2
  go_ret2
  exact ⟨rfl, rfl⟩
theorem words_nil (w : World) : Calls Try.prog 22 #[.pointer none] w fun e w' => e = .returned (.int .i64 0) ∧ w = w' := by
  go_enter Try.func22, Try.ntmps22
  go_wp2
  go_ret
  exact ⟨rfl, rfl⟩
theorem refresh_nil (w : World) : Calls Try.prog 23 #[.pointer none] w fun e w' => e = .returned (.int .i64 0) ∧ w = w' := by
  go_enter Try.func23, Try.ntmps23
  go_wp2
  go_ret
  exact ⟨rfl, rfl⟩
theorem clear_nil (w : World) : Calls Try.prog 20 #[.pointer none] w fun e w' => e = .returned (.tuple #[]) ∧ w = w' := by
  go_enter Try.func20, Try.ntmps20
  go_wp2
  go_end0
  exact ⟨rfl, rfl⟩
theorem pclone_nil (w : World) : Calls Try.prog 17 #[.pointer none] w fun e w' => e = .returned (.pointer none) ∧ w = w' := by
  go_enter Try.func17, Try.ntmps17
  go_wp2
  go_ret
  exact ⟨rfl, rfl⟩
theorem same_nil_nil (w : World) : Calls Try.prog 19 #[.pointer none, .pointer none] w fun e w' => e = .returned (.bool true) ∧ w = w' := by
  go_enter Try.func19, Try.ntmps19
  go_wp2
  go_ret
  exact ⟨rfl, rfl⟩
theorem same_nil_some (w : World) (b : Nat) : Calls Try.prog 19 #[.pointer none, .pointer (some ⟨b, 0, none⟩)] w fun e w' => e = .returned (.bool false) ∧ w = w' := by
  go_enter Try.func19, Try.ntmps19
  go_wp2
  go_ret
  exact ⟨rfl, rfl⟩
theorem same_some_nil (w : World) (b : Nat) : Calls Try.prog 19 #[.pointer (some ⟨b, 0, none⟩), .pointer none] w fun e w' => e = .returned (.bool false) ∧ w = w' := by
  go_enter Try.func19, Try.ntmps19
  go_wp2
  go_ret
  exact ⟨rfl, rfl⟩
theorem news_ok (a b : Int) (w : World) (h1 : 1 ≤ a) (h2 : a ≤ 32) (h3 : 0 ≤ b) (h4 : b ≤ 1048576) :
    Calls Try.prog 7 #[.int .i64 a, .int .i64 b] w fun e w' => e = .returned (.bool true) ∧ Kp [] w w' := by
  go_enter Try.func7, Try.ntmps7
  go_wp2_with fail
  refine (new_ok a b _ h1 h2 h3 h4).mono ?_
  rintro e w1 ⟨g, rfl, hp, hg, hk⟩
  go_wp2_with (first | (go_at_call 20; refine (clear_nil _).mono ?_; rintro e w' ⟨rfl, rfl⟩) | (go_at_call 12; refine (read_nil _ _).mono ?_; rintro e w' ⟨rfl, rfl⟩) | (go_at_call 21; refine (stamp_nil _).mono ?_; rintro e w' ⟨rfl, rfl⟩))
  refine (told_calls _).mono ?_
  rintro e w2 ⟨rfl, hk2⟩
  go_wp2_with (first | (go_at_call 11; refine (write_nil _ _ _).mono ?_; rintro e w' ⟨rfl, rfl⟩) | (go_at_call 22; refine (words_nil _).mono ?_; rintro e w' ⟨rfl, rfl⟩) | (go_at_call 23; refine (refresh_nil _).mono ?_; rintro e w' ⟨rfl, rfl⟩) | (go_at_call 17; refine (pclone_nil _).mono ?_; rintro e w' ⟨rfl, rfl⟩))
  refine (same_nil_nil _).mono ?_
  rintro e w' ⟨rfl, rfl⟩
  go_wp2_with fail
  refine (same_nil_some _ _).mono ?_
  rintro e w' ⟨rfl, rfl⟩
  go_wp2
  go_ret
  exact ⟨rfl, hk.trans hk2⟩
theorem news_bad (a b : Int) (w : World) (h : a < 1 ∨ 32 < a ∨ b < 0 ∨ 1048576 < b) :
    Calls Try.prog 7 #[.int .i64 a, .int .i64 b] w fun e w' => e = .returned (.bool true) ∧ Kp [] w w' := by
  have H := Lib.hid h
  clear h
  go_enter Try.func7, Try.ntmps7
  go_wp2_with fail
  refine (new_bad a b _ H.out).mono ?_
  rintro e w1 ⟨rfl, rfl⟩
  have cases : a < 1 ∨ (1 ≤ a ∧ 32 < a) ∨ (1 ≤ a ∧ a ≤ 32 ∧ b < 0) ∨ (1 ≤ a ∧ a ≤ 32 ∧ 0 ≤ b ∧ 1048576 < b) := by have := H.out; omega
  rcases cases with h | ⟨h1, h⟩ | ⟨h1, h2, h⟩ | ⟨h1, h2, h3, h⟩
  · have g1 : decide (1 ≤ a) = false := by simp; omega
    go_wp2_with (first | (go_at_call 20; refine (clear_nil _).mono ?_; rintro e w' ⟨rfl, rfl⟩) | (go_at_call 12; refine (read_nil _ _).mono ?_; rintro e w' ⟨rfl, rfl⟩) | (go_at_call 21; refine (stamp_nil _).mono ?_; rintro e w' ⟨rfl, rfl⟩))
    refine (told_calls _).mono ?_
    rintro e w2 ⟨rfl, hk2⟩
    go_wp2_with (first | (go_at_call 11; refine (write_nil _ _ _).mono ?_; rintro e w' ⟨rfl, rfl⟩) | (go_at_call 22; refine (words_nil _).mono ?_; rintro e w' ⟨rfl, rfl⟩) | (go_at_call 23; refine (refresh_nil _).mono ?_; rintro e w' ⟨rfl, rfl⟩) | (go_at_call 17; refine (pclone_nil _).mono ?_; rintro e w' ⟨rfl, rfl⟩) | (go_at_call 19; refine (same_nil_nil _).mono ?_; rintro e w' ⟨rfl, rfl⟩))
    go_ret
    exact ⟨rfl, hk2⟩
  · have g1 : decide (1 ≤ a) = true := by simp; omega
    have g2 : decide (a ≤ 32) = false := by simp; omega
    go_wp2_with (first | (go_at_call 20; refine (clear_nil _).mono ?_; rintro e w' ⟨rfl, rfl⟩) | (go_at_call 12; refine (read_nil _ _).mono ?_; rintro e w' ⟨rfl, rfl⟩) | (go_at_call 21; refine (stamp_nil _).mono ?_; rintro e w' ⟨rfl, rfl⟩))
    refine (told_calls _).mono ?_
    rintro e w2 ⟨rfl, hk2⟩
    go_wp2_with (first | (go_at_call 11; refine (write_nil _ _ _).mono ?_; rintro e w' ⟨rfl, rfl⟩) | (go_at_call 22; refine (words_nil _).mono ?_; rintro e w' ⟨rfl, rfl⟩) | (go_at_call 23; refine (refresh_nil _).mono ?_; rintro e w' ⟨rfl, rfl⟩) | (go_at_call 17; refine (pclone_nil _).mono ?_; rintro e w' ⟨rfl, rfl⟩) | (go_at_call 19; refine (same_nil_nil _).mono ?_; rintro e w' ⟨rfl, rfl⟩))
    go_ret
    exact ⟨rfl, hk2⟩
  · have g1 : decide (1 ≤ a) = true := by simp; omega
    have g2 : decide (a ≤ 32) = true := by simp; omega
    have g3 : decide (0 ≤ b) = false := by simp; omega
    go_wp2_with (first | (go_at_call 20; refine (clear_nil _).mono ?_; rintro e w' ⟨rfl, rfl⟩) | (go_at_call 12; refine (read_nil _ _).mono ?_; rintro e w' ⟨rfl, rfl⟩) | (go_at_call 21; refine (stamp_nil _).mono ?_; rintro e w' ⟨rfl, rfl⟩))
    refine (told_calls _).mono ?_
    rintro e w2 ⟨rfl, hk2⟩
    go_wp2_with (first | (go_at_call 11; refine (write_nil _ _ _).mono ?_; rintro e w' ⟨rfl, rfl⟩) | (go_at_call 22; refine (words_nil _).mono ?_; rintro e w' ⟨rfl, rfl⟩) | (go_at_call 23; refine (refresh_nil _).mono ?_; rintro e w' ⟨rfl, rfl⟩) | (go_at_call 17; refine (pclone_nil _).mono ?_; rintro e w' ⟨rfl, rfl⟩) | (go_at_call 19; refine (same_nil_nil _).mono ?_; rintro e w' ⟨rfl, rfl⟩))
    go_ret
    exact ⟨rfl, hk2⟩
  · have g1 : decide (1 ≤ a) = true := by simp; omega
    have g2 : decide (a ≤ 32) = true := by simp; omega
    have g3 : decide (0 ≤ b) = true := by simp; omega
    have g4 : decide (b ≤ 1048576) = false := by simp; omega
    go_wp2_with (first | (go_at_call 20; refine (clear_nil _).mono ?_; rintro e w' ⟨rfl, rfl⟩) | (go_at_call 12; refine (read_nil _ _).mono ?_; rintro e w' ⟨rfl, rfl⟩) | (go_at_call 21; refine (stamp_nil _).mono ?_; rintro e w' ⟨rfl, rfl⟩))
    refine (told_calls _).mono ?_
    rintro e w2 ⟨rfl, hk2⟩
    go_wp2_with (first | (go_at_call 11; refine (write_nil _ _ _).mono ?_; rintro e w' ⟨rfl, rfl⟩) | (go_at_call 22; refine (words_nil _).mono ?_; rintro e w' ⟨rfl, rfl⟩) | (go_at_call 23; refine (refresh_nil _).mono ?_; rintro e w' ⟨rfl, rfl⟩) | (go_at_call 17; refine (pclone_nil _).mono ?_; rintro e w' ⟨rfl, rfl⟩) | (go_at_call 19; refine (same_nil_nil _).mono ?_; rintro e w' ⟨rfl, rfl⟩))
    go_ret
    exact ⟨rfl, hk2⟩
theorem news_calls (a b : Int) (w : World) : Calls Try.prog 7 #[.int .i64 a, .int .i64 b] w fun e w' => e = .returned (.bool true) ∧ Kp [] w w' := by
  by_cases h : a < 1 ∨ 32 < a ∨ b < 0 ∨ 1048576 < b
  · exact news_bad a b w h
  · exact news_ok a b w (by omega) (by omega) (by omega) (by omega)
theorem news_law (v0 v1 : Value) (W : World) (h0 : InInt .i64 v0) (h1 : InInt .i64 v1) : Calls Try.prog 7 #[v0, v1] W fun e w' => e = .returned (.bool true) ∧ Kp [] W w' := by
  obtain ⟨a, rfl, _⟩ := h0
  obtain ⟨b, rfl, _⟩ := h1
  exact news_calls a b W
end Go.Proofs.Ytfehjkhbjbcliaa
