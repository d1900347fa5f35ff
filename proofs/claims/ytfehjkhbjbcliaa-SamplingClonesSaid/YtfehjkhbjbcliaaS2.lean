/-
  What the other methods of a port come to: Stamp, Words, Refresh, Clear, Clone, Same.
-/
import Derived.Test.YtfehjkhbjbcliaaS1
import Derived.Laws.StructEq
namespace Go.Proofs.Ytfehjkhbjbcliaa
open Go.RowKit
set_option maxHeartbeats 400000

theorem stamp_calls (w : World) (b : Nat) (s : PS) (hp : PortAt w b s) :
    Calls Try.prog 21 #[.pointer (some ⟨b, 0, none⟩)] w fun e w' => e = .returned (.tuple #[.int .i64 (if s.has then s.stamp else 0), .bool s.has]) ∧ w = w' := by
  obtain ⟨pv, hb, hrow, hm⟩ := hp
  have c0 := blk_cell hb
  cases hh : s.has
  · rw [hh] at c0
    clear hh
    go_enter Try.func21, Try.ntmps21
    go_wp2
    go_ret2
    exact ⟨rfl, rfl⟩
  · rw [hh] at c0
    clear hh
    go_enter Try.func21, Try.ntmps21
    go_wp2
    go_ret2
    exact ⟨rfl, rfl⟩
theorem words_calls (w : World) (b : Nat) (s : PS) (hp : PortAt w b s) :
    Calls Try.prog 22 #[.pointer (some ⟨b, 0, none⟩)] w fun e w' => e = .returned (.int .i64 s.words) ∧ w = w' := by
  obtain ⟨pv, hb, hrow, hm⟩ := hp
  have c0 := blk_cell hb
  go_enter Try.func22, Try.ntmps22
  go_wp2
  go_ret
  exact ⟨rfl, rfl⟩
theorem refresh_calls (w : World) (b : Nat) (s : PS) (hp : PortAt w b s) :
    Calls Try.prog 23 #[.pointer (some ⟨b, 0, none⟩)] w fun e w' => e = .returned (.int .i64 s.refresh) ∧ w = w' := by
  obtain ⟨pv, hb, hrow, hm⟩ := hp
  have c0 := blk_cell hb
  go_enter Try.func23, Try.ntmps23
  go_wp2
  go_ret
  exact ⟨rfl, rfl⟩
theorem clear_calls (w : World) (b : Nat) (s : PS) (hp : PortAt w b s) :
    Calls Try.prog 20 #[.pointer (some ⟨b, 0, none⟩)] w fun e w' => e = .returned (.tuple #[]) ∧ PortAt w' b { s with m := [], stamp := 0, has := false } ∧ Kp [b] w w' := by
  obtain ⟨pv, hb, hrow, hm⟩ := hp
  have c0 := blk_cell hb
  have f0 := blk_free hb
  go_enter Try.func20, Try.ntmps20
  go_wp2
  go_end0
  exact ⟨rfl, ⟨_, blk_set (blk_set (blk_set hb 2 _) 3 _) 4 _, Row.nil _ _ _, by simp⟩, (((Kp.refl _ w).setCell (by simp) _).setCell (by simp) _).setCell (by simp) _⟩
theorem pclone_calls (w : World) (b : Nat) (s : PS) (hp : PortAt w b s) :
    Calls Try.prog 17 #[.pointer (some ⟨b, 0, none⟩)] w fun e w' => ∃ g, e = .returned (.pointer (some ⟨g, 0, none⟩)) ∧ PortAt w' g s ∧ w.heap.size ≤ g ∧ Kp [] w w' := by
  obtain ⟨pv, hb, hrow, hm⟩ := hp
  have c0 := blk_cell hb
  obtain ⟨A, c, rfl⟩ := hrow.shape
  have h1 := nums_one .u32 s.m
  have hlt := blk_lt hb
  go_enter Try.func17, Try.ntmps17
  go_wp2_with fail
  refine (clone_calls _ _ _ _ (hrow.sees.alloc _) h1 hm).mono ?_
  rintro e w1 ⟨v1, rfl, hr1, hk1, hf1⟩
  have hb1 := hk1.heap (blk_new w _) (by simp)
  have hlt1 := blk_lt hb1
  have c1 := blk_cell hb1
  have f1 := blk_free hb1
  obtain ⟨A1, k1, rfl⟩ := hr1.shape
  go_wp2
  go_ret
  have hn1 : w.heap.size ∉ (Value.slice A1 s.m.length k1).ownBlock := fun h => by have := hf1 _ h; simp at this; omega
  exact ⟨_, rfl, ⟨_, blk_set hb1 2 _, hr1.put hn1 _, hm⟩, Nat.le_refl _, (((Kp.refl [] w).alloc _).trans hk1).setCell (.inr (Nat.le_refl _)) _⟩

def sameB (s t : PS) : Bool := decide (s.words = t.words ∧ s.refresh = t.refresh) && decide (s.has = t.has) && decide (s.stamp = t.stamp) && decide (s.m = t.m)
theorem eq_bounds (a b c d : Int) (w : World) : (binOp .eql 61 (.agg #[.int .i64 a, .int .i64 b]) (.agg #[.int .i64 c, .int .i64 d])).run Try.prog w = .ok (.bool (decide (a = c ∧ b = d))) w := by
  have u3 := Try.underlying3
  have a3 := Try.isAgg3
  have z3 := Try.sizeOf3
  have hS : Try.prog.underlying 61 = some (.struct (Try.prog.fieldsOf 61)) := by kernel_rfl
  have hp : Try.prog.stoodInHeld 61 = false := by kernel_rfl
  rw [run_eql_struct, show (10000 : Nat) = 9999 + 1 from rfl, run_equalIn_agg w 9999 61 _ _ hS hp]
  simp only [Program.fieldsOf, Try.underlying61]
  go_simp
  by_cases h1 : a = c <;> by_cases h2 : b = d <;> simp [h1, h2]
theorem same_calls (w : World) (b d : Nat) (s t : PS) (hp : PortAt w b s) (hq : PortAt w d t) :
    Calls Try.prog 19 #[.pointer (some ⟨b, 0, none⟩), .pointer (some ⟨d, 0, none⟩)] w fun e w' => e = .returned (.bool (sameB s t)) ∧ ∃ n, w' = w.drewN n := by
  obtain ⟨pv, hb, hrow, hm⟩ := hp
  obtain ⟨qv, hd, hrow2, hm2⟩ := hq
  have c0 := blk_cell hb
  have d0 := blk_cell hd
  have hE : Hid (∀ n, Calls Try.prog 29 #[pv, qv] (w.drewN n) fun e w' => e = .returned (.bool (decide (s.m = t.m))) ∧ ∃ m, w' = (w.drewN n).drewN m) :=
    Lib.hid fun n => equal_calls (w.drewN n) _ _ _ _ _ _ hrow.sees hrow2.sees hm hm2
  obtain ⟨A, k, rfl⟩ := hrow.shape
  obtain ⟨A2, k2, rfl⟩ := hrow2.shape
  have heq := eq_bounds s.words s.refresh t.words t.refresh
  by_cases h1 : s.words = t.words ∧ s.refresh = t.refresh
  · rw [decide_eq_true h1] at heq
    by_cases h2 : s.has = t.has
    · have g2 : (s.has == t.has) = true := by simp [h2]
      by_cases h3 : s.stamp = t.stamp
      · have g3 : (s.stamp == t.stamp) = true := by simp [h3]
        have hs : sameB s t = decide (s.m = t.m) := by simp [sameB, h1, h2, h3]
        rw [hs]
        clear hs h1 h2 h3
        go_enter Try.func19, Try.ntmps19
        go_wp2
        go_quiet ((go_at_call 29; exact Calls.quiet_of (hE.out _)))
        go_wp2
        go_ret
        exact ⟨rfl, _, rfl⟩
      · have g3 : (s.stamp == t.stamp) = false := by simp [h3]
        have hs : sameB s t = false := by simp [sameB, h3]
        rw [hs]
        clear hs h1 h2 h3
        go_enter Try.func19, Try.ntmps19
        go_wp2
        go_quiet (fail)
        go_wp2
        go_ret
        exact ⟨rfl, _, rfl⟩
    · have g2 : (s.has == t.has) = false := by simp [h2]
      have hs : sameB s t = false := by simp [sameB, h2]
      rw [hs]
      clear hs h1 h2
      go_enter Try.func19, Try.ntmps19
      go_wp2
      go_quiet (fail)
      go_wp2
      go_ret
      exact ⟨rfl, _, rfl⟩
  · rw [decide_eq_false h1] at heq
    have hs : sameB s t = false := by simp [sameB, h1]
    rw [hs]
    clear hs h1
    go_enter Try.func19, Try.ntmps19
    go_wp2
    go_quiet (fail)
    go_wp2
    go_ret
    exact ⟨rfl, _, rfl⟩
end Go.Proofs.Ytfehjkhbjbcliaa
