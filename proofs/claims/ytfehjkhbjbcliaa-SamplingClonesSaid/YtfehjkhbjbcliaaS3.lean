import Derived.Test.YtfehjkhbjbcliaaS2
namespace Go.Proofs.Ytfehjkhbjbcliaa
open Go.RowKit
set_option maxHeartbeats 400000

/-- The document's port, as a value. -/
def RefAt (w : World) (av : Value) (s : PS) : Prop :=
  ∃ v, av = .agg #[.int .i64 s.words, .int .i64 s.refresh, .bool s.has, v, .int .i64 s.stamp] ∧ Row w 37 1 v s.m.length (nums .u32 s.m) ∧ s.m.length ≤ 1000000
theorem RefAt.keep {S : List Nat} {w w' : World} {av : Value} {s : PS} (h : RefAt w av s) (hk : Kp S w w') (hS : ∀ b ∈ S, w.heap.size ≤ b ∨ ∃ cs, w.heap[b]? = some (.cells cs 63)) : RefAt w' av s := by
  obtain ⟨v, rfl, hr, hm⟩ := h
  refine ⟨v, rfl, hr.keep hk fun b hb hbS => ?_, hm⟩
  rcases hS b hbS with h | ⟨cs, h⟩
  · have := hr.lt b hb; omega
  · exact hr.ne h (by decide) hb
theorem rtick_calls (n : Int) (w : World) :
    Calls Try.prog 30 #[.int .i64 n] w fun e w' => e = .returned (.bool (tickB n)) ∧ w = w' := by
  by_cases h : 0 ≤ n
  · go_enter Try.func30, Try.ntmps30
    go_wp2
    go_ret
    exact ⟨by simp [tickB, h], rfl⟩
  · go_enter Try.func30, Try.ntmps30
    go_wp2
    go_ret
    exact ⟨by have : decide (0 ≤ n) = false := by simpa using h
              simp [tickB, this], rfl⟩
theorem rwrite_calls (w : World) (av : Value) (s : PS) (now : Int) (v : Value) (n : Nat) (xs : List Int) (hp : RefAt w av s) (hs : Sees w 1 v n (nums .u32 xs)) (hn : n ≤ 1000000) :
    Calls Try.prog 27 #[av, .int .i64 now, v] w fun e w' => ∃ av', e = .returned (.tuple #[av', .int .i64 (wrErr s now xs)]) ∧ RefAt w' av' (wrSt s now xs) ∧ Kp [] w w' := by
  obtain ⟨pv, rfl, hrow, hm⟩ := hp
  obtain ⟨A, c, rfl⟩ := hs.shape
  obtain ⟨A0, k0, rfl⟩ := hrow.shape
  have hl := hs.ilen
  by_cases ht : tickB now = true
  · by_cases hw : s.words < (n : Int)
    · have e1 : wrErr s now xs = 2 := by simp [wrErr, ht, hl, hw]
      have e2 : wrSt s now xs = s := by simp [wrSt, ht, hl, hw]
      rw [e1, e2]
      clear e1 e2 hl
      go_enter Try.func27, Try.ntmps27
      go_wp2_with (go_at_call 30; refine (rtick_calls _ _).mono ?_; rintro e w' ⟨rfl, rfl⟩)
      refine bodyPost_ret (v := .tuple #[.agg #[.int .i64 s.words, .int .i64 s.refresh, .bool s.has, .slice A0 s.m.length k0, .int .i64 s.stamp], .int .i64 2]) (by simp [results, Try.results27, go_sem]) rfl ⟨_, rfl, ⟨_, rfl, ?_, hm⟩, ?_⟩
      · exact (hrow.alloc _).alloc _
      · exact ((Kp.refl [] w).alloc _).alloc _
    · have e1 : wrErr s now xs = 0 := by simp [wrErr, ht, hl, hw]
      have e2 : wrSt s now xs = { s with m := xs, stamp := now, has := true } := by simp [wrSt, ht, hl, hw]
      rw [e1, e2]
      have Hl := Lib.hid hl
      clear e1 e2 hl
      have h1 := nums_one .u32 xs
      have hb : (0 + n) * 4 ≤ 140737488355328 := by omega
      have hmx : 0 + n ≤ maxLen := by unfold maxLen; omega
      go_enter Try.func27, Try.ntmps27
      go_wp2_with (first | (go_at_call 30; refine (rtick_calls _ _).mono ?_; rintro e w' ⟨rfl, rfl⟩) | (at_builtin; refine wpl_app (xs := []) rfl rfl Try.underlying24 info37 rfl (by decide) rfl rfl ?_ ?_ h1 hb hmx ?_; (exact Row.made' #[] 0 (by simp) rfl (by decide)); (exact ((hs.alloc _).alloc _).alloc _)))
      intro v' w1 hr1 hk1 hf1
      have hb1 := hk1.heap (blk_alloc (blk_alloc (blk_new w _) _) _) (by simp [Value.ownBlock]; omega)
      have hb2 := hk1.heap (blk_alloc (blk_new' (w.alloc _) _ (g := w.heap.size + 1) (by simp)) _) (by simp [Value.ownBlock])
      have c1 := blk_cell hb1
      have f1 := blk_free hb1
      have c2 := blk_cell hb2
      have f2 := blk_free hb2
      have l1 := blk_lt hb1
      have l2 := blk_lt hb2
      obtain ⟨A1, k1, rfl⟩ := hr1.shape
      go_wp2
      have n1 : w.heap.size ∉ (Value.slice A1 n k1).ownBlock := fun h => by have := hf1 _ h; simp [Value.ownBlock] at this; omega
      have n2 : w.heap.size + 1 ∉ (Value.slice A1 n k1).ownBlock := fun h => by have := hf1 _ h; simp [Value.ownBlock] at this; omega
      have hbF := blk_set (blk_set (blk_set (blk_set (blk_set (blk_set_other (blk_set_other (blk_set_other hb2 ⟨w.heap.size, 2, none⟩ (by simp) (.bool true)) ⟨w.heap.size, 3, none⟩ (by simp) (.slice A1 n k1)) ⟨w.heap.size, 4, none⟩ (by simp) (.int .i64 now)) 0 (.int .i64 s.words)) 1 (.int .i64 s.refresh)) 2 (.bool true)) 3 (.slice A1 n k1)) 4 (.int .i64 now)
      have cF := blk_cell hbF
      refine bodyPost_ret (v := .tuple #[.agg #[.int .i64 s.words, .int .i64 s.refresh, .bool true, .slice A1 n k1, .int .i64 now], .int .i64 0]) (by simp [results, Try.results27, go_sem, cF]) rfl ⟨_, rfl, ⟨_, rfl, ?_, by show xs.length ≤ _; rw [Hl.out]; exact hn⟩, ?_⟩
      · show Row _ _ _ _ xs.length _
        rw [Hl.out]
        exact (((((((hr1.put n1 _).put n1 _).put n1 _).put n2 _).put n2 _).put n2 _).put n2 _).put n2 _
      · refine (((((((Kp.setCell ?_ (.inr ?_) _).setCell (.inr ?_) _).setCell (.inr ?_) _).setCell (.inr ?_) _).setCell (.inr ?_) _).setCell (.inr ?_) _).setCell (.inr ?_) _).setCell (.inr ?_) _
        · exact ((((Kp.refl [] w).alloc _).alloc _).alloc _).next hk1 (by simp [Value.ownBlock]; omega)
        all_goals simp
  · have e1 : wrErr s now xs = 1 := by simp [wrErr, ht]
    have e2 : wrSt s now xs = s := by simp [wrSt, ht]
    rw [e1, e2]
    have ht' : tickB now = false := by simpa using ht
    clear e1 e2 hl ht
    go_enter Try.func27, Try.ntmps27
    go_wp2_with (go_at_call 30; refine (rtick_calls _ _).mono ?_; rintro e w' ⟨rfl, rfl⟩)
    exact bodyPost_ret (v := .tuple #[.agg #[.int .i64 s.words, .int .i64 s.refresh, .bool s.has, .slice A0 s.m.length k0, .int .i64 s.stamp], .int .i64 1]) (by simp [results, Try.results27, go_sem]) rfl ⟨_, rfl, ⟨_, rfl, (hrow.alloc _).alloc _, hm⟩, ((Kp.refl [] w).alloc _).alloc _⟩
end Go.Proofs.Ytfehjkhbjbcliaa
