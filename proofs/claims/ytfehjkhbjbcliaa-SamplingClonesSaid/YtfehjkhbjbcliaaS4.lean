/-
  What the document's Read comes to, and Read of both at whatever tick.
-/
import Derived.Test.YtfehjkhbjbcliaaS3
import Derived.Deep.RegionHeld3
namespace Go.Proofs.Ytfehjkhbjbcliaa
open Go.RowKit
set_option maxHeartbeats 400000
theorem rread_ok (w : World) (av : Value) (s : PS) (now : Int) (hp : RefAt w av s) (ht : tickB now = true) (hh : s.has = true) (hs0 : 0 ≤ s.stamp) (hs1 : s.stamp ≤ 1099511627776) (hr0 : 0 ≤ s.refresh) (hr1 : s.refresh ≤ 1048576) :
    Calls Try.prog 28 #[av, .int .i64 now] w (rdPost w s now) := by
  obtain ⟨pv, rfl, hrow, hm⟩ := hp
  rw [hh]
  clear hh
  have h1 := nums_one .u32 s.m
  have hb : (0 + s.m.length) * 4 ≤ 140737488355328 := by omega
  have hmx : 0 + s.m.length ≤ maxLen := by unfold maxLen; omega
  obtain ⟨A, k, rfl⟩ := hrow.shape
  have hsees := (hrow.sees.alloc (.cells #[.int .i64 s.words, .int .i64 s.refresh, .bool true, .slice A s.m.length k, .int .i64 s.stamp] 26))
  have hk0 : Kp [] w (w.alloc (.cells #[.int .i64 s.words, .int .i64 s.refresh, .bool true, .slice A s.m.length k, .int .i64 s.stamp] 26)) := (Kp.refl _ _).alloc _
  have hbk := blk_new w (.cells #[.int .i64 s.words, .int .i64 s.refresh, .bool true, .slice A s.m.length k, .int .i64 s.stamp] 26)
  go_enter Try.func28, Try.ntmps28
  go_wp2_with (go_at_call 30; refine (rtick_calls _ _).mono ?_; rintro e w' ⟨rfl, rfl⟩)
  generalize w.alloc (.cells #[.int .i64 s.words, .int .i64 s.refresh, .bool true, .slice A s.m.length k, .int .i64 s.stamp] 26) = W at *
  generalize w.heap.size = g at *
  have c0 := blk_cell hbk
  have HS : Hid (∀ V, Kp [] W V → Kp [] W V ∧ V.cell? ⟨g, 1, none⟩ = some (.int .i64 s.refresh) ∧ V.cell? ⟨g, 3, none⟩ = some (.slice A s.m.length k) ∧ V.cell? ⟨g, 4, none⟩ = some (.int .i64 s.stamp)) :=
    Lib.hid fun V hV => ⟨hV, blk_cell (hV.heap hbk (by simp)) 1, blk_cell (hV.heap hbk (by simp)) 3, blk_cell (hV.heap hbk (by simp)) 4⟩
  go_region_held3 (fun w' => Kp [] W w' ∧ w'.cell? ⟨g, 1, none⟩ = some (.int .i64 s.refresh) ∧ w'.cell? ⟨g, 3, none⟩ = some (.slice A s.m.length k) ∧ w'.cell? ⟨g, 4, none⟩ = some (.int .i64 s.stamp)) (first | exact HS.out _ (Kp.refl _ _).drew | exact HS.out _ ((Kp.refl _ _).alloc _).drew | exact HS.out _ hk2) (first | (refine step_app (v := .slice (some ⟨W.heap.size, 0, none⟩) 0 0) (xs := []) rfl rfl Try.underlying24 info37 rfl (by decide) rfl rfl ?_ ?_ h1 hb hmx ?_; (exact Row.made' #[] 0 (by simp) rfl (by decide)); (exact hsees.keep (‹Kp [] W _ ∧ _›).1 (by simp)); rintro v1 w1 hr1 hk1 hf1; have hk2 := ((‹Kp [] W _ ∧ _›).1).next hk1 (by simp [Value.ownBlock])))
  go_wp2
  go_ret3
  refine ⟨v1, by rw [IntWalk.i64_in _ (by omega)]; rfl, by simpa using hr1, hk0.trans hk2, fun b hb => Nat.le_trans hk0.size ?_⟩
  rcases hf1 b hb with h | h
  · simp [Value.ownBlock] at h; omega
  · simp at h; omega
/-! Read at whatever tick, and whatever was written. -/
def rdM (s : PS) (now : Int) : List Int := if tickB now then if s.has then s.m else [] else []
def rdOk (s : PS) (now : Int) : Bool := if tickB now then if s.has then decide (now ≤ s.stamp + s.refresh) else false else false
def rdErr (s : PS) (now : Int) : Int := if tickB now then if s.has then 0 else 9 else 1
structure PSok (s : PS) : Prop where
  w0 : 1 ≤ s.words
  w1 : s.words ≤ 32
  r0 : 0 ≤ s.refresh
  r1 : s.refresh ≤ 1048576
  s0 : 0 ≤ s.stamp
  s1 : s.stamp ≤ 1099511627776
  z : s.has = false → s.stamp = 0
def rdP (w : World) (s : PS) (now : Int) (e : Ending) (w' : World) : Prop :=
  ∃ v, e = .returned (.tuple #[v, .bool (rdOk s now), .int .i64 (rdErr s now)]) ∧ Row w' 37 1 v (rdM s now).length (nums .u32 (rdM s now)) ∧ Kp [] w w' ∧ ∀ b ∈ v.ownBlock, w.heap.size ≤ b
theorem read_calls (w : World) (b : Nat) (s : PS) (now : Int) (hp : PortAt w b s) (ho : PSok s) :
    Calls Try.prog 12 #[.pointer (some ⟨b, 0, none⟩), .int .i64 now] w (rdP w s now) := by
  by_cases ht : tickB now = true
  · cases hh : s.has
    · have e1 : rdOk s now = false := by simp [rdOk, hh]
      have e2 : rdErr s now = 9 := by simp [rdErr, ht, hh]
      have e3 : rdM s now = [] := by simp [rdM, hh]
      unfold rdP
      rw [e1, e2, e3]
      obtain ⟨pv, hb, hrow, hm⟩ := hp
      have c0 := blk_cell hb
      rw [hh] at c0
      clear e1 e2 e3 hh
      go_enter Try.func12, Try.ntmps12
      go_wp2_with (go_at_call 25; refine (tick_calls _ _).mono ?_; rintro e w' ⟨rfl, rfl⟩)
      go_ret3
      exact ⟨_, rfl, Row.nil _ _ _, Kp.refl _ _, by simp [Value.ownBlock]⟩
    · have e1 : rdOk s now = decide (now ≤ s.stamp + s.refresh) := by simp [rdOk, ht, hh]
      have e2 : rdErr s now = 0 := by simp [rdErr, ht, hh]
      have e3 : rdM s now = s.m := by simp [rdM, ht, hh]
      unfold rdP
      rw [e1, e2, e3]
      exact read_ok w b s now hp ht hh ho.s0 ho.s1 ho.r0 ho.r1
  · have e1 : rdOk s now = false := by simp [rdOk, ht]
    have e2 : rdErr s now = 1 := by simp [rdErr, ht]
    have e3 : rdM s now = [] := by simp [rdM, ht]
    have ht' : tickB now = false := by simpa using ht
    unfold rdP
    rw [e1, e2, e3]
    clear e1 e2 e3 ht
    go_enter Try.func12, Try.ntmps12
    go_wp2_with (go_at_call 25; refine (tick_calls _ _).mono ?_; rintro e w' ⟨rfl, rfl⟩)
    go_ret3
    exact ⟨_, rfl, Row.nil _ _ _, Kp.refl _ _, by simp [Value.ownBlock]⟩
theorem rread_calls (w : World) (av : Value) (s : PS) (now : Int) (hp : RefAt w av s) (ho : PSok s) :
    Calls Try.prog 28 #[av, .int .i64 now] w (rdP w s now) := by
  by_cases ht : tickB now = true
  · cases hh : s.has
    · have e1 : rdOk s now = false := by simp [rdOk, hh]
      have e2 : rdErr s now = 9 := by simp [rdErr, ht, hh]
      have e3 : rdM s now = [] := by simp [rdM, hh]
      unfold rdP
      rw [e1, e2, e3]
      obtain ⟨pv, rfl, hrow, hm⟩ := hp
      obtain ⟨A, k, rfl⟩ := hrow.shape
      rw [hh]
      clear e1 e2 e3 hh
      go_enter Try.func28, Try.ntmps28
      go_wp2_with (go_at_call 30; refine (rtick_calls _ _).mono ?_; rintro e w' ⟨rfl, rfl⟩)
      go_ret3
      exact ⟨_, rfl, Row.nil _ _ _, (Kp.refl _ _).alloc _, by simp [Value.ownBlock]⟩
    · have e1 : rdOk s now = decide (now ≤ s.stamp + s.refresh) := by simp [rdOk, ht, hh]
      have e2 : rdErr s now = 0 := by simp [rdErr, ht, hh]
      have e3 : rdM s now = s.m := by simp [rdM, ht, hh]
      unfold rdP
      rw [e1, e2, e3]
      exact rread_ok w av s now hp ht hh ho.s0 ho.s1 ho.r0 ho.r1
  · have e1 : rdOk s now = false := by simp [rdOk, ht]
    have e2 : rdErr s now = 1 := by simp [rdErr, ht]
    have e3 : rdM s now = [] := by simp [rdM, ht]
    have ht' : tickB now = false := by simpa using ht
    unfold rdP
    rw [e1, e2, e3]
    obtain ⟨pv, rfl, hrow, hm⟩ := hp
    obtain ⟨A, k, rfl⟩ := hrow.shape
    clear e1 e2 e3 ht
    go_enter Try.func28, Try.ntmps28
    go_wp2_with (go_at_call 30; refine (rtick_calls _ _).mono ?_; rintro e w' ⟨rfl, rfl⟩)
    go_ret3
    exact ⟨_, rfl, Row.nil _ _ _, (Kp.refl _ _).alloc _, by simp [Value.ownBlock]⟩
end Go.Proofs.Ytfehjkhbjbcliaa
