/-
  What the given functions of package sampling and of slices come to: New, Write, Read of a port that is there.
-/
import Derived.Test.YtfehjkhbjbcliaaR
import Derived.IntWalk
import Derived.Deep.RegionHeld3
namespace Go.Proofs.Ytfehjkhbjbcliaa
open Go.RowKit
theorem info37 : (Try.prog.info? 37).map (fun i => (i.zero, i.size, i.bytes)) = some (some (.int .u32 0), 1, 4) := by kernel_rfl

def tickB (n : Int) : Bool := decide (0 ≤ n) && decide (n ≤ 1099511627776)
set_option maxHeartbeats 400000 in
theorem tick_calls (n : Int) (w : World) :
    Calls Try.prog 25 #[.int .i64 n] w fun e w' => e = .returned (.bool (tickB n)) ∧ w = w' := by
  by_cases h : 0 ≤ n
  · go_enter Try.func25, Try.ntmps25
    go_wp2
    go_ret
    exact ⟨by simp [tickB, h], rfl⟩
  · go_enter Try.func25, Try.ntmps25
    go_wp2
    go_ret
    exact ⟨by have : decide (0 ≤ n) = false := by simpa using h
              simp [tickB, this], rfl⟩

set_option maxHeartbeats 400000 in
theorem clone_calls (w : World) (v : Value) (n : Nat) (xs : List Value) (h : Sees w 1 v n xs) (h1 : ∀ u ∈ xs, u.oneCell' = true) (hn : n ≤ 1000000) :
    Calls Try.prog 26 #[v] w fun e w' => ∃ v', e = .returned v' ∧ Row w' 37 1 v' n xs ∧ Kp [] w w' ∧ ∀ b ∈ v'.ownBlock, w.heap.size ≤ b := by
  rcases h.2.2 with ⟨rfl, rfl⟩ | ⟨ad, c, rfl, _, _, _, hc⟩
  · have hq : ∀ (w : World), (binOp .eql 24 (.slice none 0 0) (.slice none 0 0)).run Try.prog w = .ok (.bool true) w := fun _ => by kernel_rfl
    have hx : xs = [] := List.eq_nil_of_length_eq_zero (by simpa using h.1)
    go_enter Try.func26, Try.ntmps26
    go_wp2
    go_ret
    exact ⟨_, rfl, by rw [hx]; exact Row.nil _ _ _, Kp.refl _ _, by simp [Value.ownBlock]⟩
  · have hq : ∀ (w : World), (binOp .eql 24 (.slice (some ad) n c) (.slice none 0 0)).run Try.prog w = .ok (.bool false) w := fun _ => by kernel_rfl
    have h0 : Row (w.alloc (.cells #[] 37)) 37 1 (.slice (some ⟨w.heap.size, 0, none⟩) 0 0) 0 [] := Row.made #[] 0 rfl (by decide)
    have hs : Sees (w.alloc (.cells #[] 37)) 1 (.slice (some ad) n c) n xs := h.keep ((Kp.refl [] w).alloc _) (by simp)
    have hb : (0 + n) * 4 ≤ 140737488355328 := by omega
    have hm : 0 + n ≤ maxLen := by unfold maxLen; omega
    go_enter Try.func26, Try.ntmps26
    go_wp2_with (at_builtin; refine wpl_app rfl rfl Try.underlying24 info37 rfl (by decide) rfl rfl h0 hs h1 hb hm ?_)
    intro v' w' hr hk hf
    go_wp2
    go_ret
    refine ⟨_, rfl, by simpa using hr, ((Kp.refl [] w).alloc _).next hk (by simp [Value.ownBlock]), fun b hb => ?_⟩
    rcases hf b hb with h | h
    · simp [Value.ownBlock] at h; omega
    · exact Nat.le_trans (by simp) h
structure PS where
  words : Int
  refresh : Int
  m : List Int
  stamp : Int
  has : Bool
def PortAt (w : World) (b : Nat) (s : PS) : Prop :=
  ∃ v, w.heap[b]? = some (.cells #[.int .i64 s.words, .int .i64 s.refresh, v, .int .i64 s.stamp, .bool s.has] 63) ∧ Row w 37 1 v s.m.length (nums .u32 s.m) ∧ s.m.length ≤ 1000000

set_option maxHeartbeats 400000 in
theorem new_bad (a b : Int) (w : World) (h : a < 1 ∨ 32 < a ∨ b < 0 ∨ 1048576 < b) :
    Calls Try.prog 14 #[.int .i64 a, .int .i64 b] w fun e w' => e = .returned (.tuple #[.pointer none, .int .i64 1]) ∧ w = w' := by
  by_cases h1 : a < 1
  · go_enter Try.func14, Try.ntmps14
    go_wp2
    go_ret2
    exact ⟨rfl, rfl⟩
  · by_cases h2 : 32 < a
    · go_enter Try.func14, Try.ntmps14
      go_wp2
      go_ret2
      exact ⟨rfl, rfl⟩
    · by_cases h3 : b < 0
      · go_enter Try.func14, Try.ntmps14
        go_wp2
        go_ret2
        exact ⟨rfl, rfl⟩
      · have h4 : 1048576 < b := by omega
        go_enter Try.func14, Try.ntmps14
        go_wp2
        go_ret2
        exact ⟨rfl, rfl⟩
set_option maxHeartbeats 400000 in
theorem new_ok (a b : Int) (w : World) (h1 : 1 ≤ a) (h2 : a ≤ 32) (h3 : 0 ≤ b) (h4 : b ≤ 1048576) :
    Calls Try.prog 14 #[.int .i64 a, .int .i64 b] w fun e w' => ∃ g, e = .returned (.tuple #[.pointer (some ⟨g, 0, none⟩), .int .i64 0]) ∧ PortAt w' g ⟨a, b, [], 0, false⟩ ∧ w.heap.size ≤ g ∧ Kp [] w w' := by
  go_enter Try.func14, Try.ntmps14
  go_wp2
  go_ret2
  exact ⟨_, rfl, ⟨_, blk_new _ _, Row.nil _ _ _, by simp⟩, Nat.le_refl _, (Kp.refl _ _).alloc _⟩

def wrErr (s : PS) (now : Int) (xs : List Int) : Int := if tickB now then if s.words < xs.length then 2 else 0 else 1
def wrSt (s : PS) (now : Int) (xs : List Int) : PS := if tickB now then if s.words < xs.length then s else { s with m := xs, stamp := now, has := true } else s
set_option maxHeartbeats 400000 in
theorem write_calls (w : World) (b : Nat) (s : PS) (now : Int) (v : Value) (n : Nat) (xs : List Int) (hp : PortAt w b s) (hs : Sees w 1 v n (nums .u32 xs)) (hn : n ≤ 1000000) :
    Calls Try.prog 11 #[.pointer (some ⟨b, 0, none⟩), .int .i64 now, v] w fun e w' => e = .returned (.int .i64 (wrErr s now xs)) ∧ PortAt w' b (wrSt s now xs) ∧ Kp [b] w w' := by
  obtain ⟨pv, hb, hrow, hm⟩ := hp
  obtain ⟨A, c, rfl⟩ := hs.shape
  have hl := hs.ilen
  have h0 : w.cell? ⟨b, 0, none⟩ = some (.int .i64 s.words) := blk_cell hb 0
  by_cases ht : tickB now = true
  · by_cases hw : s.words < (n : Int)
    · have e1 : wrErr s now xs = 2 := by simp [wrErr, ht, hl, hw]
      have e2 : wrSt s now xs = s := by simp [wrSt, ht, hl, hw]
      rw [e1, e2]
      clear e1 e2 hl
      go_enter Try.func11, Try.ntmps11
      go_wp2_with (go_at_call 25; refine (tick_calls _ _).mono ?_; rintro e w' ⟨rfl, rfl⟩)
      go_ret
      exact ⟨rfl, ⟨_, hb, hrow, hm⟩, Kp.refl _ _⟩
    · have e1 : wrErr s now xs = 0 := by simp [wrErr, ht, hl, hw]
      have e2 : wrSt s now xs = { s with m := xs, stamp := now, has := true } := by simp [wrSt, ht, hl, hw]
      rw [e1, e2]
      have Hl := Lib.hid hl
      clear e1 e2 hl
      have h1 := nums_one .u32 xs
      go_enter Try.func11, Try.ntmps11
      go_wp2_with (go_at_call 25; refine (tick_calls _ _).mono ?_; rintro e w' ⟨rfl, rfl⟩)
      refine (clone_calls _ _ _ _ hs h1 hn).mono ?_
      rintro e w1 ⟨v1, rfl, hr1, hk1, hf1⟩
      have hb1 := hk1.heap hb (by simp)
      have f0 := blk_free hb1
      have c0 := blk_cell hb1
      obtain ⟨A1, c1, rfl⟩ := hr1.shape
      go_wp2
      go_ret
      have hn1 : b ∉ (Value.slice A1 n c1).ownBlock := fun h => by have := hf1 b h; have := blk_lt hb; omega
      refine ⟨rfl, ⟨_, blk_set (blk_set (blk_set hb1 2 _) 3 _) 4 _, ?_, by show xs.length ≤ _; rw [Hl.out]; exact hn⟩, ((((hk1.nil_to).setCell (by simp) _).setCell (by simp) _).setCell (by simp) _)⟩
      show Row _ _ _ _ xs.length _
      rw [Hl.out]
      exact ((hr1.put hn1 _).put hn1 _).put hn1 _
  · have e1 : wrErr s now xs = 1 := by simp [wrErr, ht]
    have e2 : wrSt s now xs = s := by simp [wrSt, ht]
    rw [e1, e2]
    have ht' : tickB now = false := by simpa using ht
    clear e1 e2 hl ht
    go_enter Try.func11, Try.ntmps11
    go_wp2_with (go_at_call 25; refine (tick_calls _ _).mono ?_; rintro e w' ⟨rfl, rfl⟩)
    go_ret
    exact ⟨rfl, ⟨_, hb, hrow, hm⟩, Kp.refl _ _⟩

def rdPost (w : World) (s : PS) (now : Int) (e : Ending) (w' : World) : Prop :=
  ∃ v, e = .returned (.tuple #[v, .bool (decide (now ≤ s.stamp + s.refresh)), .int .i64 0]) ∧ Row w' 37 1 v s.m.length (nums .u32 s.m) ∧ Kp [] w w' ∧ ∀ b ∈ v.ownBlock, w.heap.size ≤ b
set_option maxHeartbeats 400000 in
theorem read_ok (w : World) (b : Nat) (s : PS) (now : Int) (hp : PortAt w b s) (ht : tickB now = true) (hh : s.has = true) (hs0 : 0 ≤ s.stamp) (hs1 : s.stamp ≤ 1099511627776) (hr0 : 0 ≤ s.refresh) (hr1 : s.refresh ≤ 1048576) :
    Calls Try.prog 12 #[.pointer (some ⟨b, 0, none⟩), .int .i64 now] w (rdPost w s now) := by
  obtain ⟨pv, hb, hrow, hm⟩ := hp
  obtain ⟨A, c, rfl⟩ := hrow.shape
  have c0 := blk_cell hb
  rw [hh] at c0 hb
  have h1 := nums_one .u32 s.m
  have HC : Hid (∀ W, Kp [] w W → Calls Try.prog 26 #[.slice A s.m.length c] W fun e w' => ∃ v', e = .returned v' ∧ Row w' 37 1 v' s.m.length (nums .u32 s.m) ∧ Kp [] w w' ∧ (∀ b ∈ v'.ownBlock, w.heap.size ≤ b) ∧ ∀ i, w'.cell? ⟨b, i, none⟩ = w.cell? ⟨b, i, none⟩) := by
    refine Lib.hid fun W hW => (clone_calls W _ _ _ (hrow.sees.keep hW (by simp)) h1 hm).mono ?_
    rintro e w1 ⟨v1, rfl, hr1, hk1, hf1⟩
    have hk2 := hW.trans hk1
    exact ⟨_, rfl, hr1, hk2, fun b hb => Nat.le_trans hW.size (hf1 b hb), fun i => by rw [c0, blk_cell (hk2.heap hb (by simp))]⟩
  go_enter Try.func12, Try.ntmps12
  go_wp2_with (go_at_call 25; refine (tick_calls _ _).mono ?_; rintro e w' ⟨rfl, rfl⟩)
  go_region_held3 (fun w' => Kp [] w w' ∧ w'.cell? ⟨b, 0, none⟩ = some (.int .i64 s.words) ∧ w'.cell? ⟨b, 1, none⟩ = some (.int .i64 s.refresh) ∧ w'.cell? ⟨b, 2, none⟩ = some (.slice A s.m.length c) ∧ w'.cell? ⟨b, 3, none⟩ = some (.int .i64 s.stamp)) (first | exact ⟨(Kp.refl _ _).drew, c0 0, c0 1, c0 2, c0 3⟩ | exact ⟨hk2, (d0 0).trans (c0 0), (d0 1).trans (c0 1), (d0 2).trans (c0 2), (d0 3).trans (c0 3)⟩) (first | (go_at_call 26; refine (HC.out _ ?_).mono ?_; exact (‹Kp [] w _ ∧ _›).1; rintro e w1 ⟨v1, rfl, hr1, hk2, hf1, d0⟩))
  go_wp2
  go_ret3
  exact ⟨v1, by rw [IntWalk.i64_in _ (by omega)]; rfl, hr1, hk2, hf1⟩

theorem list_eq_of (xs ys : List Int) (hl : xs.length = ys.length) (h : ∀ j, j < xs.length → xs.getD j 0 = ys.getD j 0) : xs = ys := by
  apply List.ext_getElem hl
  intro i h1 h2
  have := h i h1
  simpa [List.getD_eq_getElem?_getD, h1, h2] using this
set_option maxHeartbeats 400000 in
theorem equal_calls (w : World) (v1 : Value) (n1 : Nat) (xs : List Int) (v2 : Value) (n2 : Nat) (ys : List Int) (h1 : Sees w 1 v1 n1 (nums .u32 xs)) (h2 : Sees w 1 v2 n2 (nums .u32 ys)) (b1 : n1 ≤ 1000000) (b2 : n2 ≤ 1000000) :
    Calls Try.prog 29 #[v1, v2] w fun e w' => e = .returned (.bool (decide (xs = ys))) ∧ ∃ n, w' = w.drewN n := by
  obtain ⟨A1, c1, rfl⟩ := h1.shape
  obtain ⟨A2, c2, rfl⟩ := h2.shape
  have l1 := h1.ilen
  have l2 := h2.ilen
  by_cases hl : n1 = n2
  · subst hl
    have L1 := Lib.hid l1
    have L2 := Lib.hid l2
    clear l1 l2
    have p1 := h1.place
    have p2 := h2.place
    go_enter Try.func29, Try.ntmps29
    go_wp2
    go_loopw [13] (fun i wr => ∃ k n : Nat, k ≤ n1 ∧ i = .int .i64 k ∧ wr = w.drewN n ∧ Hid (∀ j, j < k → xs.getD j 0 = ys.getD j 0)) (fun i _ => n1 - (intOf i).toNat)
    case atStart => exact ⟨0, 0, Nat.zero_le _, rfl, rfl, Lib.hid (fun j h => absurd h (by omega))⟩
    case round =>
      obtain ⟨k, n, hk, rfl, rfl, hall⟩ := hrel
      by_cases hlt : k < n1
      · obtain ⟨g1, o1, rfl⟩ := p1 (by omega)
        obtain ⟨g2, o2, rfl⟩ := p2 (by omega)
        have e1 := h1.int k hlt
        have e2 := h2.int k hlt
        generalize hx : xs.getD k 0 = x at e1
        generalize hy : ys.getD k 0 = y at e2
        have Hx := Lib.hid hx
        have Hy := Lib.hid hy
        clear hx hy
        by_cases he : x = y
        · subst he
          have hq : (x != x) = false := by simp
          go_wp2
          go_quiet (fail)
          go_wp2
          go_roundw
          case rel => exact ⟨k + 1, _, by omega, by go_num, rfl, Lib.hid (fun j hj => by
            by_cases hjk : j < k
            · exact hall.out j hjk
            · obtain rfl : j = k := by omega
              rw [Hx.out, Hy.out])⟩
          case measure => simp [intOf]; omega
        · have hq : (x != y) = true := by simpa using he
          have hne : decide (xs = ys) = false := by
            rw [decide_eq_false_iff_not]; rintro rfl; exact he (Hx.out.symm.trans Hy.out)
          have Hne := Lib.hid hne
          clear hne
          go_wp2
          go_quiet (fail)
          go_wp2
          go_ret
          exact ⟨by rw [Hne.out]; rfl, _, World.drewN_drewN ..⟩
      · obtain rfl : k = n1 := by omega
        have hxy : xs = ys := list_eq_of xs ys (by rw [L1.out, L2.out]) (fun j hj => hall.out j (by rw [← L1.out]; exact hj))
        subst hxy
        go_wp2
        go_ret
        exact ⟨by simp, _, rfl⟩
  · have hne : decide (xs = ys) = false := by
      rw [decide_eq_false_iff_not]; rintro rfl; exact hl (by omega)
    rw [hne]
    have hq : ((n1 : Int) != (n2 : Int)) = true := by rw [bne_iff_ne]; omega
    have L1 := Lib.hid l1
    have L2 := Lib.hid l2
    clear l1 l2 hne
    go_enter Try.func29, Try.ntmps29
    go_wp2
    go_ret
    exact ⟨rfl, 0, rfl⟩
end Go.Proofs.Ytfehjkhbjbcliaa
