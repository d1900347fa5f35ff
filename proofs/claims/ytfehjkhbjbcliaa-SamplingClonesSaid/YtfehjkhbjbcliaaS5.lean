/-
  What few, and the comparisons of the document come to.
-/
import Derived.Test.YtfehjkhbjbcliaaS4
namespace Go.Proofs.Ytfehjkhbjbcliaa
open Go.RowKit
set_option maxHeartbeats 400000
/-- A slice's head. -/
theorem Sees.head {w : World} {ad : Addr} {n c : Nat} {k : IntKind} {xs : List Int} (h : Sees w 1 (.slice (some ad) n c) n (nums k xs)) (m : Nat) (hm : m ≤ n) : Sees w 1 (.slice (some ad) m c) m (nums k (xs.take m)) := by
  have hl := h.ilen
  rcases h.2.2 with ⟨h0, _⟩ | ⟨ad', c', he, h1, h2, h3, hc⟩
  · simp at h0
  · simp only [Value.slice.injEq, Option.some.injEq] at he
    obtain ⟨rfl, _, rfl⟩ := he
    refine ⟨by simp [nums]; omega, by have := h.2.1; omega, .inr ⟨ad, c, rfl, by omega, h2, fun h => h3 (by omega), fun j u hj => ?_⟩⟩
    refine hc j u ?_
    simp only [nums, List.map_take] at hj ⊢
    rw [List.getElem?_take] at hj
    split at hj
    · exact hj
    · simp at hj
def cutTo (m : Nat) : Value → Value
  | .slice A n c => .slice A (min n m) c
  | v => v
theorem Sees.cut {w : World} {n : Nat} {k : IntKind} {v : Value} {xs : List Int} (h : Sees w 1 v n (nums k xs)) (m : Nat) : Sees w 1 (cutTo m v) (min n m) (nums k (xs.take m)) := by
  have hl := h.ilen
  rcases h.2.2 with ⟨rfl, rfl⟩ | ⟨ad, c, rfl, hc1, hc2, hc3, hc⟩
  · have hx : xs = [] := List.eq_nil_of_length_eq_zero hl
    subst hx
    simpa [cutTo] using h
  · have := h.head (min n m) (Nat.min_le_left _ _)
    rw [show xs.take (min n m) = xs.take m from by
      by_cases hnm : n ≤ m
      · rw [Nat.min_eq_left hnm, List.take_of_length_le (by omega), List.take_of_length_le (by omega)]
      · rw [Nat.min_eq_right (by omega)]] at this
    exact this
theorem few_calls (w : World) (v : Value) (n : Nat) (xs : List Int) (h : Sees w 1 v n (nums .u32 xs)) :
    Calls Try.prog 18 #[v] w fun e w' => e = .returned (cutTo 40 v) ∧ w = w' := by
  have hm := h.2.1
  unfold maxLen at hm
  rcases h.2.2 with ⟨rfl, rfl⟩ | ⟨ad, c, rfl, hc1, hc2, hc3, hc⟩
  · go_enter Try.func18, Try.ntmps18
    go_wp2
    go_ret
    exact ⟨rfl, rfl⟩
  · unfold maxLen at hc2
    have Hc := Lib.hid hc
    clear hc
    by_cases hn : n ≤ 40
    · have e : cutTo 40 (.slice (some ad) n c) = .slice (some ad) n c := by simp [cutTo, hn]
      rw [e]
      clear e
      go_enter Try.func18, Try.ntmps18
      go_wp2
      go_ret
      exact ⟨rfl, rfl⟩
    · have e : cutTo 40 (.slice (some ad) n c) = .slice (some ad) 40 c := by simp [cutTo]; omega
      rw [e]
      clear e
      go_enter Try.func18, Try.ntmps18
      go_wp2
      go_ret
      exact ⟨rfl, rfl⟩
/-- The document's own comparison of words. -/
theorem rwords_calls (w : World) (v1 : Value) (n1 : Nat) (xs : List Int) (v2 : Value) (n2 : Nat) (ys : List Int) (h1 : Sees w 1 v1 n1 (nums .u32 xs)) (h2 : Sees w 1 v2 n2 (nums .u32 ys)) (b1 : n1 ≤ 1000000) (b2 : n2 ≤ 1000000) :
    Calls Try.prog 13 #[v1, v2] w fun e w' => e = .returned (.bool (decide (xs = ys))) ∧ ∃ n, w' = w.drewN n := by
  obtain ⟨A1, c1, rfl⟩ := h1.shape
  obtain ⟨A2, c2, rfl⟩ := h2.shape
  have l1 := h1.ilen
  have l2 := h2.ilen
  by_cases hl : n1 = n2
  · subst hl
    have L1 := Lib.hid l1
    have L2 := Lib.hid l2
    clear l1 l2
    have p1 := h1.place
    have p2 := h2.place
    go_enter Try.func13, Try.ntmps13
    go_wp2
    go_loopw [5] (fun i wr => ∃ k n : Nat, k ≤ n1 ∧ i = .int .i64 k ∧ wr = w.drewN n ∧ Hid (∀ j, j < k → xs.getD j 0 = ys.getD j 0)) (fun i _ => n1 - (intOf i).toNat)
    case atStart => exact ⟨0, 0, Nat.zero_le _, rfl, rfl, Lib.hid (fun j h => absurd h (by omega))⟩
    case round =>
      obtain ⟨k, n, hk, rfl, rfl, hall⟩ := hrel
      by_cases hlt : k < n1
      · obtain ⟨g1, o1, rfl⟩ := p1 (by omega)
        obtain ⟨g2, o2, rfl⟩ := p2 (by omega)
        have e1 := h1.int k hlt
        have e2 := h2.int k hlt
        generalize hx : xs.getD k 0 = x at e1
        generalize hy : ys.getD k 0 = y at e2
        have Hx := Lib.hid hx
        have Hy := Lib.hid hy
        clear hx hy
        by_cases he : x = y
        · subst he
          have hq : (x != x) = false := by simp
          go_wp2
          go_quiet (fail)
          go_wp2
          go_roundw
          case rel => exact ⟨k + 1, _, by omega, by go_num, rfl, Lib.hid (fun j hj => by
            by_cases hjk : j < k
            · exact hall.out j hjk
            · obtain rfl : j = k := by omega
              rw [Hx.out, Hy.out])⟩
          case measure => simp [intOf]; omega
        · have hq : (x != y) = true := by simpa using he
          have hne : decide (xs = ys) = false := by
            rw [decide_eq_false_iff_not]; rintro rfl; exact he (Hx.out.symm.trans Hy.out)
          have Hne := Lib.hid hne
          clear hne
          go_wp2
          go_quiet (fail)
          go_wp2
          go_ret
          exact ⟨by rw [Hne.out]; rfl, _, World.drewN_drewN ..⟩
      · obtain rfl : k = n1 := by omega
        have hxy : xs = ys := list_eq_of xs ys (by rw [L1.out, L2.out]) (fun j hj => hall.out j (by rw [← L1.out]; exact hj))
        subst hxy
        go_wp2
        go_ret
        exact ⟨by simp, _, rfl⟩
  · have hne : decide (xs = ys) = false := by
      rw [decide_eq_false_iff_not]; rintro rfl; exact hl (by omega)
    rw [hne]
    have hq : ((n1 : Int) != (n2 : Int)) = true := by rw [bne_iff_ne]; omega
    have L1 := Lib.hid l1
    have L2 := Lib.hid l2
    clear l1 l2 hne
    go_enter Try.func13, Try.ntmps13
    go_wp2
    go_ret
    exact ⟨rfl, 0, rfl⟩
theorem rsame_calls (w : World) (a1 a2 : Value) (s t : PS) (hp : RefAt w a1 s) (hq : RefAt w a2 t) :
    Calls Try.prog 24 #[a1, a2] w fun e w' => e = .returned (.bool (sameB s t)) ∧ Kp [] w w' := by
  obtain ⟨pv, rfl, hrow, hm⟩ := hp
  obtain ⟨qv, rfl, hrow2, hm2⟩ := hq
  obtain ⟨A, k, rfl⟩ := hrow.shape
  obtain ⟨A2, k2, rfl⟩ := hrow2.shape
  have hE : Hid (∀ W, Kp [] w W → Calls Try.prog 13 #[.slice A s.m.length k, .slice A2 t.m.length k2] W fun e w' => e = .returned (.bool (decide (s.m = t.m))) ∧ ∃ m, w' = W.drewN m) :=
    Lib.hid fun W hW => rwords_calls W _ _ _ _ _ _ (hrow.sees.keep hW (by simp)) (hrow2.sees.keep hW (by simp)) hm hm2
  by_cases h1 : s.words = t.words
  · have g1 : (s.words == t.words) = true := by simp [h1]
    by_cases h2 : s.refresh = t.refresh
    · have g2 : (s.refresh == t.refresh) = true := by simp [h2]
      by_cases h3 : s.has = t.has
      · have g3 : (s.has == t.has) = true := by simp [h3]
        by_cases h4 : s.stamp = t.stamp
        · have g4 : (s.stamp == t.stamp) = true := by simp [h4]
          have hs : sameB s t = decide (s.m = t.m) := by simp [sameB, h1, h2, h3, h4]
          rw [hs]
          clear hs h1 h2 h3 h4
          go_enter Try.func24, Try.ntmps24
          go_wp2_with fail
          refine (hE.out _ (((Kp.refl [] w).alloc _).alloc _)).mono ?_
          rintro e w1 ⟨rfl, n, rfl⟩
          go_wp2
          all_goals
            go_ret
            exact ⟨by simp_all, (((Kp.refl [] w).alloc _).alloc _).drewN _⟩
        · have g4 : (s.stamp == t.stamp) = false := by simp [h4]
          have hs : sameB s t = false := by simp [sameB, h4]
          rw [hs]
          clear hs h1 h2 h3 h4
          go_enter Try.func24, Try.ntmps24
          go_wp2_with fail
          refine (hE.out _ (((Kp.refl [] w).alloc _).alloc _)).mono ?_
          rintro e w1 ⟨rfl, n, rfl⟩
          go_wp2
          all_goals
            go_ret
            exact ⟨by simp_all, (((Kp.refl [] w).alloc _).alloc _).drewN _⟩
      · have g3 : (s.has == t.has) = false := by simp [h3]
        have hs : sameB s t = false := by simp [sameB, h3]
        rw [hs]
        clear hs h1 h2 h3
        go_enter Try.func24, Try.ntmps24
        go_wp2
        go_ret
        exact ⟨rfl, ((Kp.refl [] w).alloc _).alloc _⟩
    · have g2 : (s.refresh == t.refresh) = false := by simp [h2]
      have hs : sameB s t = false := by simp [sameB, h2]
      rw [hs]
      clear hs h1 h2
      go_enter Try.func24, Try.ntmps24
      go_wp2
      go_ret
      exact ⟨rfl, ((Kp.refl [] w).alloc _).alloc _⟩
  · have g1 : (s.words == t.words) = false := by simp [h1]
    have hs : sameB s t = false := by simp [sameB, h1]
    rw [hs]
    clear hs h1
    go_enter Try.func24, Try.ntmps24
    go_wp2
    go_ret
    exact ⟨rfl, ((Kp.refl [] w).alloc _).alloc _⟩
end Go.Proofs.Ytfehjkhbjbcliaa
