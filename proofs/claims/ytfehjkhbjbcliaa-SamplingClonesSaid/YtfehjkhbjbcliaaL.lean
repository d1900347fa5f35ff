/-
  SamplingLast comes to true: the last message that was written is read, as often as one asks.
-/
import Derived.Test.YtfehjkhbjbcliaaT
import Derived.Test.YtfehjkhbjbcliaaI
set_option linter.unusedVariables false
set_option linter.unusedSimpArgs false
namespace Go.Proofs.Ytfehjkhbjbcliaa
open Go.RowKit
set_option maxHeartbeats 1000000
theorem Sees.cap {w : World} {size n c : Nat} {A : Option Addr} {xs : List Value} (h : Sees w size (.slice A n c) n xs) : n ≤ c ∧ c ≤ 9223372036854775807 := by
  rcases h.2.2 with ⟨h0, h1⟩ | ⟨ad, c', he, h1, h2, _⟩
  · simp only [Value.slice.injEq] at h0; omega
  · simp only [Value.slice.injEq] at he
    unfold maxLen at h2
    omega
def LastInv (r : Int) (k : Nat) (now : Int) (xs : List Int) (st : PS) : Prop :=
  (k = 0 → now = 0 ∧ st = beg 31 r) ∧ (0 < k → 100 ≤ now ∧ now ≤ 303 ∧ st = ⟨begW 31, begR r, xs, now, true⟩)
theorem begW31 : begW 31 = 32 := by rw [(begW_eq 31).1]; decide
theorem last_calls (r a : Int) (v : Value) (W : World) (hv : InRows .u32 W v) :
    Calls Try.prog 3 #[.int .i64 r, v, .int .i64 a] W fun e w' => e = .returned (.bool true) ∧ Kp [] W w' := by
  obtain ⟨n, V, hs, hel⟩ := hv
  obtain ⟨A, c, rfl⟩ := hs.shape
  have hn := hs.2.1
  unfold maxLen at hn
  have hpl := hs.place
  go_enter Try.func3, Try.ntmps3
  go_wp2_with fail
  refine (begin_calls 31 r _).mono ?_
  rintro e w1 ⟨g, av, rfl, hp, ⟨pv, rfl, hrow, hm⟩, hg, hk⟩
  obtain ⟨A0, k0, rfl⟩ := hrow.shape
  have hgl := hp.lt
  go_wp2_with fail
  refine (told_calls _).mono ?_
  rintro e w2 ⟨rfl, hk2⟩
  have hbx := hk2.heap (blk_new w1 _) (by simp)
  have hk12 := ((Kp.refl [] w1).alloc _).trans hk2
  have hp := hp.keep hk12 (by simp) (by simp)
  have hkW := hk.trans hk12
  generalize w1.heap.size = bx at *
  change w2.heap[bx]? = some (.cells #[.int .i64 (begW 31), .int .i64 (begR r), .bool false, .slice A0 0 k0, .int .i64 0] 26) at hbx
  clear hk2 hk12 hk hrow hm
  go_wp2
  go_loopw [9, 10, 11] (fun l9 l10 l11 wr => ∃ (k n9 : Nat) (xs : List Int) (now : Int) (st : PS), k ≤ n ∧ k ≤ 30 ∧ l11 = .int .i64 k ∧ l10 = .int .i64 now ∧ Sees W 1 l9 n9 (nums .u32 xs) ∧ n9 ≤ 32 ∧ PortAt wr g st ∧ Kp [g] w2 wr ∧ LastInv r k now xs st) (fun _ _ l11 _ => 30 - (intOf l11).toNat)
  case atStart => exact ⟨0, 0, [], 0, beg 31 r, Nat.zero_le _, Nat.zero_le _, rfl, rfl, (Row.nil W 37 1).sees, by omega, hp, Kp.refl _ _, fun _ => ⟨rfl, rfl⟩, fun h => absurd h (by omega)⟩
  case round =>
    obtain ⟨k, n9, xs, now, st, hk1, hk30, rfl, rfl, hl9, hn9, hpr, hkr, hinv⟩ := hrel
    by_cases hlt : k < n ∧ k < 30
    · obtain ⟨hlt1, hlt2⟩ := hlt
      obtain ⟨b, off, rfl⟩ := hpl (by omega)
      obtain ⟨n', xs', hs', hw'⟩ := hel k hlt1
      have hcell := hs.2.2
      have hVk : wr.cell? ⟨b, off + k, none⟩ = some (V k) := by
        rcases hs.2.2 with ⟨h0, _⟩ | ⟨ad, c', he, _, _, _, hc⟩
        · simp at h0
        · simp only [Value.slice.injEq, Option.some.injEq] at he
          obtain ⟨rfl, _, rfl⟩ := he
          have hkr' : Kp [] W wr := hkW.next hkr (by simp; omega)
          exact hkr'.cell (hc k (V k) (by simp [hlt1])) (by simp)
      clear hcell
      obtain ⟨A', c', hV'⟩ := hs'.shape
      rw [hV'] at hVk
      have hn' := hs'.2.1
      unfold maxLen at hn'
      rw [hV'] at hs'
      obtain ⟨hc1, hc2⟩ := hs'.cap
      have hcut := hs'.cut 32
      have hc0 : k = 0 ∨ 0 < k := by omega
      have Hinv := Lib.hid hinv
      have Hs' := Lib.hid hs'
      have HV' := Lib.hid hV'
      have Hl9 := Lib.hid hl9
      clear hinv hs' hV' hl9 hel
      have hfin : Hid (∀ (V0 : World) (v : Value), Kp [] wr V0 → Sees W 1 v (min n' 32) (nums .u32 (xs'.take 32)) → Calls Try.prog 11 #[.pointer (some ⟨g, 0, none⟩), .int .i64 (100 + 7 * (k : Int)), v] V0 fun e w' => e = .returned (.int .i64 0) ∧ PortAt w' g ⟨begW 31, begR r, xs'.take 32, 100 + 7 * (k : Int), true⟩ ∧ Kp [g] w2 w') := by
        refine Lib.hid fun V0 v hV0 hsv => ?_
        have hkr' : Kp [] W wr := hkW.next hkr (by simp; omega)
        have htick : tickB (100 + 7 * (k : Int)) = true := by
          have h1 : decide (0 ≤ 100 + 7 * (k : Int)) = true := by simp; omega
          have h2 : decide (100 + 7 * (k : Int) ≤ 1099511627776) = true := by simp; omega
          simp [tickB, h1, h2]
        have hst : st.words = 32 ∧ st.refresh = begR r := by
          rcases hc0 with h | h
          · obtain ⟨_, rfl⟩ := Hinv.out.1 h; exact ⟨begW31, rfl⟩
          · obtain ⟨_, _, rfl⟩ := Hinv.out.2 h; exact ⟨begW31, rfl⟩
        have hlen : ((xs'.take 32).length : Int) ≤ 32 := by simp; omega
        have e1 : wrErr st (100 + 7 * (k : Int)) (xs'.take 32) = 0 := by
          unfold wrErr; rw [if_pos htick, if_neg (by rw [hst.1]; omega)]
        have e2 : wrSt st (100 + 7 * (k : Int)) (xs'.take 32) = ⟨begW 31, begR r, xs'.take 32, 100 + 7 * (k : Int), true⟩ := by
          unfold wrSt; rw [if_pos htick, if_neg (by rw [hst.1]; omega), hst.1, hst.2, begW31]
        refine (write_calls V0 g st _ v _ _ (hpr.keep hV0 (by simp) (by simp)) (hsv.keep (hkr'.trans hV0) (by simp)) (by omega)).mono ?_
        rintro e w' ⟨he, h1, h2⟩
        rw [e1] at he
        rw [e2] at h1
        exact ⟨he, h1, (hkr.trans (hV0.nil_to)).trans h2⟩
      by_cases h32 : n' ≤ 32
      · rw [show cutTo 32 (.slice A' n' c') = .slice A' n' c' from by simp [cutTo, Nat.min_eq_left h32]] at hcut
        have Hcut := Lib.hid hcut
        clear hcut
        go_wp2
        go_quiet (fail)
        go_wp2_with fail
        refine (hfin.out _ _ ((Kp.refl _ _).drewN _) Hcut.out).mono ?_
        rintro e w3 ⟨rfl, hp3, hk3⟩
        go_wp2
        go_roundw
        case rel => exact ⟨k + 1, _, _, _, _, by omega, by omega, by go_num, rfl, Hcut.out, by omega, hp3, hk3, fun h => absurd h (by omega), fun _ => ⟨by omega, by omega, rfl⟩⟩
        case measure => simp [intOf]; omega
      · rw [show cutTo 32 (.slice A' n' c') = .slice A' 32 c' from by simp [cutTo]; omega] at hcut
        have Hcut := Lib.hid hcut
        clear hcut
        go_wp2
        go_quiet (fail)
        go_wp2_with fail
        refine (hfin.out _ _ ((Kp.refl _ _).drewN _) Hcut.out).mono ?_
        rintro e w3 ⟨rfl, hp3, hk3⟩
        go_wp2
        go_roundw
        case rel => exact ⟨k + 1, _, _, _, _, by omega, by omega, by go_num, rfl, Hcut.out, by omega, hp3, hk3, fun h => absurd h (by omega), fun _ => ⟨by omega, by omega, rfl⟩⟩
        case measure => simp [intOf]; omega
    · have hkr' : Kp [] W wr := hkW.next hkr (by simp; omega)
      have hbx' := hkr.heap hbx (by simp; omega)
      have cb := blk_cell hbx'
      have lb := blk_lt hbx'
      have hnow : 0 ≤ now ∧ now ≤ 303 := by
        by_cases h : k = 0
        · obtain ⟨rfl, _⟩ := hinv.1 h; omega
        · have := hinv.2 (by omega); omega
      obtain ⟨hnow0, hnow1⟩ := hnow
      have hst : PSok st := by
        by_cases h : k = 0
        · obtain ⟨_, rfl⟩ := hinv.1 h; exact beg_ok 31 r
        · obtain ⟨_, _, rfl⟩ := hinv.2 (by omega)
          have := begR_eq r
          exact ⟨(begW_eq 31).2.1, (begW_eq 31).2.2, this.1, this.2, by simpa using hnow0, by simp; omega, by simp⟩
      have Hinv := Lib.hid hinv
      have HT := Lib.hid (rem64 a 3000000 (by decide) (by decide))
      clear hinv
      have hex : (decide (k < n) && decide (k < 30)) = false := by
        by_cases h : k < n
        · have : ¬ k < 30 := fun h' => hlt ⟨h, h'⟩
          simp [this]
        · simp [h]
      have Hlt := Lib.hid hlt
      clear hlt
      by_cases hkn : k < n
      · have hk30' : ¬ k < 30 := fun h => Hlt.out ⟨hkn, h⟩
        have hn0 : 0 < n := by omega
        go_wp2
        generalize wrap64 ((IntKind.u64.wrap a).tmod 3000000) = T at *
        obtain ⟨hT0, hT1⟩ : 0 ≤ T ∧ T < 3000000 := by have := HT.out; omega
        go_loopw [14] (fun l14 wx => ∃ j : Nat, j ≤ 2 ∧ l14 = .int .i64 j ∧ PortAt wx g st ∧ Kp [] wr wx) (fun l14 _ => 2 - (intOf l14).toNat)
        case atStart => exact ⟨0, by omega, rfl, hpr, Kp.refl _ _⟩
        case round =>
          rename_i wo
          obtain ⟨j, hj2, rfl, hpx, hkx⟩ := hrel
          have cb2 := blk_cell (hkx.heap hbx' (by simp))
          have lb2 := blk_lt (hkx.heap hbx' (by simp))
          by_cases hj : j < 2
          · have hst3 := Hinv.out.2 (by have := Hlt.out; omega)
            obtain ⟨h100, h303, hst4⟩ := hst3
            have htick : tickB (now + T) = true := by
              have h1 : decide (0 ≤ now + T) = true := by simp; omega
              have h2 : decide (now + T ≤ 1099511627776) = true := by simp; omega
              simp [tickB, h1, h2]
            have e1 : rdErr st (now + T) = 0 := by rw [hst4]; simp [rdErr, htick]
            have e2 : rdM st (now + T) = xs := by rw [hst4]; simp [rdM, htick]
            have e3 : rdOk st (now + T) = decide (T ≤ begR r) := by
              rw [hst4]; simp only [rdOk, if_pos htick, if_true]
              by_cases h : T ≤ begR r
              · simp [h]
              · simp [h]
            have E := Lib.hid (And.intro e1 (And.intro e2 e3))
            have Hst4 := Lib.hid hst4
            clear hst4 htick e1 e2 e3
            go_wp2_with fail
            refine (read_calls _ g st (now + T) hpx hst).mono ?_
            rintro e w4 ⟨x, he, hx, hk4, hf4⟩
            obtain ⟨e1, e2, e3⟩ := E.out
            rw [e1, e3] at he
            rw [e2] at hx
            subst he
            have cb4 := blk_cell ((hkx.trans hk4).heap hbx' (by simp))
            have hL := hl9.ilen
            have hxs : Sees w4 1 u9 n9 (nums .u32 xs) := hl9.keep ((hkr'.trans hkx).trans hk4) (by simp)
            have HW : Hid (Calls Try.prog 13 #[x, u9] w4 fun e w' => e = .returned (.bool true) ∧ ∃ m, w' = w4.drewN m) := by
              refine Lib.hid ((rwords_calls w4 x _ xs u9 n9 xs hx.sees hxs (by omega) (by omega)).mono ?_)
              rintro e w' ⟨rfl, h⟩
              exact ⟨by simp, h⟩
            clear e1 e2 e3 hL hxs hx hf4
            by_cases hTr : T ≤ begR r
            all_goals
              first | have hb1 : decide (T ≤ begR r) = true := decide_eq_true hTr | have hb1 : decide (T ≤ begR r) = false := decide_eq_false hTr
              rw [hb1]
              go_wp2_with fail
              refine HW.out.mono ?_
              rintro e w5 ⟨rfl, m5, rfl⟩
              go_wp2
              go_roundw
              case rel => exact ⟨j + 1, by omega, by go_num, (hpx.keep hk4 (by simp) (by simp)).keep ((Kp.refl [] _).drewN _) (by simp) (by simp), (hkx.trans hk4).drewN _⟩
              case measure => simp [intOf]; omega
          · go_wp2
            go_ret
            exact ⟨rfl, hkr'.trans hkx⟩
      · have hk : k = n := by omega
        have Hk := Lib.hid hk
        clear hk
        by_cases hn0 : n = 0
        · subst hn0
          go_wp2
          generalize wrap64 ((IntKind.u64.wrap a).tmod 3000000) = T at *
          obtain ⟨hT0, hT1⟩ : 0 ≤ T ∧ T < 3000000 := by have := HT.out; omega
          go_loopw [14] (fun l14 wx => ∃ j : Nat, j ≤ 2 ∧ l14 = .int .i64 j ∧ PortAt wx g st ∧ Kp [] wr wx) (fun l14 _ => 2 - (intOf l14).toNat)
          case atStart => exact ⟨0, by omega, rfl, hpr, Kp.refl _ _⟩
          case round =>
            obtain ⟨j, hj2, rfl, hpx, hkx⟩ := hrel
            by_cases hj : j < 2
            · obtain ⟨hnow, hst4⟩ := Hinv.out.1 (by omega)
              have htick : tickB (now + T) = true := by
                have h1 : decide (0 ≤ now + T) = true := by simp; omega
                have h2 : decide (now + T ≤ 1099511627776) = true := by simp; omega
                simp [tickB, h1, h2]
              have e1 : rdErr st (now + T) = 9 := by rw [hst4]; simp [rdErr, htick, beg]
              have E := Lib.hid e1
              clear hst4 htick e1 hnow
              go_wp2_with fail
              refine (read_calls _ g st (now + T) hpx hst).mono ?_
              rintro e w4 ⟨x, he, hx, hk4, hf4⟩
              rw [E.out] at he
              subst he
              go_wp2
              go_ret
              exact ⟨rfl, (hkr'.trans hkx).trans hk4⟩
            · go_wp2
              go_ret
              exact ⟨rfl, hkr'.trans hkx⟩
        · have hn0 : 0 < n := by omega
          go_wp2
          generalize wrap64 ((IntKind.u64.wrap a).tmod 3000000) = T at *
          obtain ⟨hT0, hT1⟩ : 0 ≤ T ∧ T < 3000000 := by have := HT.out; omega
          go_loopw [14] (fun l14 wx => ∃ j : Nat, j ≤ 2 ∧ l14 = .int .i64 j ∧ PortAt wx g st ∧ Kp [] wr wx) (fun l14 _ => 2 - (intOf l14).toNat)
          case atStart => exact ⟨0, by omega, rfl, hpr, Kp.refl _ _⟩
          case round =>
            rename_i wo
            obtain ⟨j, hj2, rfl, hpx, hkx⟩ := hrel
            have cb2 := blk_cell (hkx.heap hbx' (by simp))
            have lb2 := blk_lt (hkx.heap hbx' (by simp))
            by_cases hj : j < 2
            · have hst3 := Hinv.out.2 (by have := Hlt.out; omega)
              obtain ⟨h100, h303, hst4⟩ := hst3
              have htick : tickB (now + T) = true := by
                have h1 : decide (0 ≤ now + T) = true := by simp; omega
                have h2 : decide (now + T ≤ 1099511627776) = true := by simp; omega
                simp [tickB, h1, h2]
              have e1 : rdErr st (now + T) = 0 := by rw [hst4]; simp [rdErr, htick]
              have e2 : rdM st (now + T) = xs := by rw [hst4]; simp [rdM, htick]
              have e3 : rdOk st (now + T) = decide (T ≤ begR r) := by
                rw [hst4]; simp only [rdOk, if_pos htick, if_true]
                by_cases h : T ≤ begR r
                · simp [h]
                · simp [h]
              have E := Lib.hid (And.intro e1 (And.intro e2 e3))
              have Hst4 := Lib.hid hst4
              clear hst4 htick e1 e2 e3
              go_wp2_with fail
              refine (read_calls _ g st (now + T) hpx hst).mono ?_
              rintro e w4 ⟨x, he, hx, hk4, hf4⟩
              obtain ⟨e1, e2, e3⟩ := E.out
              rw [e1, e3] at he
              rw [e2] at hx
              subst he
              have cb4 := blk_cell ((hkx.trans hk4).heap hbx' (by simp))
              have hL := hl9.ilen
              have hxs : Sees w4 1 u9 n9 (nums .u32 xs) := hl9.keep ((hkr'.trans hkx).trans hk4) (by simp)
              have HW : Hid (Calls Try.prog 13 #[x, u9] w4 fun e w' => e = .returned (.bool true) ∧ ∃ m, w' = w4.drewN m) := by
                refine Lib.hid ((rwords_calls w4 x _ xs u9 n9 xs hx.sees hxs (by omega) (by omega)).mono ?_)
                rintro e w' ⟨rfl, h⟩
                exact ⟨by simp, h⟩
              clear e1 e2 e3 hL hxs hx hf4
              by_cases hTr : T ≤ begR r
              all_goals
                first | have hb1 : decide (T ≤ begR r) = true := decide_eq_true hTr | have hb1 : decide (T ≤ begR r) = false := decide_eq_false hTr
                rw [hb1]
                go_wp2_with fail
                refine HW.out.mono ?_
                rintro e w5 ⟨rfl, m5, rfl⟩
                go_wp2
                go_roundw
                case rel => exact ⟨j + 1, by omega, by go_num, (hpx.keep hk4 (by simp) (by simp)).keep ((Kp.refl [] _).drewN _) (by simp) (by simp), (hkx.trans hk4).drewN _⟩
                case measure => simp [intOf]; omega
            · go_wp2
              go_ret
              exact ⟨rfl, hkr'.trans hkx⟩
theorem last_law (v0 v1 v2 : Value) (W : World) (h0 : InInt .i64 v0) (h1 : InRows .u32 W v1) (h2 : InInt .i64 v2) : Calls Try.prog 3 #[v0, v1, v2] W fun e w' => e = .returned (.bool true) ∧ Kp [] W w' := by
  obtain ⟨a, rfl, _⟩ := h0
  obtain ⟨b, rfl, _⟩ := h2
  exact last_calls a b v1 W h1
end Go.Proofs.Ytfehjkhbjbcliaa
