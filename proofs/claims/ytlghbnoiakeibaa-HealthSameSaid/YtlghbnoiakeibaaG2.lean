import Derived.Test.YtlghbnoiakeibaaG1
set_option linter.unusedVariables false
set_option linter.unusedSimpArgs false
namespace Go.Proofs.Ytlghbnoiakeibaa
open Go.RowKit
def sameR (m : Bool) (l : List Rule) (ms : List I3) (m' : Bool) (l' : List Rule) (ms' : List I3) : Bool := m == m' && (sameRl l l' && sameL m' ms ms')
theorem all_take {α : Type} (l : List α) (f : α → Bool) (k : Nat) (hk : k < l.length) (h0 : (l.take k).all f = true) (h : f l[k] = true) : (l.take (k + 1)).all f = true := by
  rw [List.take_succ_eq_append_getElem hk, List.all_append, h0]; simp [h]
theorem all_no {α : Type} (l : List α) (f : α → Bool) (k : Nat) (hk : k < l.length) (h : f l[k] = false) : l.all f = false := by
  rw [List.all_eq_false]; exact ⟨l[k], List.getElem_mem hk, by simp [h]⟩
set_option maxHeartbeats 4000000 in
theorem rsame_calls (w : World) (vR vL vR' vL' : Value) (l l' : List Rule) (ms ms' : List I3) (m m' : Bool) (hl : Sees w 3 vR l.length (cells3 l)) (hs : Sees w 3 vL ms.length (cells3 ms)) (hl' : Sees w 3 vR' l'.length (cells3 l')) (hs' : Sees w 3 vL' ms'.length (cells3 ms')) :
    Calls Try.prog 16 #[.agg #[vR, .bool m, vL], .agg #[vR', .bool m', vL']] w fun x w' => x = .returned (.bool (sameR m l ms m' l' ms')) ∧ Kp [] w w' := by
  obtain ⟨AR, cR, rfl⟩ := hl.shape
  obtain ⟨AL, cL, rfl⟩ := hs.shape
  obtain ⟨AR', cR', rfl⟩ := hl'.shape
  obtain ⟨AL', cL', rfl⟩ := hs'.shape
  have n1 := hl.2.1
  have n2 := hs.2.1
  have n3 := hl'.2.1
  have n4 := hs'.2.1
  unfold maxLen at n1 n2 n3 n4
  obtain ⟨W1, hW1, hk1, h2, h3, hz1⟩ := new2 w (.cells #[.slice AR l.length cR, .bool m, .slice AL ms.length cL] 49) (.cells #[.slice AR' l'.length cR', .bool m', .slice AL' ms'.length cL'] 49)
  have HW1 := Lib.hid hW1
  have HK1 := Lib.hid hk1
  have HL := Lib.hid (hl.old hk1 (by simp))
  have HS := Lib.hid (hs.old hk1 (by simp))
  have HL' := Lib.hid (hl'.old hk1 (by simp))
  have HS' := Lib.hid (hs'.old hk1 (by simp))
  have hres : Hid (sameR m l ms m' l' ms' = (m == m' && ((l.length == l'.length && l.all fun r => byR l' r.1 r.2.1 == r.2.2) && (ms.length == ms'.length && ms.all fun r => countR ms' (ofP m' r.1) r.2.1 == r.2.2)))) := Lib.hid rfl
  clear hW1 hk1 hl hs hl' hs'
  generalize sameR m l ms m' l' ms' = res at *
  by_cases hm : ¬ m = m'
  · have HM : Hid ((m == m') = false) := Lib.hid (by simpa using hm)
    cases m <;> cases m'
    all_goals first
      | exact absurd rfl hm
      | (clear hm
         go_enter Try.func16, Try.ntmps16
         go_wp2
         go_ret
         exact ⟨by rw [hres.out, HM.out]; rfl, by first | exact HK1.out | (rw [← HW1.out]; exact HK1.out)⟩)
  have hm : m = m' := Decidable.of_not_not hm
  subst hm
  by_cases hll : ¬ l.length = l'.length
  · have h1 : ((l.length : Int) != (l'.length : Int)) = true := by simp; omega
    have HM : Hid ((l.length == l'.length) = false) := Lib.hid (by simpa using hll)
    clear hll
    go_enter Try.func16, Try.ntmps16
    go_wp2
    go_ret
    exact ⟨by rw [hres.out, HM.out]; simp, by first | exact HK1.out | (rw [← HW1.out]; exact HK1.out)⟩
  have hll : l.length = l'.length := Decidable.of_not_not hll
  have h1 : ((l.length : Int) != (l'.length : Int)) = false := by simp; omega
  have HLL := Lib.hid hll
  clear hll
  by_cases hmm : ¬ ms.length = ms'.length
  · have h4 : ((ms.length : Int) != (ms'.length : Int)) = true := by simp; omega
    have HM : Hid ((ms.length == ms'.length) = false) := Lib.hid (by simpa using hmm)
    clear hmm
    go_enter Try.func16, Try.ntmps16
    go_wp2
    go_ret
    exact ⟨by rw [hres.out, HM.out]; simp, by first | exact HK1.out | (rw [← HW1.out]; exact HK1.out)⟩
  have hmm : ms.length = ms'.length := Decidable.of_not_not hmm
  have h4 : ((ms.length : Int) != (ms'.length : Int)) = false := by simp; omega
  have HMM := Lib.hid hmm
  clear hmm
  go_enter Try.func16, Try.ntmps16
  go_wp2_with fail
  rw [← HW1.out]
  go_loopw [5] (fun i V => ∃ k : Nat, k ≤ l.length ∧ i = .int .i64 k ∧ Kp [] W1 V ∧ Hid ((l.take k).all (fun r => byR l' r.1 r.2.1 == r.2.2) = true)) (fun i _ => l.length - (intOf i).toNat)
  case atStart => exact ⟨0, Nat.zero_le _, rfl, Kp.refl _ _, Lib.hid rfl⟩
  case round =>
    obtain ⟨k, hk, rfl, hkr, hall⟩ := hrel
    have h2r := hkr.heap h2 (by simp)
    have h3r := hkr.heap h3 (by simp)
    by_cases hlt : k < l.length
    · obtain ⟨g, o, rfl, hcell⟩ := rule_at (HL.out.old hkr (by simp)) k hlt
      obtain ⟨cA, cB, cC⟩ := hcell k hlt
      have HAT := Lib.hid (all_take l (fun r => byR l' r.1 r.2.1 == r.2.2) k hlt hall.out)
      have HAN := Lib.hid (all_no l (fun r => byR l' r.1 r.2.1 == r.2.2) k hlt)
      clear hcell
      generalize l[k] = x at *
      obtain ⟨x1, x2, x3⟩ := x
      simp only at cA cB cC HAT HAN
      obtain ⟨I, hI, G, hG, hGG⟩ := fam [] wr
      have d2 := fun n => blk_cell ((hG n).heap h2r (by simp))
      have d3 := fun n => blk_cell ((hG n).heap h3r (by simp))
      have dA := fun n => (hG n).cell cA (by simp)
      have dB := fun n => (hG n).cell cB (by simp)
      have dC := fun n => (hG n).cell cC (by simp)
      have HC : Hid (∀ n, Calls Try.prog 26 #[.agg #[.slice AR' l'.length cR', .bool m, .slice AL' ms'.length cL'], .int .i64 x1, .int .i64 x2] (G n) fun x w' => x = .returned (.int .i64 (byR l' x1 x2)) ∧ ∃ n', w' = G n') :=
        Lib.hid fun n => (by_calls (G n) _ _ l' m (HL'.out.old (hkr.trans (hG n)) (by simp)) x1 x2).mono fun x w' ⟨a1, a2⟩ => ⟨a1, hGG _ ((hG n).trans a2)⟩
      have h0 := Lib.hid (hGG wr.drew (Kp.refl _ _).drew)
      have HG := Lib.hid hG
      have c2r := blk_cell h2r
      clear hG hGG cA cB cC
      have hk0 : (0 : Int) ≤ (k : Int) := by omega
      have hk1 : (k : Int) < (l.length : Int) := by omega
      generalize byR l' x1 x2 = y at *
      by_cases hy : y = x3
      · have HAT2 := Lib.hid (HAT.out (by simp [hy]))
        subst hy
        go_wp2_with fail
        refine wp_region_fam G h0.out (by kernel_rfl) (by kernel_rfl) ?_
        repeat (go_big_quiet_step (exact HC.out _))
        refine wpQuiet_nil ?_
        rintro _ ⟨nq, rfl⟩
        have HGn := Lib.hid (hkr.trans (HG.out nq))
        go_wp2
        go_roundw
        case rel => exact ⟨k + 1, by omega, by go_num, HGn.out, HAT2⟩
        case measure => simp [intOf]; omega
      · have hy1 : (y != x3) = true := by simpa using hy
        have HAN2 := Lib.hid (HAN.out (by simpa using hy))
        clear hy
        go_wp2_with fail
        refine wp_region_fam G h0.out (by kernel_rfl) (by kernel_rfl) ?_
        repeat (go_big_quiet_step (exact HC.out _))
        refine wpQuiet_nil ?_
        rintro _ ⟨nq, rfl⟩
        go_wp2
        go_ret
        exact ⟨by rw [hres.out, HAN2.out]; simp, (HK1.out.trans hkr).trans (HG.out nq)⟩
    · obtain rfl : k = l.length := by omega
      rw [List.take_length] at hall
      have c2r := blk_cell h2r
      obtain ⟨wo, rfl⟩ : ∃ wo : World, wo = wr := ⟨_, rfl⟩
      go_wp2_with fail
      go_loopw [6] (fun i V => ∃ k : Nat, k ≤ ms.length ∧ i = .int .i64 k ∧ Kp [] wo V ∧ Hid ((ms.take k).all (fun r => countR ms' (ofP m r.1) r.2.1 == r.2.2) = true)) (fun i _ => ms.length - (intOf i).toNat)
      case atStart => exact ⟨0, Nat.zero_le _, rfl, Kp.refl _ _, Lib.hid rfl⟩
      case round =>
        obtain ⟨k, hk, rfl, hkr2, hall2⟩ := hrel
        have h2r := hkr2.heap h2r (by simp)
        have h3r := hkr2.heap h3r (by simp)
        have hkr := hkr.trans hkr2
        clear c2r
        by_cases hlt : k < ms.length
        · obtain ⟨g, o, rfl, hcell⟩ := rule_at (HS.out.old hkr (by simp)) k hlt
          obtain ⟨cA, cB, cC⟩ := hcell k hlt
          have HAT := Lib.hid (all_take ms (fun r => countR ms' (ofP m r.1) r.2.1 == r.2.2) k hlt hall2.out)
          have HAN := Lib.hid (all_no ms (fun r => countR ms' (ofP m r.1) r.2.1 == r.2.2) k hlt)
          clear hcell
          generalize ms[k] = x at *
          obtain ⟨x1, x2, x3⟩ := x
          simp only at cA cB cC HAT HAN
          obtain ⟨I, hI, G, hG, hGG⟩ := fam [] wr
          have d2 := fun n => blk_cell ((hG n).heap h2r (by simp))
          have d3 := fun n => blk_cell ((hG n).heap h3r (by simp))
          have dA := fun n => (hG n).cell cA (by simp)
          have dB := fun n => (hG n).cell cB (by simp)
          have dC := fun n => (hG n).cell cC (by simp)
          have HC : Hid (∀ n, Calls Try.prog 20 #[.agg #[.slice AR' l'.length cR', .bool m, .slice AL' ms'.length cL'], .int .i64 x1, .int .i64 x2] (G n) fun x w' => x = .returned (.int .i64 (countR ms' (ofP m x1) x2)) ∧ ∃ n', w' = G n') :=
            Lib.hid fun n => (rcount_calls (G n) _ _ ms' m (HS'.out.old (hkr.trans (hG n)) (by simp)) x1 x2).mono fun x w' ⟨a1, a2⟩ => ⟨a1, hGG _ ((hG n).trans a2)⟩
          have h0 := Lib.hid (hGG wr.drew (Kp.refl _ _).drew)
          have HG := Lib.hid hG
          have c2r := blk_cell h2r
          clear hG hGG cA cB cC
          have hk0 : (0 : Int) ≤ (k : Int) := by omega
          have hk1 : (k : Int) < (ms.length : Int) := by omega
          generalize countR ms' (ofP m x1) x2 = y at *
          by_cases hy : y = x3
          · have HAT2 := Lib.hid (HAT.out (by simp [hy]))
            subst hy
            go_wp2_with fail
            refine wp_region_fam G h0.out (by kernel_rfl) (by kernel_rfl) ?_
            repeat (go_big_quiet_step (exact HC.out _))
            refine wpQuiet_nil ?_
            rintro _ ⟨nq, rfl⟩
            have HGn := Lib.hid (hkr2.trans (HG.out nq))
            go_wp2
            go_roundw
            case rel => exact ⟨k + 1, by omega, by go_num, HGn.out, HAT2⟩
            case measure => simp [intOf]; omega
          · have hy1 : (y != x3) = true := by simpa using hy
            have HAN2 := Lib.hid (HAN.out (by simpa using hy))
            clear hy
            go_wp2_with fail
            refine wp_region_fam G h0.out (by kernel_rfl) (by kernel_rfl) ?_
            repeat (go_big_quiet_step (exact HC.out _))
            refine wpQuiet_nil ?_
            rintro _ ⟨nq, rfl⟩
            go_wp2
            go_ret
            exact ⟨by rw [hres.out, HAN2.out]; simp, (HK1.out.trans hkr).trans (HG.out nq)⟩
        · obtain rfl : k = ms.length := by omega
          rw [List.take_length] at hall2
          have c2r := blk_cell h2r
          go_wp2
          go_ret
          exact ⟨by rw [hres.out, hall.out, hall2.out, HLL.out, HMM.out]; simp, HK1.out.trans hkr⟩
end Go.Proofs.Ytlghbnoiakeibaa
