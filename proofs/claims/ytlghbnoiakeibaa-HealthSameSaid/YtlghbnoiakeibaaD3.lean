import Derived.Test.YtlghbnoiakeibaaD2
import Derived.Test.YtlghbnoiakeibaaW
import Derived.Test.YtlghbnoiakeibaaF
import Derived.IntWalk
set_option linter.unusedVariables false
set_option linter.unusedSimpArgs false
namespace Go.Proofs.Ytlghbnoiakeibaa
open Go.RowKit
theorem countR_hit (l : List I3) (o e : Int) (k : Nat) (hk : k < l.length) (h : l[k].1 = o ∧ l[k].2.1 = e) (hno : ∀ j (hj : j < l.length), j < k → ¬ (l[j].1 = o ∧ l[j].2.1 = e)) : countR l o e = l[k].2.2 := by
  have : l.find? (hitR o e) = some l[k] := by
    rw [List.find?_eq_some_iff_getElem]
    refine ⟨by simp [hitR, h], k, hk, rfl, fun j hj => ?_⟩
    have h2 := hno j (by omega) hj
    simp [hitR]
    by_cases h1 : l[j].1 = o
    · exact .inr fun h3 => h2 ⟨h1, h3⟩
    · exact .inl h1
  simp [countR, this]
theorem countR_miss (l : List I3) (o e : Int) (hno : ∀ j (hj : j < l.length), ¬ (l[j].1 = o ∧ l[j].2.1 = e)) : countR l o e = 0 := by
  have : l.find? (hitR o e) = none := by
    rw [List.find?_eq_none]
    intro x hx
    obtain ⟨j, hj, rfl⟩ := List.mem_iff_getElem.1 hx
    rw [hit_iff]
    exact hno j hj
  simp [countR, this]
theorem rcount_calls (w : World) (vR vL : Value) (ms : List I3) (m : Bool) (hs : Sees w 3 vL ms.length (cells3 ms)) (p e : Int) :
    Calls Try.prog 20 #[.agg #[vR, .bool m, vL], .int .i64 p, .int .i64 e] w fun x w' => x = .returned (.int .i64 (countR ms (ofP m p) e)) ∧ Kp [] w w' := by
  obtain ⟨A, c, rfl⟩ := hs.shape
  have hn := hs.2.1
  unfold maxLen at hn
  obtain ⟨W1, hW1, hk1, h3, hz1⟩ := new1 w (.cells #[vR, .bool m, .slice A ms.length c] 49)
  have HW1 := Lib.hid hW1
  have HS := Lib.hid (hs.old hk1 (by simp))
  have HK1 := Lib.hid hk1
  clear hW1 hk1 hs
  go_enter Try.func20, Try.ntmps20
  go_wp2_with fail
  rw [← HW1.out]
  generalize ho : ofP m p = o at *
  have HO := Lib.hid ho
  clear ho
  go_loopw [7] (fun i wr => ∃ k : Nat, k ≤ ms.length ∧ i = .int .i64 k ∧ Kp [] W1 wr ∧ Hid (∀ j (hj : j < ms.length), j < k → ¬ (ms[j].1 = o ∧ ms[j].2.1 = e))) (fun i _ => ms.length - (intOf i).toNat)
  case atStart => exact ⟨0, Nat.zero_le _, rfl, Kp.refl _ _, Lib.hid fun _ _ h => absurd h (by omega)⟩
  case round =>
    obtain ⟨k, hk, rfl, hkr, hno⟩ := hrel
    have h3r := hkr.heap h3 (by simp)
    by_cases hlt : k < ms.length
    · obtain ⟨g, o', rfl, hcell⟩ := rule_at (HS.out.old hkr (by simp)) k hlt
      obtain ⟨cA, cB, cC⟩ := hcell k hlt
      have HH := Lib.hid (countR_hit ms o e k hlt)
      have HNX : Hid (¬ (ms[k].1 = o ∧ ms[k].2.1 = e) → ∀ j (hj : j < ms.length), j < k + 1 → ¬ (ms[j].1 = o ∧ ms[j].2.1 = e)) := Lib.hid fun h j hj hjk => by
        by_cases hij : j = k
        · subst hij; exact h
        · exact hno.out j hj (by omega)
      clear hcell
      generalize ms[k] = x at *
      obtain ⟨x1, x2, x3⟩ := x
      simp only at cA cB cC HH HNX
      obtain ⟨I, hI, F, hF, hG⟩ := fam [] wr
      have d3 := fun n => blk_cell ((hF n).heap h3r (by simp))
      have dA := fun n => (hF n).cell cA (by simp)
      have dB := fun n => (hF n).cell cB (by simp)
      have dC := fun n => (hF n).cell cC (by simp)
      have HC : Hid (∀ n, Calls Try.prog 25 #[.agg #[vR, .bool m, .slice (some ⟨g, o', none⟩) ms.length c], .int .i64 p] (F n) fun x w' => x = .returned (.int .i64 o) ∧ ∃ n', w' = F n') :=
        Lib.hid fun n => (who_calls (F n) vR _ m p).mono fun x w' ⟨a1, a2⟩ => ⟨by rw [a1, HO.out], hG _ ((hF n).trans a2)⟩
      have h0 := Lib.hid (hG wr.drew (Kp.refl _ _).drew)
      have HF := Lib.hid hF
      have c3r := blk_cell h3r
      clear hF hG cA cB cC
      have hk0 : (0 : Int) ≤ (k : Int) := by omega
      have hk1 : (k : Int) < (ms.length : Int) := by omega
      by_cases h1 : x1 = o
      · subst h1
        by_cases h2 : x2 = e
        · have HR : Hid (countR ms x1 e = x3) := Lib.hid (HH.out ⟨rfl, h2⟩ hno.out)
          subst h2
          go_wp2_with fail
          refine wp_region_fam F h0.out (by kernel_rfl) (by kernel_rfl) ?_
          repeat (go_big_quiet_step (exact HC.out _))
          refine wpQuiet_nil ?_
          rintro _ ⟨nq, rfl⟩
          go_wp2
          go_ret
          exact ⟨by rw [HO.out, HR.out]; rfl, (HK1.out.trans hkr).trans (HF.out _)⟩
        · have h2' : (x2 == e) = false := by simpa using h2
          have HN := Lib.hid (HNX.out fun h => h2 h.2)
          clear h2
          go_wp2_with fail
          refine wp_region_fam F h0.out (by kernel_rfl) (by kernel_rfl) ?_
          repeat (go_big_quiet_step (exact HC.out _))
          refine wpQuiet_nil ?_
          rintro _ ⟨nq, rfl⟩
          have HFn := Lib.hid (HF.out nq)
          go_wp2
          go_roundw
          case rel => exact ⟨k + 1, by omega, by go_num, hkr.trans HFn.out, HN⟩
          case measure => simp [intOf]; omega
      · have h1' : (x1 == o) = false := by simpa using h1
        have HN := Lib.hid (HNX.out fun h => h1 h.1)
        clear h1
        go_wp2_with fail
        refine wp_region_fam F h0.out (by kernel_rfl) (by kernel_rfl) ?_
        repeat (go_big_quiet_step (exact HC.out _))
        refine wpQuiet_nil ?_
        rintro _ ⟨nq, rfl⟩
        have HFn := Lib.hid (HF.out nq)
        go_wp2
        go_roundw
        case rel => exact ⟨k + 1, by omega, by go_num, hkr.trans HFn.out, HN⟩
        case measure => simp [intOf]; omega
    · obtain rfl : k = ms.length := by omega
      have HR : Hid (countR ms o e = 0) := Lib.hid (countR_miss ms o e fun j hj => hno.out j hj hj)
      have c3r := blk_cell h3r
      go_wp2
      go_ret
      exact ⟨by rw [HO.out, HR.out]; rfl, HK1.out.trans hkr⟩
end Go.Proofs.Ytlghbnoiakeibaa
