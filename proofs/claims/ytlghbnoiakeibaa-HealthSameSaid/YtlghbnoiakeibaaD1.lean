import Derived.Test.YtlghbnoiakeibaaP1
set_option linter.unusedVariables false
set_option linter.unusedSimpArgs false
namespace Go.Proofs.Ytlghbnoiakeibaa
open Go.RowKit
/-- What the rule of an error at a level does; -1: there is none. -/
def byR (l : List Rule) (e v : Int) : Int := ((l.find? fun r => r.1 == e && r.2.1 == v).map (·.2.2)).getD (-1)
theorem byR_hit (l : List Rule) (e v : Int) (k : Nat) (hk : k < l.length) (h : l[k].1 = e ∧ l[k].2.1 = v) (hno : ∀ j (hj : j < l.length), j < k → ¬ (l[j].1 = e ∧ l[j].2.1 = v)) : byR l e v = l[k].2.2 := by
  have : l.find? (fun r => r.1 == e && r.2.1 == v) = some l[k] := by
    rw [List.find?_eq_some_iff_getElem]
    refine ⟨by simp [h], k, hk, rfl, fun j hj => ?_⟩
    have h2 := hno j (by omega) hj
    simp
    by_cases h1 : l[j].1 = e
    · exact .inr fun h3 => h2 ⟨h1, h3⟩
    · exact .inl h1
  simp [byR, this]
theorem byR_miss (l : List Rule) (e v : Int) (hno : ∀ j (hj : j < l.length), ¬ (l[j].1 = e ∧ l[j].2.1 = v)) : byR l e v = -1 := by
  have : l.find? (fun r => r.1 == e && r.2.1 == v) = none := by
    rw [List.find?_eq_none]
    intro x hx
    obtain ⟨j, hj, rfl⟩ := List.mem_iff_getElem.1 hx
    simpa using hno j hj
  simp [byR, this]
theorem who_calls (w : World) (vR vL : Value) (m : Bool) (p : Int) :
    Calls Try.prog 25 #[.agg #[vR, .bool m, vL], .int .i64 p] w fun x w' => x = .returned (.int .i64 (ofP m p)) ∧ Kp [] w w' := by
  by_cases hp : p < 0
  · have h : Hid (ofP m p = -1) := Lib.hid (by unfold ofP; split; rfl; omega)
    go_enter Try.func25, Try.ntmps25
    go_wp2
    go_ret
    exact ⟨by rw [h.out]; rfl, (Kp.refl _ _).alloc _⟩
  · cases m
    · have h : Hid (ofP false p = p) := Lib.hid (by simp [ofP]; omega)
      go_enter Try.func25, Try.ntmps25
      go_wp2
      go_ret
      exact ⟨by rw [h.out]; rfl, (Kp.refl _ _).alloc _⟩
    · have h : Hid (ofP true p = -1) := Lib.hid (by simp [ofP])
      go_enter Try.func25, Try.ntmps25
      go_wp2
      go_ret
      exact ⟨by rw [h.out]; rfl, (Kp.refl _ _).alloc _⟩
theorem by_calls (w : World) (vR vL : Value) (l : List Rule) (m : Bool) (hs : Sees w 3 vR l.length (cells3 l)) (e v : Int) :
    Calls Try.prog 26 #[.agg #[vR, .bool m, vL], .int .i64 e, .int .i64 v] w fun x w' => x = .returned (.int .i64 (byR l e v)) ∧ Kp [] w w' := by
  obtain ⟨A, c, rfl⟩ := hs.shape
  have hn := hs.2.1
  unfold maxLen at hn
  obtain ⟨W1, hW1, hk1, h3, hz1⟩ := new1 w (.cells #[.slice A l.length c, .bool m, vL] 49)
  have HW1 := Lib.hid hW1
  have HS := Lib.hid (hs.old hk1 (by simp))
  have HK1 := Lib.hid hk1
  obtain ⟨-, c3, f3, l3⟩ := (Kp.refl [] W1).look h3 (by simp)
  clear hW1 hk1 hs
  go_enter Try.func26, Try.ntmps26
  go_wp2_with fail
  rw [← HW1.out]
  go_loop [7] (fun i => ∃ k : Nat, k ≤ l.length ∧ i = .int .i64 k ∧ Hid (∀ j (hj : j < l.length), j < k → ¬ (l[j].1 = e ∧ l[j].2.1 = v))) (fun i => l.length - (intOf i).toNat)
  case atStart => exact ⟨0, Nat.zero_le _, rfl, Lib.hid fun _ _ h => absurd h (by omega)⟩
  case round =>
    obtain ⟨k, hk, rfl, hno⟩ := hrel
    by_cases hlt : k < l.length
    · obtain ⟨g, o, rfl, hcell⟩ := rule_at HS.out k hlt
      obtain ⟨cA, cB, cC⟩ := hcell k hlt
      have HH := Lib.hid (byR_hit l e v k hlt)
      have HNX : Hid (¬ (l[k].1 = e ∧ l[k].2.1 = v) → ∀ j (hj : j < l.length), j < k + 1 → ¬ (l[j].1 = e ∧ l[j].2.1 = v)) := Lib.hid fun h j hj hjk => by
        by_cases hij : j = k
        · subst hij; exact h
        · exact hno.out j hj (by omega)
      clear hcell
      generalize l[k] = x at *
      obtain ⟨x1, x2, x3⟩ := x
      simp only at cA cB cC HH HNX
      by_cases h1 : x1 = e
      · by_cases h2 : x2 = v
        · have HR : Hid (byR l e v = x3) := Lib.hid (HH.out ⟨h1, h2⟩ hno.out)
          subst h1 h2
          go_wp2
          go_ret
          exact ⟨by rw [HR.out]; rfl, HK1.out⟩
        · have h2' : (x2 == v) = false := by simpa using h2
          have HN := Lib.hid (HNX.out fun h => h2 h.2)
          subst h1
          clear h2
          go_wp2
          go_round
          case rel => exact ⟨k + 1, by omega, by go_num, HN⟩
          case measure => simp [intOf]; omega
      · have h1' : (x1 == e) = false := by simpa using h1
        have HN := Lib.hid (HNX.out fun h => h1 h.1)
        clear h1
        go_wp2
        go_round
        case rel => exact ⟨k + 1, by omega, by go_num, HN⟩
        case measure => simp [intOf]; omega
    · obtain rfl : k = l.length := by omega
      have HR : Hid (byR l e v = -1) := Lib.hid (byR_miss l e v fun j hj => hno.out j hj hj)
      go_wp2
      go_ret
      exact ⟨by rw [HR.out]; rfl, HK1.out⟩
end Go.Proofs.Ytlghbnoiakeibaa
