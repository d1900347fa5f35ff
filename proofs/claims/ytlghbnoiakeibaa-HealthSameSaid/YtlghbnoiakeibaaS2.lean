import Derived.Test.YtlghbnoiakeibaaS1
set_option linter.unusedVariables false
set_option linter.unusedSimpArgs false
namespace Go.Proofs.Ytlghbnoiakeibaa
open Go.RowKit
theorem index_calls (w : World) (v : Value) (n : Nat) (xs : List Int) (x : Int) (hs : Sees w 1 v n (nums .i64 xs)) :
    Calls Try.prog 36 #[v, .int .i64 x] w fun r w' => ∃ i : Int, r = .returned (.int .i64 i) ∧ decide (0 ≤ i) = xs.contains x ∧ w = w' := by
  obtain ⟨A, c, rfl⟩ := hs.shape
  have hl := hs.ilen
  have p := hs.place
  have hmx : n ≤ 9223372036854775807 := by have := hs.2.1; unfold maxLen at this; omega
  go_enter Try.func36, Try.ntmps36
  go_wp2
  go_loopw [8, 5] (fun i j wr => ∃ k : Nat, k ≤ n ∧ i = .int .i64 k ∧ wr = w ∧ Hid (∀ j, j < k → xs.getD j 0 ≠ x)) (fun i _ _ => n - (intOf i).toNat)
  case atStart => exact ⟨0, Nat.zero_le _, rfl, rfl, Lib.hid (fun j h => absurd h (by omega))⟩
  case round =>
    obtain ⟨k, hk, rfl, rfl, hall⟩ := hrel
    by_cases hlt : k < n
    · obtain ⟨g1, o1, rfl⟩ := p (by omega)
      have e1 := hs.int k hlt
      generalize hx : xs.getD k 0 = y at e1
      have Hx := Lib.hid hx
      have HL := Lib.hid hl
      clear hx hl
      by_cases he : x = y
      · subst he
        have hq : (x == x) = true := by simp
        go_wp2
        go_ret
        refine ⟨k, rfl, ?_, rfl⟩
        have hm : x ∈ xs := by
          have := Hx.out
          have hl := HL.out
          rw [List.getD_eq_getElem?_getD, List.getElem?_eq_getElem (by omega)] at this
          simp at this
          rw [← this]; exact List.getElem_mem _
        simp [hm]
      · have hq : (x == y) = false := by simpa using he
        go_wp2
        go_roundw
        case rel => exact ⟨k + 1, by omega, by go_num, by trivial, Lib.hid (fun j hj => by
          by_cases hjk : j < k
          · exact hall.out j hjk
          · obtain rfl : j = k := by omega
            rw [Hx.out]; exact fun h => he h.symm)⟩
        case measure => simp [intOf]; omega
    · obtain rfl : k = n := by omega
      have hm : xs.contains x = false := by
        rw [List.contains_eq_mem]
        simp only [decide_eq_false_iff_not]
        intro hm
        obtain ⟨j, hj, hjx⟩ := List.getElem_of_mem hm
        have := hall.out j (by omega)
        rw [List.getD_eq_getElem?_getD, List.getElem?_eq_getElem hj] at this
        exact this (by simpa using hjx)
      have Hm := Lib.hid hm
      clear hm hl
      go_wp2
      go_ret
      exact ⟨_, rfl, by rw [Hm.out]; rfl, rfl⟩
theorem contains_calls (w : World) (v : Value) (n : Nat) (xs : List Int) (x : Int) (hs : Sees w 1 v n (nums .i64 xs)) :
    Calls Try.prog 32 #[v, .int .i64 x] w fun r w' => r = .returned (.bool (xs.contains x)) ∧ w = w' := by
  go_enter Try.func32, Try.ntmps32
  go_wp2_with fail
  refine (index_calls w v n xs x hs).mono ?_
  rintro e w' ⟨i, rfl, hi, rfl⟩
  have Hi := Lib.hid hi
  clear hi
  go_wp2
  go_ret
  exact ⟨by rw [← Hi.out]; rfl, rfl⟩
end Go.Proofs.Ytlghbnoiakeibaa
