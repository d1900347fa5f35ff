import Derived.Test.YtlghbnoiakeibaaS8
import Derived.Test.YtlghbnoiakeibaaJ
set_option linter.unusedVariables false
set_option linter.unusedSimpArgs false
namespace Go.Proofs.Ytlghbnoiakeibaa
open Go.RowKit
theorem cells3_eq (l : List Rule) : cells3 l = recs3 .i64 .i64 .i64 l := rfl
theorem rulesOf_some (l : List Rule) : ∀ (f : Int → Int → Option Int) (e v : Int), (rulesOf f l e v).isSome = ((f e v).isSome || l.any fun r => r.1 == e && r.2.1 == v) := by
  induction l with
  | nil => intro f e v; simp [rulesOf]
  | cons a l ih =>
    intro f e v
    simp only [rulesOf, List.foldl_cons] at ih ⊢
    rw [ih]
    by_cases h : e = a.1 ∧ v = a.2.1
    · simp [bump, h]
    · have h2 : (a.1 == e && a.2.1 == v) = false := by
        cases h3 : (a.1 == e && a.2.1 == v) with
        | false => rfl
        | true => simp at h3; exact absurd ⟨h3.1.symm, h3.2.symm⟩ h
      simp [bump, h, h2]
theorem dup_take (l : List Rule) (k : Nat) (e v : Int) : (rulesOf (fun _ _ => none) (l.take k) e v).isSome = (l.take k).any fun r => r.1 == e && r.2.1 == v := by
  rw [rulesOf_some]; simp
theorem no_dup (l : List Rule) (k : Nat) (e v : Int) (h : ∀ j (hj : j < l.length), j < k → ¬ (l[j].1 = e ∧ l[j].2.1 = v)) : (rulesOf (fun _ _ => none) (l.take k) e v).isSome = false := by
  rw [dup_take, List.any_eq_false]
  intro x hx
  obtain ⟨j, hj, rfl⟩ := List.mem_iff_getElem.1 hx
  simp at hj
  have := h j (by omega) (by omega)
  simpa using this
theorem is_dup (l : List Rule) (k : Nat) (e v : Int) (j : Nat) (hj : j < l.length) (hk : j < k) (h : l[j].1 = e ∧ l[j].2.1 = v) : (rulesOf (fun _ _ => none) (l.take k) e v).isSome = true := by
  rw [dup_take, List.any_eq_true]
  exact ⟨l[j], List.mem_iff_getElem.2 ⟨j, by simp; omega, by simp⟩, by simp [h]⟩
theorem newI_stop (m : Bool) (l : List Rule) (k : Nat) (hk : k < l.length) (h64 : ¬ 64 < l.length) (h0 : wrongs m (fun _ _ => none) (l.take k) = 0) (x : Int) (hx : x ≠ 0) (h : wrongI m (rulesOf (fun _ _ => none) (l.take k)) l[k].1 l[k].2.1 l[k].2.2 = x) : newI m l = x := by
  rw [newI, if_neg h64, wrongs_stop m l _ k hk h0 (by rw [h]; exact hx), h]
/-- The cells of a slice of rules, one by one. -/
theorem rule_at {w : World} {A : Option Addr} {c : Nat} {l : List Rule} (h : Sees w 3 (.slice A l.length c) l.length (cells3 l)) (k : Nat) (hk : k < l.length) :
    ∃ g o, A = some ⟨g, o, none⟩ ∧ ∀ j (hj : j < l.length), w.cell? ⟨g, o + j * 3, none⟩ = some (.int .i64 l[j].1) ∧ w.cell? ⟨g, o + j * 3 + 1, none⟩ = some (.int .i64 l[j].2.1) ∧ w.cell? ⟨g, o + j * 3 + 2, none⟩ = some (.int .i64 l[j].2.2) := by
  rcases h.2.2 with ⟨_, h0⟩ | ⟨ad, c', he, _, _, hsp, hcell⟩
  · omega
  obtain ⟨g, o, sp⟩ := ad
  obtain rfl : sp = none := hsp (by omega)
  simp only [Value.slice.injEq, true_and] at he
  obtain ⟨rfl, rfl⟩ := he
  refine ⟨g, o, rfl, fun j hj => ?_⟩
  obtain ⟨hA, hB, hC⟩ := cells3_at l j hj
  have hA := hcell _ _ hA
  have hB := hcell _ _ hB
  have hC := hcell _ _ hC
  simp only [← Nat.add_assoc] at hA hB hC
  exact ⟨hA, hB, hC⟩
def RefNew (w : World) (m : Bool) (l : List Rule) (e : Ending) (w' : World) : Prop := e = .returned (.int .i64 (newI m l)) ∧ Kp [] w w'
set_option maxRecDepth 100000 in
set_option maxHeartbeats 8000000 in
theorem refNew_calls (w : World) (v : Value) (l : List Rule) (m : Bool) (hs : Sees w 3 v l.length (cells3 l)) :
    Calls Try.prog 9 #[v, .bool m] w (RefNew w m l) := by
  obtain ⟨A, c, rfl⟩ := hs.shape
  have hn := hs.2.1
  unfold maxLen at hn
  by_cases h64 : 64 < l.length
  · go_enter Try.func9, Try.ntmps9
    go_wp2
    go_ret
    exact ⟨by simp [newI, h64], Kp.refl _ _⟩
  · go_enter Try.func9, Try.ntmps9
    go_wp2_with fail
    go_loopw [5] (fun i wr => ∃ k : Nat, k ≤ l.length ∧ i = .int .i64 k ∧ Kp [] w wr ∧ wrongs m (fun _ _ => none) (l.take k) = 0) (fun i _ => l.length - (intOf i).toNat)
    case atStart => exact ⟨0, Nat.zero_le _, rfl, Kp.refl _ _, rfl⟩
    case round =>
      obtain ⟨k, hk, rfl, hkr, h0⟩ := hrel
      by_cases hlt : k < l.length
      · obtain ⟨g, o, rfl, hcell⟩ := rule_at (hs.old hkr (by simp)) k hlt
        obtain ⟨cA, cB, cC⟩ := hcell k hlt
        have hcell' := fun j hj => ((hcell j hj).1)
        have HST := Lib.hid (newI_stop m l k hlt h64 h0)
        have HNX := Lib.hid (wrongs_next m l (fun _ _ => none) k hlt h0)
        have HND := Lib.hid (no_dup l k l[k].1 l[k].2.1)
        have HID := Lib.hid (is_dup l k l[k].1 l[k].2.1)
        have HC := Lib.hid hcell
        clear hcell hcell' h0
        generalize l[k] = x at *
        obtain ⟨e, lv, d⟩ := x
        simp only at cA cB cC HST HNX HND HID
        generalize hF : rulesOf (fun _ _ => none) (l.take k) = F at *
        clear hF
        obtain ⟨we, hwe, hke, h6, hz6⟩ := new1 wr (.cells #[.int .i64 e, .int .i64 lv, .int .i64 d] 46)
        have HE := Lib.hid hwe
        clear hwe
        by_cases he1 : e < 1
        · go_wp2
          go_ret
          exact ⟨by rw [HST.out 2 (by omega) (by simp [wrongI, knownB]; omega)]; rfl, hkr.alloc _⟩
        by_cases he2 : 27 < e
        · go_wp2
          go_ret
          exact ⟨by rw [HST.out 2 (by omega) (by simp [wrongI, knownB]; omega)]; rfl, hkr.alloc _⟩
        have hkn : Hid (knownB e = true) := Lib.hid (by simp [knownB]; omega)
        cases m
        · skip
          by_cases hlv0 : lv = 0
          · subst hlv0
            by_cases hd0 : d = 0
            · subst hd0
              obtain ⟨wo, rfl⟩ : ∃ wo : World, wo = wr := ⟨_, rfl⟩
              go_wp2_with fail
              rw [← HE.out]
              go_loopw [8] (fun i V => ∃ j : Nat, j ≤ k ∧ i = .int .i64 j ∧ Kp [] we V ∧ Hid (∀ i (hi : i < l.length), i < j → ¬ (l[i].1 = e ∧ l[i].2.1 = (0 : Int)))) (fun i _ => k - (intOf i).toNat)
              case atStart => exact ⟨0, by omega, rfl, Kp.refl _ _, Lib.hid fun _ _ h => absurd h (by omega)⟩
              case round =>
                obtain ⟨j, hj, rfl, hkV, hnd⟩ := hrel
                by_cases hjk : j < k
                · have hjl : j < l.length := by omega
                  have d1 := (hke.trans hkV).cell (HC.out j hjl).1 (by simp)
                  have d2 := (hke.trans hkV).cell (HC.out j hjl).2.1 (by simp)
                  obtain ⟨-, d6, -, -⟩ := hkV.look h6 (by simp)
                  by_cases hs1 : l[j].1 = e ∧ l[j].2.1 = (0 : Int)
                  · have HS1 := Lib.hid hs1
                    have HW7 : Hid (wrongI false F e (0 : Int) 0 = 7) := Lib.hid (by simp only [wrongI, hkn.out, HID.out j hjl hjk hs1]; simp [hasB, canL])
                    obtain ⟨z1, z2⟩ := hs1
                    rw [z1] at d1
                    rw [z2] at d2
                    clear z1 z2
                    go_wp2_with fail
                    go_quiet (fail)
                    go_wp2
                    go_ret
                    exact ⟨by rw [HST.out 7 (by omega) HW7.out]; rfl, (hkr.trans hke).trans (hkV.trans ⟨rfl, rfl, rfl, Nat.le_refl _, fun _ _ _ => rfl⟩)⟩
                  · have hnd2 : Hid (∀ i (hi : i < l.length), i < j + 1 → ¬ (l[i].1 = e ∧ l[i].2.1 = (0 : Int))) := Lib.hid fun i hi h => by
                      by_cases hij : i = j
                      · subst hij; exact hs1
                      · exact hnd.out i hi (by omega)
                    by_cases z1 : l[j].1 = e
                    · have z2 : (l[j].2.1 == (0 : Int)) = false := by simpa using fun h => hs1 ⟨z1, h⟩
                      rw [z1] at d1
                      clear hs1 z1
                      generalize l[j].2.1 = b2 at *
                      go_wp2_with fail
                      go_quiet (fail)
                      go_wp2
                      go_roundw
                      case rel => exact ⟨j + 1, by omega, by go_num, hkV.drewN _, hnd2⟩
                      case measure => simp [intOf]; omega
                    · have z2 : (l[j].1 == e) = false := by simpa using z1
                      clear hs1 z1
                      generalize l[j].1 = b1 at *
                      generalize l[j].2.1 = b2 at *
                      go_wp2_with fail
                      go_quiet (fail)
                      go_wp2
                      go_roundw
                      case rel => exact ⟨j + 1, by omega, by go_num, hkV.drewN _, hnd2⟩
                      case measure => simp [intOf]; omega
                · obtain rfl : j = k := by omega
                  have HW0 : Hid (wrongI false F e (0 : Int) 0 = 0) := Lib.hid (by simp only [wrongI, hkn.out, HND.out (fun i hi h => hnd.out i hi h)]; simp [hasB, canL])
                  clear hjk hj
                  go_wp2
                  go_roundw
                  case rel => exact ⟨j + 1, by omega, by go_num, (hkr.trans hke).trans hkV, by rw [HNX.out]; exact HW0.out⟩
                  case measure => simp [intOf]; omega
            by_cases hd1 : d = 1
            · subst hd1
              obtain ⟨wo, rfl⟩ : ∃ wo : World, wo = wr := ⟨_, rfl⟩
              go_wp2_with fail
              rw [← HE.out]
              go_loopw [8] (fun i V => ∃ j : Nat, j ≤ k ∧ i = .int .i64 j ∧ Kp [] we V ∧ Hid (∀ i (hi : i < l.length), i < j → ¬ (l[i].1 = e ∧ l[i].2.1 = (0 : Int)))) (fun i _ => k - (intOf i).toNat)
              case atStart => exact ⟨0, by omega, rfl, Kp.refl _ _, Lib.hid fun _ _ h => absurd h (by omega)⟩
              case round =>
                obtain ⟨j, hj, rfl, hkV, hnd⟩ := hrel
                by_cases hjk : j < k
                · have hjl : j < l.length := by omega
                  have d1 := (hke.trans hkV).cell (HC.out j hjl).1 (by simp)
                  have d2 := (hke.trans hkV).cell (HC.out j hjl).2.1 (by simp)
                  obtain ⟨-, d6, -, -⟩ := hkV.look h6 (by simp)
                  by_cases hs1 : l[j].1 = e ∧ l[j].2.1 = (0 : Int)
                  · have HS1 := Lib.hid hs1
                    have HW7 : Hid (wrongI false F e (0 : Int) 1 = 7) := Lib.hid (by simp only [wrongI, hkn.out, HID.out j hjl hjk hs1]; simp [hasB, canL])
                    obtain ⟨z1, z2⟩ := hs1
                    rw [z1] at d1
                    rw [z2] at d2
                    clear z1 z2
                    go_wp2_with fail
                    go_quiet (fail)
                    go_wp2
                    go_ret
                    exact ⟨by rw [HST.out 7 (by omega) HW7.out]; rfl, (hkr.trans hke).trans (hkV.trans ⟨rfl, rfl, rfl, Nat.le_refl _, fun _ _ _ => rfl⟩)⟩
                  · have hnd2 : Hid (∀ i (hi : i < l.length), i < j + 1 → ¬ (l[i].1 = e ∧ l[i].2.1 = (0 : Int))) := Lib.hid fun i hi h => by
                      by_cases hij : i = j
                      · subst hij; exact hs1
                      · exact hnd.out i hi (by omega)
                    by_cases z1 : l[j].1 = e
                    · have z2 : (l[j].2.1 == (0 : Int)) = false := by simpa using fun h => hs1 ⟨z1, h⟩
                      rw [z1] at d1
                      clear hs1 z1
                      generalize l[j].2.1 = b2 at *
                      go_wp2_with fail
                      go_quiet (fail)
                      go_wp2
                      go_roundw
                      case rel => exact ⟨j + 1, by omega, by go_num, hkV.drewN _, hnd2⟩
                      case measure => simp [intOf]; omega
                    · have z2 : (l[j].1 == e) = false := by simpa using z1
                      clear hs1 z1
                      generalize l[j].1 = b1 at *
                      generalize l[j].2.1 = b2 at *
                      go_wp2_with fail
                      go_quiet (fail)
                      go_wp2
                      go_roundw
                      case rel => exact ⟨j + 1, by omega, by go_num, hkV.drewN _, hnd2⟩
                      case measure => simp [intOf]; omega
                · obtain rfl : j = k := by omega
                  have HW0 : Hid (wrongI false F e (0 : Int) 1 = 0) := Lib.hid (by simp only [wrongI, hkn.out, HND.out (fun i hi h => hnd.out i hi h)]; simp [hasB, canL])
                  clear hjk hj
                  go_wp2
                  go_roundw
                  case rel => exact ⟨j + 1, by omega, by go_num, (hkr.trans hke).trans hkV, by rw [HNX.out]; exact HW0.out⟩
                  case measure => simp [intOf]; omega
            by_cases hd2 : d = 2
            · subst hd2
              obtain ⟨wo, rfl⟩ : ∃ wo : World, wo = wr := ⟨_, rfl⟩
              go_wp2_with fail
              rw [← HE.out]
              go_loopw [8] (fun i V => ∃ j : Nat, j ≤ k ∧ i = .int .i64 j ∧ Kp [] we V ∧ Hid (∀ i (hi : i < l.length), i < j → ¬ (l[i].1 = e ∧ l[i].2.1 = (0 : Int)))) (fun i _ => k - (intOf i).toNat)
              case atStart => exact ⟨0, by omega, rfl, Kp.refl _ _, Lib.hid fun _ _ h => absurd h (by omega)⟩
              case round =>
                obtain ⟨j, hj, rfl, hkV, hnd⟩ := hrel
                by_cases hjk : j < k
                · have hjl : j < l.length := by omega
                  have d1 := (hke.trans hkV).cell (HC.out j hjl).1 (by simp)
                  have d2 := (hke.trans hkV).cell (HC.out j hjl).2.1 (by simp)
                  obtain ⟨-, d6, -, -⟩ := hkV.look h6 (by simp)
                  by_cases hs1 : l[j].1 = e ∧ l[j].2.1 = (0 : Int)
                  · have HS1 := Lib.hid hs1
                    have HW7 : Hid (wrongI false F e (0 : Int) 2 = 7) := Lib.hid (by simp only [wrongI, hkn.out, HID.out j hjl hjk hs1]; simp [hasB, canL])
                    obtain ⟨z1, z2⟩ := hs1
                    rw [z1] at d1
                    rw [z2] at d2
                    clear z1 z2
                    go_wp2_with fail
                    go_quiet (fail)
                    go_wp2
                    go_ret
                    exact ⟨by rw [HST.out 7 (by omega) HW7.out]; rfl, (hkr.trans hke).trans (hkV.trans ⟨rfl, rfl, rfl, Nat.le_refl _, fun _ _ _ => rfl⟩)⟩
                  · have hnd2 : Hid (∀ i (hi : i < l.length), i < j + 1 → ¬ (l[i].1 = e ∧ l[i].2.1 = (0 : Int))) := Lib.hid fun i hi h => by
                      by_cases hij : i = j
                      · subst hij; exact hs1
                      · exact hnd.out i hi (by omega)
                    by_cases z1 : l[j].1 = e
                    · have z2 : (l[j].2.1 == (0 : Int)) = false := by simpa using fun h => hs1 ⟨z1, h⟩
                      rw [z1] at d1
                      clear hs1 z1
                      generalize l[j].2.1 = b2 at *
                      go_wp2_with fail
                      go_quiet (fail)
                      go_wp2
                      go_roundw
                      case rel => exact ⟨j + 1, by omega, by go_num, hkV.drewN _, hnd2⟩
                      case measure => simp [intOf]; omega
                    · have z2 : (l[j].1 == e) = false := by simpa using z1
                      clear hs1 z1
                      generalize l[j].1 = b1 at *
                      generalize l[j].2.1 = b2 at *
                      go_wp2_with fail
                      go_quiet (fail)
                      go_wp2
                      go_roundw
                      case rel => exact ⟨j + 1, by omega, by go_num, hkV.drewN _, hnd2⟩
                      case measure => simp [intOf]; omega
                · obtain rfl : j = k := by omega
                  have HW0 : Hid (wrongI false F e (0 : Int) 2 = 0) := Lib.hid (by simp only [wrongI, hkn.out, HND.out (fun i hi h => hnd.out i hi h)]; simp [hasB, canL])
                  clear hjk hj
                  go_wp2
                  go_roundw
                  case rel => exact ⟨j + 1, by omega, by go_num, (hkr.trans hke).trans hkV, by rw [HNX.out]; exact HW0.out⟩
                  case measure => simp [intOf]; omega
            by_cases hd3 : d = 3
            · subst hd3
              obtain ⟨wo, rfl⟩ : ∃ wo : World, wo = wr := ⟨_, rfl⟩
              go_wp2_with fail
              rw [← HE.out]
              go_loopw [8] (fun i V => ∃ j : Nat, j ≤ k ∧ i = .int .i64 j ∧ Kp [] we V ∧ Hid (∀ i (hi : i < l.length), i < j → ¬ (l[i].1 = e ∧ l[i].2.1 = (0 : Int)))) (fun i _ => k - (intOf i).toNat)
              case atStart => exact ⟨0, by omega, rfl, Kp.refl _ _, Lib.hid fun _ _ h => absurd h (by omega)⟩
              case round =>
                obtain ⟨j, hj, rfl, hkV, hnd⟩ := hrel
                by_cases hjk : j < k
                · have hjl : j < l.length := by omega
                  have d1 := (hke.trans hkV).cell (HC.out j hjl).1 (by simp)
                  have d2 := (hke.trans hkV).cell (HC.out j hjl).2.1 (by simp)
                  obtain ⟨-, d6, -, -⟩ := hkV.look h6 (by simp)
                  by_cases hs1 : l[j].1 = e ∧ l[j].2.1 = (0 : Int)
                  · have HS1 := Lib.hid hs1
                    have HW7 : Hid (wrongI false F e (0 : Int) 3 = 7) := Lib.hid (by simp only [wrongI, hkn.out, HID.out j hjl hjk hs1]; simp [hasB, canL])
                    obtain ⟨z1, z2⟩ := hs1
                    rw [z1] at d1
                    rw [z2] at d2
                    clear z1 z2
                    go_wp2_with fail
                    go_quiet (fail)
                    go_wp2
                    go_ret
                    exact ⟨by rw [HST.out 7 (by omega) HW7.out]; rfl, (hkr.trans hke).trans (hkV.trans ⟨rfl, rfl, rfl, Nat.le_refl _, fun _ _ _ => rfl⟩)⟩
                  · have hnd2 : Hid (∀ i (hi : i < l.length), i < j + 1 → ¬ (l[i].1 = e ∧ l[i].2.1 = (0 : Int))) := Lib.hid fun i hi h => by
                      by_cases hij : i = j
                      · subst hij; exact hs1
                      · exact hnd.out i hi (by omega)
                    by_cases z1 : l[j].1 = e
                    · have z2 : (l[j].2.1 == (0 : Int)) = false := by simpa using fun h => hs1 ⟨z1, h⟩
                      rw [z1] at d1
                      clear hs1 z1
                      generalize l[j].2.1 = b2 at *
                      go_wp2_with fail
                      go_quiet (fail)
                      go_wp2
                      go_roundw
                      case rel => exact ⟨j + 1, by omega, by go_num, hkV.drewN _, hnd2⟩
                      case measure => simp [intOf]; omega
                    · have z2 : (l[j].1 == e) = false := by simpa using z1
                      clear hs1 z1
                      generalize l[j].1 = b1 at *
                      generalize l[j].2.1 = b2 at *
                      go_wp2_with fail
                      go_quiet (fail)
                      go_wp2
                      go_roundw
                      case rel => exact ⟨j + 1, by omega, by go_num, hkV.drewN _, hnd2⟩
                      case measure => simp [intOf]; omega
                · obtain rfl : j = k := by omega
                  have HW0 : Hid (wrongI false F e (0 : Int) 3 = 0) := Lib.hid (by simp only [wrongI, hkn.out, HND.out (fun i hi h => hnd.out i hi h)]; simp [hasB, canL])
                  clear hjk hj
                  go_wp2
                  go_roundw
                  case rel => exact ⟨j + 1, by omega, by go_num, (hkr.trans hke).trans hkV, by rw [HNX.out]; exact HW0.out⟩
                  case measure => simp [intOf]; omega
            have gd0 : (d == 0) = false := by simpa using hd0
            have nd0 : (d != 0) = true := by simpa using hd0
            have gd1 : (d == 1) = false := by simpa using hd1
            have nd1 : (d != 1) = true := by simpa using hd1
            have gd2 : (d == 2) = false := by simpa using hd2
            have nd2 : (d != 2) = true := by simpa using hd2
            have gd3 : (d == 3) = false := by simpa using hd3
            have nd3 : (d != 3) = true := by simpa using hd3
            go_wp2
            go_ret
            exact ⟨by rw [HST.out 1 (by omega) (by simp [wrongI, hkn.out, hasB, canL, *])]; rfl, hkr.alloc _⟩
          by_cases hlv1 : lv = 1
          · subst hlv1
            by_cases hd0 : d = 0
            · subst hd0
              obtain ⟨wo, rfl⟩ : ∃ wo : World, wo = wr := ⟨_, rfl⟩
              go_wp2_with fail
              rw [← HE.out]
              go_loopw [8] (fun i V => ∃ j : Nat, j ≤ k ∧ i = .int .i64 j ∧ Kp [] we V ∧ Hid (∀ i (hi : i < l.length), i < j → ¬ (l[i].1 = e ∧ l[i].2.1 = (1 : Int)))) (fun i _ => k - (intOf i).toNat)
              case atStart => exact ⟨0, by omega, rfl, Kp.refl _ _, Lib.hid fun _ _ h => absurd h (by omega)⟩
              case round =>
                obtain ⟨j, hj, rfl, hkV, hnd⟩ := hrel
                by_cases hjk : j < k
                · have hjl : j < l.length := by omega
                  have d1 := (hke.trans hkV).cell (HC.out j hjl).1 (by simp)
                  have d2 := (hke.trans hkV).cell (HC.out j hjl).2.1 (by simp)
                  obtain ⟨-, d6, -, -⟩ := hkV.look h6 (by simp)
                  by_cases hs1 : l[j].1 = e ∧ l[j].2.1 = (1 : Int)
                  · have HS1 := Lib.hid hs1
                    have HW7 : Hid (wrongI false F e (1 : Int) 0 = 7) := Lib.hid (by simp only [wrongI, hkn.out, HID.out j hjl hjk hs1]; simp [hasB, canL])
                    obtain ⟨z1, z2⟩ := hs1
                    rw [z1] at d1
                    rw [z2] at d2
                    clear z1 z2
                    go_wp2_with fail
                    go_quiet (fail)
                    go_wp2
                    go_ret
                    exact ⟨by rw [HST.out 7 (by omega) HW7.out]; rfl, (hkr.trans hke).trans (hkV.trans ⟨rfl, rfl, rfl, Nat.le_refl _, fun _ _ _ => rfl⟩)⟩
                  · have hnd2 : Hid (∀ i (hi : i < l.length), i < j + 1 → ¬ (l[i].1 = e ∧ l[i].2.1 = (1 : Int))) := Lib.hid fun i hi h => by
                      by_cases hij : i = j
                      · subst hij; exact hs1
                      · exact hnd.out i hi (by omega)
                    by_cases z1 : l[j].1 = e
                    · have z2 : (l[j].2.1 == (1 : Int)) = false := by simpa using fun h => hs1 ⟨z1, h⟩
                      rw [z1] at d1
                      clear hs1 z1
                      generalize l[j].2.1 = b2 at *
                      go_wp2_with fail
                      go_quiet (fail)
                      go_wp2
                      go_roundw
                      case rel => exact ⟨j + 1, by omega, by go_num, hkV.drewN _, hnd2⟩
                      case measure => simp [intOf]; omega
                    · have z2 : (l[j].1 == e) = false := by simpa using z1
                      clear hs1 z1
                      generalize l[j].1 = b1 at *
                      generalize l[j].2.1 = b2 at *
                      go_wp2_with fail
                      go_quiet (fail)
                      go_wp2
                      go_roundw
                      case rel => exact ⟨j + 1, by omega, by go_num, hkV.drewN _, hnd2⟩
                      case measure => simp [intOf]; omega
                · obtain rfl : j = k := by omega
                  have HW0 : Hid (wrongI false F e (1 : Int) 0 = 0) := Lib.hid (by simp only [wrongI, hkn.out, HND.out (fun i hi h => hnd.out i hi h)]; simp [hasB, canL])
                  clear hjk hj
                  go_wp2
                  go_roundw
                  case rel => exact ⟨j + 1, by omega, by go_num, (hkr.trans hke).trans hkV, by rw [HNX.out]; exact HW0.out⟩
                  case measure => simp [intOf]; omega
            by_cases hd1 : d = 1
            · subst hd1
              obtain ⟨wo, rfl⟩ : ∃ wo : World, wo = wr := ⟨_, rfl⟩
              go_wp2_with fail
              rw [← HE.out]
              go_loopw [8] (fun i V => ∃ j : Nat, j ≤ k ∧ i = .int .i64 j ∧ Kp [] we V ∧ Hid (∀ i (hi : i < l.length), i < j → ¬ (l[i].1 = e ∧ l[i].2.1 = (1 : Int)))) (fun i _ => k - (intOf i).toNat)
              case atStart => exact ⟨0, by omega, rfl, Kp.refl _ _, Lib.hid fun _ _ h => absurd h (by omega)⟩
              case round =>
                obtain ⟨j, hj, rfl, hkV, hnd⟩ := hrel
                by_cases hjk : j < k
                · have hjl : j < l.length := by omega
                  have d1 := (hke.trans hkV).cell (HC.out j hjl).1 (by simp)
                  have d2 := (hke.trans hkV).cell (HC.out j hjl).2.1 (by simp)
                  obtain ⟨-, d6, -, -⟩ := hkV.look h6 (by simp)
                  by_cases hs1 : l[j].1 = e ∧ l[j].2.1 = (1 : Int)
                  · have HS1 := Lib.hid hs1
                    have HW7 : Hid (wrongI false F e (1 : Int) 1 = 7) := Lib.hid (by simp only [wrongI, hkn.out, HID.out j hjl hjk hs1]; simp [hasB, canL])
                    obtain ⟨z1, z2⟩ := hs1
                    rw [z1] at d1
                    rw [z2] at d2
                    clear z1 z2
                    go_wp2_with fail
                    go_quiet (fail)
                    go_wp2
                    go_ret
                    exact ⟨by rw [HST.out 7 (by omega) HW7.out]; rfl, (hkr.trans hke).trans (hkV.trans ⟨rfl, rfl, rfl, Nat.le_refl _, fun _ _ _ => rfl⟩)⟩
                  · have hnd2 : Hid (∀ i (hi : i < l.length), i < j + 1 → ¬ (l[i].1 = e ∧ l[i].2.1 = (1 : Int))) := Lib.hid fun i hi h => by
                      by_cases hij : i = j
                      · subst hij; exact hs1
                      · exact hnd.out i hi (by omega)
                    by_cases z1 : l[j].1 = e
                    · have z2 : (l[j].2.1 == (1 : Int)) = false := by simpa using fun h => hs1 ⟨z1, h⟩
                      rw [z1] at d1
                      clear hs1 z1
                      generalize l[j].2.1 = b2 at *
                      go_wp2_with fail
                      go_quiet (fail)
                      go_wp2
                      go_roundw
                      case rel => exact ⟨j + 1, by omega, by go_num, hkV.drewN _, hnd2⟩
                      case measure => simp [intOf]; omega
                    · have z2 : (l[j].1 == e) = false := by simpa using z1
                      clear hs1 z1
                      generalize l[j].1 = b1 at *
                      generalize l[j].2.1 = b2 at *
                      go_wp2_with fail
                      go_quiet (fail)
                      go_wp2
                      go_roundw
                      case rel => exact ⟨j + 1, by omega, by go_num, hkV.drewN _, hnd2⟩
                      case measure => simp [intOf]; omega
                · obtain rfl : j = k := by omega
                  have HW0 : Hid (wrongI false F e (1 : Int) 1 = 0) := Lib.hid (by simp only [wrongI, hkn.out, HND.out (fun i hi h => hnd.out i hi h)]; simp [hasB, canL])
                  clear hjk hj
                  go_wp2
                  go_roundw
                  case rel => exact ⟨j + 1, by omega, by go_num, (hkr.trans hke).trans hkV, by rw [HNX.out]; exact HW0.out⟩
                  case measure => simp [intOf]; omega
            by_cases hd4 : d = 4
            · subst hd4
              obtain ⟨wo, rfl⟩ : ∃ wo : World, wo = wr := ⟨_, rfl⟩
              go_wp2_with fail
              rw [← HE.out]
              go_loopw [8] (fun i V => ∃ j : Nat, j ≤ k ∧ i = .int .i64 j ∧ Kp [] we V ∧ Hid (∀ i (hi : i < l.length), i < j → ¬ (l[i].1 = e ∧ l[i].2.1 = (1 : Int)))) (fun i _ => k - (intOf i).toNat)
              case atStart => exact ⟨0, by omega, rfl, Kp.refl _ _, Lib.hid fun _ _ h => absurd h (by omega)⟩
              case round =>
                obtain ⟨j, hj, rfl, hkV, hnd⟩ := hrel
                by_cases hjk : j < k
                · have hjl : j < l.length := by omega
                  have d1 := (hke.trans hkV).cell (HC.out j hjl).1 (by simp)
                  have d2 := (hke.trans hkV).cell (HC.out j hjl).2.1 (by simp)
                  obtain ⟨-, d6, -, -⟩ := hkV.look h6 (by simp)
                  by_cases hs1 : l[j].1 = e ∧ l[j].2.1 = (1 : Int)
                  · have HS1 := Lib.hid hs1
                    have HW7 : Hid (wrongI false F e (1 : Int) 4 = 7) := Lib.hid (by simp only [wrongI, hkn.out, HID.out j hjl hjk hs1]; simp [hasB, canL])
                    obtain ⟨z1, z2⟩ := hs1
                    rw [z1] at d1
                    rw [z2] at d2
                    clear z1 z2
                    go_wp2_with fail
                    go_quiet (fail)
                    go_wp2
                    go_ret
                    exact ⟨by rw [HST.out 7 (by omega) HW7.out]; rfl, (hkr.trans hke).trans (hkV.trans ⟨rfl, rfl, rfl, Nat.le_refl _, fun _ _ _ => rfl⟩)⟩
                  · have hnd2 : Hid (∀ i (hi : i < l.length), i < j + 1 → ¬ (l[i].1 = e ∧ l[i].2.1 = (1 : Int))) := Lib.hid fun i hi h => by
                      by_cases hij : i = j
                      · subst hij; exact hs1
                      · exact hnd.out i hi (by omega)
                    by_cases z1 : l[j].1 = e
                    · have z2 : (l[j].2.1 == (1 : Int)) = false := by simpa using fun h => hs1 ⟨z1, h⟩
                      rw [z1] at d1
                      clear hs1 z1
                      generalize l[j].2.1 = b2 at *
                      go_wp2_with fail
                      go_quiet (fail)
                      go_wp2
                      go_roundw
                      case rel => exact ⟨j + 1, by omega, by go_num, hkV.drewN _, hnd2⟩
                      case measure => simp [intOf]; omega
                    · have z2 : (l[j].1 == e) = false := by simpa using z1
                      clear hs1 z1
                      generalize l[j].1 = b1 at *
                      generalize l[j].2.1 = b2 at *
                      go_wp2_with fail
                      go_quiet (fail)
                      go_wp2
                      go_roundw
                      case rel => exact ⟨j + 1, by omega, by go_num, hkV.drewN _, hnd2⟩
                      case measure => simp [intOf]; omega
                · obtain rfl : j = k := by omega
                  have HW0 : Hid (wrongI false F e (1 : Int) 4 = 0) := Lib.hid (by simp only [wrongI, hkn.out, HND.out (fun i hi h => hnd.out i hi h)]; simp [hasB, canL])
                  clear hjk hj
                  go_wp2
                  go_roundw
                  case rel => exact ⟨j + 1, by omega, by go_num, (hkr.trans hke).trans hkV, by rw [HNX.out]; exact HW0.out⟩
                  case measure => simp [intOf]; omega
            by_cases hd5 : d = 5
            · subst hd5
              obtain ⟨wo, rfl⟩ : ∃ wo : World, wo = wr := ⟨_, rfl⟩
              go_wp2_with fail
              rw [← HE.out]
              go_loopw [8] (fun i V => ∃ j : Nat, j ≤ k ∧ i = .int .i64 j ∧ Kp [] we V ∧ Hid (∀ i (hi : i < l.length), i < j → ¬ (l[i].1 = e ∧ l[i].2.1 = (1 : Int)))) (fun i _ => k - (intOf i).toNat)
              case atStart => exact ⟨0, by omega, rfl, Kp.refl _ _, Lib.hid fun _ _ h => absurd h (by omega)⟩
              case round =>
                obtain ⟨j, hj, rfl, hkV, hnd⟩ := hrel
                by_cases hjk : j < k
                · have hjl : j < l.length := by omega
                  have d1 := (hke.trans hkV).cell (HC.out j hjl).1 (by simp)
                  have d2 := (hke.trans hkV).cell (HC.out j hjl).2.1 (by simp)
                  obtain ⟨-, d6, -, -⟩ := hkV.look h6 (by simp)
                  by_cases hs1 : l[j].1 = e ∧ l[j].2.1 = (1 : Int)
                  · have HS1 := Lib.hid hs1
                    have HW7 : Hid (wrongI false F e (1 : Int) 5 = 7) := Lib.hid (by simp only [wrongI, hkn.out, HID.out j hjl hjk hs1]; simp [hasB, canL])
                    obtain ⟨z1, z2⟩ := hs1
                    rw [z1] at d1
                    rw [z2] at d2
                    clear z1 z2
                    go_wp2_with fail
                    go_quiet (fail)
                    go_wp2
                    go_ret
                    exact ⟨by rw [HST.out 7 (by omega) HW7.out]; rfl, (hkr.trans hke).trans (hkV.trans ⟨rfl, rfl, rfl, Nat.le_refl _, fun _ _ _ => rfl⟩)⟩
                  · have hnd2 : Hid (∀ i (hi : i < l.length), i < j + 1 → ¬ (l[i].1 = e ∧ l[i].2.1 = (1 : Int))) := Lib.hid fun i hi h => by
                      by_cases hij : i = j
                      · subst hij; exact hs1
                      · exact hnd.out i hi (by omega)
                    by_cases z1 : l[j].1 = e
                    · have z2 : (l[j].2.1 == (1 : Int)) = false := by simpa using fun h => hs1 ⟨z1, h⟩
                      rw [z1] at d1
                      clear hs1 z1
                      generalize l[j].2.1 = b2 at *
                      go_wp2_with fail
                      go_quiet (fail)
                      go_wp2
                      go_roundw
                      case rel => exact ⟨j + 1, by omega, by go_num, hkV.drewN _, hnd2⟩
                      case measure => simp [intOf]; omega
                    · have z2 : (l[j].1 == e) = false := by simpa using z1
                      clear hs1 z1
                      generalize l[j].1 = b1 at *
                      generalize l[j].2.1 = b2 at *
                      go_wp2_with fail
                      go_quiet (fail)
                      go_wp2
                      go_roundw
                      case rel => exact ⟨j + 1, by omega, by go_num, hkV.drewN _, hnd2⟩
                      case measure => simp [intOf]; omega
                · obtain rfl : j = k := by omega
                  have HW0 : Hid (wrongI false F e (1 : Int) 5 = 0) := Lib.hid (by simp only [wrongI, hkn.out, HND.out (fun i hi h => hnd.out i hi h)]; simp [hasB, canL])
                  clear hjk hj
                  go_wp2
                  go_roundw
                  case rel => exact ⟨j + 1, by omega, by go_num, (hkr.trans hke).trans hkV, by rw [HNX.out]; exact HW0.out⟩
                  case measure => simp [intOf]; omega
            by_cases hd6 : d = 6
            · subst hd6
              obtain ⟨wo, rfl⟩ : ∃ wo : World, wo = wr := ⟨_, rfl⟩
              go_wp2_with fail
              rw [← HE.out]
              go_loopw [8] (fun i V => ∃ j : Nat, j ≤ k ∧ i = .int .i64 j ∧ Kp [] we V ∧ Hid (∀ i (hi : i < l.length), i < j → ¬ (l[i].1 = e ∧ l[i].2.1 = (1 : Int)))) (fun i _ => k - (intOf i).toNat)
              case atStart => exact ⟨0, by omega, rfl, Kp.refl _ _, Lib.hid fun _ _ h => absurd h (by omega)⟩
              case round =>
                obtain ⟨j, hj, rfl, hkV, hnd⟩ := hrel
                by_cases hjk : j < k
                · have hjl : j < l.length := by omega
                  have d1 := (hke.trans hkV).cell (HC.out j hjl).1 (by simp)
                  have d2 := (hke.trans hkV).cell (HC.out j hjl).2.1 (by simp)
                  obtain ⟨-, d6, -, -⟩ := hkV.look h6 (by simp)
                  by_cases hs1 : l[j].1 = e ∧ l[j].2.1 = (1 : Int)
                  · have HS1 := Lib.hid hs1
                    have HW7 : Hid (wrongI false F e (1 : Int) 6 = 7) := Lib.hid (by simp only [wrongI, hkn.out, HID.out j hjl hjk hs1]; simp [hasB, canL])
                    obtain ⟨z1, z2⟩ := hs1
                    rw [z1] at d1
                    rw [z2] at d2
                    clear z1 z2
                    go_wp2_with fail
                    go_quiet (fail)
                    go_wp2
                    go_ret
                    exact ⟨by rw [HST.out 7 (by omega) HW7.out]; rfl, (hkr.trans hke).trans (hkV.trans ⟨rfl, rfl, rfl, Nat.le_refl _, fun _ _ _ => rfl⟩)⟩
                  · have hnd2 : Hid (∀ i (hi : i < l.length), i < j + 1 → ¬ (l[i].1 = e ∧ l[i].2.1 = (1 : Int))) := Lib.hid fun i hi h => by
                      by_cases hij : i = j
                      · subst hij; exact hs1
                      · exact hnd.out i hi (by omega)
                    by_cases z1 : l[j].1 = e
                    · have z2 : (l[j].2.1 == (1 : Int)) = false := by simpa using fun h => hs1 ⟨z1, h⟩
                      rw [z1] at d1
                      clear hs1 z1
                      generalize l[j].2.1 = b2 at *
                      go_wp2_with fail
                      go_quiet (fail)
                      go_wp2
                      go_roundw
                      case rel => exact ⟨j + 1, by omega, by go_num, hkV.drewN _, hnd2⟩
                      case measure => simp [intOf]; omega
                    · have z2 : (l[j].1 == e) = false := by simpa using z1
                      clear hs1 z1
                      generalize l[j].1 = b1 at *
                      generalize l[j].2.1 = b2 at *
                      go_wp2_with fail
                      go_quiet (fail)
                      go_wp2
                      go_roundw
                      case rel => exact ⟨j + 1, by omega, by go_num, hkV.drewN _, hnd2⟩
                      case measure => simp [intOf]; omega
                · obtain rfl : j = k := by omega
                  have HW0 : Hid (wrongI false F e (1 : Int) 6 = 0) := Lib.hid (by simp only [wrongI, hkn.out, HND.out (fun i hi h => hnd.out i hi h)]; simp [hasB, canL])
                  clear hjk hj
                  go_wp2
                  go_roundw
                  case rel => exact ⟨j + 1, by omega, by go_num, (hkr.trans hke).trans hkV, by rw [HNX.out]; exact HW0.out⟩
                  case measure => simp [intOf]; omega
            have gd0 : (d == 0) = false := by simpa using hd0
            have nd0 : (d != 0) = true := by simpa using hd0
            have gd1 : (d == 1) = false := by simpa using hd1
            have nd1 : (d != 1) = true := by simpa using hd1
            have gd4 : (d == 4) = false := by simpa using hd4
            have nd4 : (d != 4) = true := by simpa using hd4
            have gd5 : (d == 5) = false := by simpa using hd5
            have nd5 : (d != 5) = true := by simpa using hd5
            have gd6 : (d == 6) = false := by simpa using hd6
            have nd6 : (d != 6) = true := by simpa using hd6
            go_wp2
            go_ret
            exact ⟨by rw [HST.out 1 (by omega) (by simp [wrongI, hkn.out, hasB, canL, *])]; rfl, hkr.alloc _⟩
          have glv0 : (lv == 0) = false := by simpa using hlv0
          have nlv0 : (lv != 0) = true := by simpa using hlv0
          have glv1 : (lv == 1) = false := by simpa using hlv1
          have nlv1 : (lv != 1) = true := by simpa using hlv1
          go_wp2
          go_ret
          exact ⟨by rw [HST.out 2 (by omega) (by simp [wrongI, hkn.out, hasB, canL, *])]; rfl, hkr.alloc _⟩
        · skip
          by_cases hlv2 : lv = 2
          · subst hlv2
            by_cases hd0 : d = 0
            · subst hd0
              obtain ⟨wo, rfl⟩ : ∃ wo : World, wo = wr := ⟨_, rfl⟩
              go_wp2_with fail
              rw [← HE.out]
              go_loopw [8] (fun i V => ∃ j : Nat, j ≤ k ∧ i = .int .i64 j ∧ Kp [] we V ∧ Hid (∀ i (hi : i < l.length), i < j → ¬ (l[i].1 = e ∧ l[i].2.1 = (2 : Int)))) (fun i _ => k - (intOf i).toNat)
              case atStart => exact ⟨0, by omega, rfl, Kp.refl _ _, Lib.hid fun _ _ h => absurd h (by omega)⟩
              case round =>
                obtain ⟨j, hj, rfl, hkV, hnd⟩ := hrel
                by_cases hjk : j < k
                · have hjl : j < l.length := by omega
                  have d1 := (hke.trans hkV).cell (HC.out j hjl).1 (by simp)
                  have d2 := (hke.trans hkV).cell (HC.out j hjl).2.1 (by simp)
                  obtain ⟨-, d6, -, -⟩ := hkV.look h6 (by simp)
                  by_cases hs1 : l[j].1 = e ∧ l[j].2.1 = (2 : Int)
                  · have HS1 := Lib.hid hs1
                    have HW7 : Hid (wrongI true F e (2 : Int) 0 = 7) := Lib.hid (by simp only [wrongI, hkn.out, HID.out j hjl hjk hs1]; simp [hasB, canL])
                    obtain ⟨z1, z2⟩ := hs1
                    rw [z1] at d1
                    rw [z2] at d2
                    clear z1 z2
                    go_wp2_with fail
                    go_quiet (fail)
                    go_wp2
                    go_ret
                    exact ⟨by rw [HST.out 7 (by omega) HW7.out]; rfl, (hkr.trans hke).trans (hkV.trans ⟨rfl, rfl, rfl, Nat.le_refl _, fun _ _ _ => rfl⟩)⟩
                  · have hnd2 : Hid (∀ i (hi : i < l.length), i < j + 1 → ¬ (l[i].1 = e ∧ l[i].2.1 = (2 : Int))) := Lib.hid fun i hi h => by
                      by_cases hij : i = j
                      · subst hij; exact hs1
                      · exact hnd.out i hi (by omega)
                    by_cases z1 : l[j].1 = e
                    · have z2 : (l[j].2.1 == (2 : Int)) = false := by simpa using fun h => hs1 ⟨z1, h⟩
                      rw [z1] at d1
                      clear hs1 z1
                      generalize l[j].2.1 = b2 at *
                      go_wp2_with fail
                      go_quiet (fail)
                      go_wp2
                      go_roundw
                      case rel => exact ⟨j + 1, by omega, by go_num, hkV.drewN _, hnd2⟩
                      case measure => simp [intOf]; omega
                    · have z2 : (l[j].1 == e) = false := by simpa using z1
                      clear hs1 z1
                      generalize l[j].1 = b1 at *
                      generalize l[j].2.1 = b2 at *
                      go_wp2_with fail
                      go_quiet (fail)
                      go_wp2
                      go_roundw
                      case rel => exact ⟨j + 1, by omega, by go_num, hkV.drewN _, hnd2⟩
                      case measure => simp [intOf]; omega
                · obtain rfl : j = k := by omega
                  have HW0 : Hid (wrongI true F e (2 : Int) 0 = 0) := Lib.hid (by simp only [wrongI, hkn.out, HND.out (fun i hi h => hnd.out i hi h)]; simp [hasB, canL])
                  clear hjk hj
                  go_wp2
                  go_roundw
                  case rel => exact ⟨j + 1, by omega, by go_num, (hkr.trans hke).trans hkV, by rw [HNX.out]; exact HW0.out⟩
                  case measure => simp [intOf]; omega
            by_cases hd1 : d = 1
            · subst hd1
              obtain ⟨wo, rfl⟩ : ∃ wo : World, wo = wr := ⟨_, rfl⟩
              go_wp2_with fail
              rw [← HE.out]
              go_loopw [8] (fun i V => ∃ j : Nat, j ≤ k ∧ i = .int .i64 j ∧ Kp [] we V ∧ Hid (∀ i (hi : i < l.length), i < j → ¬ (l[i].1 = e ∧ l[i].2.1 = (2 : Int)))) (fun i _ => k - (intOf i).toNat)
              case atStart => exact ⟨0, by omega, rfl, Kp.refl _ _, Lib.hid fun _ _ h => absurd h (by omega)⟩
              case round =>
                obtain ⟨j, hj, rfl, hkV, hnd⟩ := hrel
                by_cases hjk : j < k
                · have hjl : j < l.length := by omega
                  have d1 := (hke.trans hkV).cell (HC.out j hjl).1 (by simp)
                  have d2 := (hke.trans hkV).cell (HC.out j hjl).2.1 (by simp)
                  obtain ⟨-, d6, -, -⟩ := hkV.look h6 (by simp)
                  by_cases hs1 : l[j].1 = e ∧ l[j].2.1 = (2 : Int)
                  · have HS1 := Lib.hid hs1
                    have HW7 : Hid (wrongI true F e (2 : Int) 1 = 7) := Lib.hid (by simp only [wrongI, hkn.out, HID.out j hjl hjk hs1]; simp [hasB, canL])
                    obtain ⟨z1, z2⟩ := hs1
                    rw [z1] at d1
                    rw [z2] at d2
                    clear z1 z2
                    go_wp2_with fail
                    go_quiet (fail)
                    go_wp2
                    go_ret
                    exact ⟨by rw [HST.out 7 (by omega) HW7.out]; rfl, (hkr.trans hke).trans (hkV.trans ⟨rfl, rfl, rfl, Nat.le_refl _, fun _ _ _ => rfl⟩)⟩
                  · have hnd2 : Hid (∀ i (hi : i < l.length), i < j + 1 → ¬ (l[i].1 = e ∧ l[i].2.1 = (2 : Int))) := Lib.hid fun i hi h => by
                      by_cases hij : i = j
                      · subst hij; exact hs1
                      · exact hnd.out i hi (by omega)
                    by_cases z1 : l[j].1 = e
                    · have z2 : (l[j].2.1 == (2 : Int)) = false := by simpa using fun h => hs1 ⟨z1, h⟩
                      rw [z1] at d1
                      clear hs1 z1
                      generalize l[j].2.1 = b2 at *
                      go_wp2_with fail
                      go_quiet (fail)
                      go_wp2
                      go_roundw
                      case rel => exact ⟨j + 1, by omega, by go_num, hkV.drewN _, hnd2⟩
                      case measure => simp [intOf]; omega
                    · have z2 : (l[j].1 == e) = false := by simpa using z1
                      clear hs1 z1
                      generalize l[j].1 = b1 at *
                      generalize l[j].2.1 = b2 at *
                      go_wp2_with fail
                      go_quiet (fail)
                      go_wp2
                      go_roundw
                      case rel => exact ⟨j + 1, by omega, by go_num, hkV.drewN _, hnd2⟩
                      case measure => simp [intOf]; omega
                · obtain rfl : j = k := by omega
                  have HW0 : Hid (wrongI true F e (2 : Int) 1 = 0) := Lib.hid (by simp only [wrongI, hkn.out, HND.out (fun i hi h => hnd.out i hi h)]; simp [hasB, canL])
                  clear hjk hj
                  go_wp2
                  go_roundw
                  case rel => exact ⟨j + 1, by omega, by go_num, (hkr.trans hke).trans hkV, by rw [HNX.out]; exact HW0.out⟩
                  case measure => simp [intOf]; omega
            have gd0 : (d == 0) = false := by simpa using hd0
            have nd0 : (d != 0) = true := by simpa using hd0
            have gd1 : (d == 1) = false := by simpa using hd1
            have nd1 : (d != 1) = true := by simpa using hd1
            go_wp2
            go_ret
            exact ⟨by rw [HST.out 1 (by omega) (by simp [wrongI, hkn.out, hasB, canL, *])]; rfl, hkr.alloc _⟩
          have glv2 : (lv == 2) = false := by simpa using hlv2
          have nlv2 : (lv != 2) = true := by simpa using hlv2
          go_wp2
          go_ret
          exact ⟨by rw [HST.out 2 (by omega) (by simp [wrongI, hkn.out, hasB, canL, *])]; rfl, hkr.alloc _⟩
      · obtain rfl : k = l.length := by omega
        rw [List.take_length] at h0
        have HN0 : Hid (newI m l = 0) := Lib.hid (by rw [newI, if_neg h64]; exact h0)
        clear h0
        go_wp2
        go_ret
        exact ⟨by rw [HN0.out]; rfl, hkr⟩
end Go.Proofs.Ytlghbnoiakeibaa
