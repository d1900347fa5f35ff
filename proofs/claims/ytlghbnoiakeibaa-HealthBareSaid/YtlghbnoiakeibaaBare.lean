import Derived.Test.YtlghbnoiakeibaaS8
set_option linter.unusedVariables false
set_option linter.unusedSimpArgs false
namespace Go.Proofs.Ytlghbnoiakeibaa
open Go.RowKit
theorem bare_told (F : Int → Int → Option Int) (p n : Int) (hn : knownB n = true) (h0 : F n 0 = none) (h1 : F n 1 = none) : toldB false F p n = if p < 0 then (1, 6) else (0, 2) := by
  by_cases hp : p < 0
  · have : max p (-1) = -1 := by omega
    simp [toldB, hn, doneB, ofP, h0, h1, hp, this]
  · have : ¬ max p (-1) = -1 := by omega
    simp [toldB, hn, doneB, ofP, h0, h1, hp, this]
theorem bare_tell (n p : Int) (hn : knownB n = true) : toldB true (rulesOf (fun _ _ => none) []) p n = (2, 1) := by
  simp [toldB, hn, doneB, rulesOf]
theorem bare_new (k x y : Int) (hk : knownB k = true) (hx : x = 0 ∨ x = 1 ∨ x = 4 ∨ x = 5 ∨ x = 6) (hy : y = 0 ∨ y = 1 ∨ y = 2 ∨ y = 3) : newI false [(k, 1, x), (k, 0, y)] = 0 := by
  have a1 : wrongI false (fun _ _ => none) k 1 x = 0 := by
    rcases hx with rfl | rfl | rfl | rfl | rfl <;> simp [wrongI, hk, hasB, canL]
  have a2 : wrongI false (bump (fun _ _ => none) k 1 x) k 0 y = 0 := by
    rcases hy with rfl | rfl | rfl | rfl <;> simp [wrongI, hk, hasB, canL, bump]
  simp [newI, wrongs, a1, a2]
def Bare (w : World) (e : Ending) (w' : World) : Prop := e = .returned (.bool true) ∧ Kp [] w w'
set_option maxHeartbeats 8000000 in
theorem bare_calls (p e o d : Int) (w : World) (hp : (Lit.int .i64 p).wf = true) (he : 0 ≤ e ∧ e ≤ 255) (ho : 0 ≤ o ∧ o ≤ 255) (hd : 0 ≤ d ∧ d ≤ 255) :
    Calls Try.prog 4 #[.int .i64 p, .int .u8 e, .int .u8 o, .int .u8 d] w (Bare w) := by
  obtain ⟨he1, he2⟩ := he
  obtain ⟨ho1, ho2⟩ := ho
  obtain ⟨hd1, hd2⟩ := hd
  have hn : knownB (1 + e % 27) = true := by simp [knownB]; omega
  have hk : knownB (1 + o % 27) = true := by simp [knownB]; omega
  have hne : (Lit.int .i64 (1 + e % 27)).wf = true := WalkArith.wf_i64 (by omega)
  have hko : (Lit.int .i64 (1 + o % 27)).wf = true := WalkArith.wf_i64 (by omega)
  have b1 : 0 ≤ e % 27 ∧ e % 27 < 27 := by omega
  have b2 : 0 ≤ o % 27 ∧ o % 27 < 27 := by omega
  obtain ⟨b11, b12⟩ := b1
  obtain ⟨b21, b22⟩ := b2
  have HNN := Lib.hid hn
  have HKK := Lib.hid hk
  clear hn hk
  go_enter Try.func4, Try.ntmps4
  go_wp2_with fail
  refine (speaks_calls _).mono ?_
  rintro e1 w1 ⟨rfl, hk1⟩
  have HK1 := Lib.hid hk1
  clear hk1
  have hnew2 : Hid (newI true [] = 0) := Lib.hid rfl
  by_cases hek : e % 27 = o % 27
  · have hq : (1 + e % 27 != 1 + o % 27) = false := by simp [hek]
    have HEK := Lib.hid hek
    clear hek
    by_cases hp0 : p < 0
    all_goals
      go_wp2_with fail
      refine (New_calls _ _ [] false ⟨rfl, by simp, .inl ⟨rfl, rfl⟩⟩ (by simp)).mono ?_
      rintro e1 w2 ⟨hk2, -, h1⟩
      obtain ⟨b, r, q, rfl, hM, hb, hr, hq⟩ := h1 rfl
      have HK2 := Lib.hid (HK1.out.trans hk2)
      obtain ⟨F, HF⟩ : ∃ F, Hid (F = rulesOf (fun _ _ => none) []) := ⟨_, Lib.hid rfl⟩
      have HF0 : Hid (F (1 + e % 27) 0 = none) := Lib.hid (by rw [HF.out]; rfl)
      have HF1 : Hid (F (1 + e % 27) 1 = none) := Lib.hid (by rw [HF.out]; rfl)
      rw [← HF.out] at hM
      clear h1 hk2
      go_wp2_with fail
      refine (New_calls _ _ [] true ⟨rfl, by simp, .inl ⟨rfl, rfl⟩⟩ (by simp)).mono ?_
      rintro e1 w3 ⟨hk3, -, h1⟩
      obtain ⟨b', r', q', rfl, hM', hb', hr', hq'⟩ := h1 rfl
      have HK3 := Lib.hid (HK2.out.trans hk3)
      have HM := Lib.hid (hM.keep hk3 (by simp) (by simp) (by simp))
      have HM' := Lib.hid hM'
      obtain ⟨hl1, hl2, hl3⟩ := hM.lt
      obtain ⟨hl1', hl2', hl3'⟩ := hM'.lt
      have hs3 := hk3.size
      have hs2 := HK2.out.size
      have hs1 := HK1.out.size
      clear h1 hk3 hM hM'
      go_wp2_with fail
    · skip
      obtain ⟨W4, hW4, hk4, h16, -⟩ := new1 w3 (.cells #[.int .i64 1, .int .i64 6] 36)
      have HK4 := Lib.hid (HK3.out.trans hk4)
      have HM4 := Lib.hid (HM.out.keep hk4 (by simp) (by simp) (by simp))
      have HM4' := Lib.hid (HM'.out.keep hk4 (by simp) (by simp) (by simp))
      have HT : Hid (toldB false F p (1 + e % 27) = (1, 6)) := Lib.hid (by rw [bare_told F p _ HNN.out HF0.out HF1.out, if_pos (by omega)])
      have HT' : Hid (toldB true (rulesOf (fun _ _ => none) []) p (1 + e % 27) = (2, 1)) := Lib.hid (bare_tell _ _ HNN.out)
      have HS : Hid (∀ V, Kp [q, q'] W4 V → Kp [q, q'] W4 V ∧ ∀ i, V.cell? ⟨w3.heap.size, i, none⟩ = #[.int .i64 1, .int .i64 6][i]?) := Lib.hid fun V hV => ⟨hV, blk_cell (hV.heap h16 (by simp; omega))⟩
      have HC : Hid (∀ V, Kp [] W4 V → Calls Try.prog 12 #[.pointer (some ⟨b, 0, none⟩), .int .i64 p, .int .i64 (1 + e % 27)] V fun x V' => x = .returned (.agg #[.int .i64 1, .int .i64 6]) ∧ Kp [q] W4 V') :=
        Lib.hid fun V hV => (Decide_calls V b r q false F _ _ _ (HM4.out.keep hV (by simp) (by simp) (by simp)) (by unfold maxLen; omega) p _ hp hne).mono fun x V' ⟨a1, _, a2⟩ => ⟨by rw [a1, HT.out], hV.nil_to.trans a2⟩
      have HC' : Hid (∀ V, Kp [q] W4 V → Calls Try.prog 12 #[.pointer (some ⟨b', 0, none⟩), .int .i64 p, .int .i64 (1 + e % 27)] V fun x V' => x = .returned (.agg #[.int .i64 2, .int .i64 1]) ∧ Kp [q, q'] W4 V') :=
        Lib.hid fun V hV => (Decide_calls V b' r' q' true _ _ _ _ (HM4'.out.keep hV (by simp; omega) (by simp; omega) (by simp; omega)) (by unfold maxLen; omega) p _ hp hne).mono fun x V' ⟨a1, _, a2⟩ => ⟨by rw [a1, HT'.out], (hV.mono (by simp)).trans (a2.mono (by simp))⟩
      rw [← hW4]
      clear hW4 hk4
      go_region_held3 (fun V => Kp [q, q'] W4 V ∧ ∀ i, V.cell? ⟨w3.heap.size, i, none⟩ = #[.int .i64 1, .int .i64 6][i]?) ((refine HS.out _ ?_; first | exact hkA.mono (by simp) | exact hkB | (repeat (with_reducible first | assumption | apply Kp.refl | apply Kp.drew)))) (first | (go_at_call 12; (with_reducible refine (HC.out _ ?_).mono ?_); (repeat (with_reducible first | assumption | apply Kp.refl | apply Kp.drew)); rintro x VA ⟨rfl, hkA⟩) | (go_at_call 12; (with_reducible refine (HC'.out _ ?_).mono ?_); exact hkA; rintro x VB ⟨rfl, hkB⟩))
      go_wp2
      go_ret
      exact ⟨rfl, HK4.out.next hkB (by simp; omega)⟩
    · skip
      obtain ⟨W4, hW4, hk4, h16, -⟩ := new1 w3 (.cells #[.int .i64 0, .int .i64 2] 36)
      have HK4 := Lib.hid (HK3.out.trans hk4)
      have HM4 := Lib.hid (HM.out.keep hk4 (by simp) (by simp) (by simp))
      have HM4' := Lib.hid (HM'.out.keep hk4 (by simp) (by simp) (by simp))
      have HT : Hid (toldB false F p (1 + e % 27) = (0, 2)) := Lib.hid (by rw [bare_told F p _ HNN.out HF0.out HF1.out, if_neg (by omega)])
      have HT' : Hid (toldB true (rulesOf (fun _ _ => none) []) p (1 + e % 27) = (2, 1)) := Lib.hid (bare_tell _ _ HNN.out)
      have HS : Hid (∀ V, Kp [q, q'] W4 V → Kp [q, q'] W4 V ∧ ∀ i, V.cell? ⟨w3.heap.size, i, none⟩ = #[.int .i64 0, .int .i64 2][i]?) := Lib.hid fun V hV => ⟨hV, blk_cell (hV.heap h16 (by simp; omega))⟩
      have HC : Hid (∀ V, Kp [] W4 V → Calls Try.prog 12 #[.pointer (some ⟨b, 0, none⟩), .int .i64 p, .int .i64 (1 + e % 27)] V fun x V' => x = .returned (.agg #[.int .i64 0, .int .i64 2]) ∧ Kp [q] W4 V') :=
        Lib.hid fun V hV => (Decide_calls V b r q false F _ _ _ (HM4.out.keep hV (by simp) (by simp) (by simp)) (by unfold maxLen; omega) p _ hp hne).mono fun x V' ⟨a1, _, a2⟩ => ⟨by rw [a1, HT.out], hV.nil_to.trans a2⟩
      have HC' : Hid (∀ V, Kp [q] W4 V → Calls Try.prog 12 #[.pointer (some ⟨b', 0, none⟩), .int .i64 p, .int .i64 (1 + e % 27)] V fun x V' => x = .returned (.agg #[.int .i64 2, .int .i64 1]) ∧ Kp [q, q'] W4 V') :=
        Lib.hid fun V hV => (Decide_calls V b' r' q' true _ _ _ _ (HM4'.out.keep hV (by simp; omega) (by simp; omega) (by simp; omega)) (by unfold maxLen; omega) p _ hp hne).mono fun x V' ⟨a1, _, a2⟩ => ⟨by rw [a1, HT'.out], (hV.mono (by simp)).trans (a2.mono (by simp))⟩
      rw [← hW4]
      clear hW4 hk4
      go_region_held3 (fun V => Kp [q, q'] W4 V ∧ ∀ i, V.cell? ⟨w3.heap.size, i, none⟩ = #[.int .i64 0, .int .i64 2][i]?) ((refine HS.out _ ?_; first | exact hkA.mono (by simp) | exact hkB | (repeat (with_reducible first | assumption | apply Kp.refl | apply Kp.drew)))) (first | (go_at_call 12; (with_reducible refine (HC.out _ ?_).mono ?_); (repeat (with_reducible first | assumption | apply Kp.refl | apply Kp.drew)); rintro x VA ⟨rfl, hkA⟩) | (go_at_call 12; (with_reducible refine (HC'.out _ ?_).mono ?_); exact hkA; rintro x VB ⟨rfl, hkB⟩))
      go_wp2
      go_ret
      exact ⟨rfl, HK4.out.next hkB (by simp; omega)⟩
  · have hq : (1 + e % 27 != 1 + o % 27) = true := by simp; omega
    have HEK := Lib.hid hek
    clear hek
    obtain ⟨c5, hc5, h5⟩ : ∃ c5, d % 5 = c5 ∧ (c5 = 0 ∨ c5 = 1 ∨ c5 = 2 ∨ c5 = 3 ∨ c5 = 4) := ⟨_, rfl, by omega⟩
    have h4 : d % 4 = 0 ∨ d % 4 = 1 ∨ d % 4 = 2 ∨ d % 4 = 3 := by omega
    have hd4 : 0 ≤ d % 4 ∧ d % 4 < 4 := by omega
    obtain ⟨hd41, hd42⟩ := hd4
    have H4 := Lib.hid h4
    clear h4
    rcases h5 with rfl | rfl | rfl | rfl | rfl
    all_goals
      obtain ⟨v5, HV5⟩ : ∃ v5, Hid ((([.int .i64 0, .int .i64 1, .int .i64 4, .int .i64 5, .int .i64 6] : List Value)[(d % 5).toNat]?) = some (.int .i64 v5) ∧ (v5 = 0 ∨ v5 = 1 ∨ v5 = 4 ∨ v5 = 5 ∨ v5 = 6)) := by
        rw [hc5]
        exact ⟨_, Lib.hid ⟨rfl, by simp⟩⟩
      by_cases hp0 : p < 0
      all_goals
        go_wp2_with fail
        have hv := HV5.out
        rw [hc5] at hv
        simp only [Int.toNat_zero, Int.toNat_one, Int.reduceToNat, List.getElem?_cons_zero, List.getElem?_cons_succ, Option.some.injEq, Value.int.injEq, true_and] at hv
        obtain ⟨rfl, hx5⟩ := hv
        refine (New_calls _ _ [(1 + o % 27, 1, _), (1 + o % 27, 0, d % 4)] false (Row.made' #[.int .i64 (1 + o % 27), .int .i64 1, .int .i64 _, .int .i64 (1 + o % 27), .int .i64 0, .int .i64 (d % 4)] 2 (by simp) rfl (by decide)).sees ?_).mono ?_
        · simp only [List.mem_cons, List.not_mem_nil, or_false, forall_eq_or_imp, forall_eq, Rule.wf]
          exact ⟨⟨hko, by decide, by decide⟩, hko, by decide, WalkArith.wf_i64 (by omega)⟩
        rintro e1 w2 ⟨hk2, -, h1⟩
        obtain ⟨b, r, q, rfl, hM, hb, hr, hq⟩ := h1 (bare_new _ _ _ HKK.out hx5 H4.out)
        have hk2 := (((Kp.refl [] w1).alloc _).alloc _).trans hk2
        have HK2 := Lib.hid (HK1.out.trans hk2)
        simp at hb hr hq
        generalize hF : rulesOf (fun _ _ => none) _ = F at hM
        have HF := Lib.hid hF
        clear hF
        have HF0 : Hid (F (1 + e % 27) 0 = none) := Lib.hid (by rw [← HF.out]; simp [rulesOf, bump]; exact fun h => absurd h HEK.out)
        have HF1 : Hid (F (1 + e % 27) 1 = none) := Lib.hid (by rw [← HF.out]; simp [rulesOf, bump]; exact fun h => absurd h HEK.out)
        clear hx5
        clear h1 hk2
        go_wp2_with fail
        refine (New_calls _ _ [] true ⟨rfl, by simp, .inl ⟨rfl, rfl⟩⟩ (by simp)).mono ?_
        rintro e1 w3 ⟨hk3, -, h1⟩
        obtain ⟨b', r', q', rfl, hM', hb', hr', hq'⟩ := h1 rfl
        have HK3 := Lib.hid (HK2.out.trans hk3)
        have HM := Lib.hid (hM.keep hk3 (by simp) (by simp) (by simp))
        have HM' := Lib.hid hM'
        obtain ⟨hl1, hl2, hl3⟩ := hM.lt
        obtain ⟨hl1', hl2', hl3'⟩ := hM'.lt
        have hs3 := hk3.size
        have hs2 := HK2.out.size
        have hs1 := HK1.out.size
        clear h1 hk3 hM hM'
        go_wp2_with fail
      · skip
        obtain ⟨W4, hW4, hk4, h16, -⟩ := new1 w3 (.cells #[.int .i64 1, .int .i64 6] 36)
        have HK4 := Lib.hid (HK3.out.trans hk4)
        have HM4 := Lib.hid (HM.out.keep hk4 (by simp) (by simp) (by simp))
        have HM4' := Lib.hid (HM'.out.keep hk4 (by simp) (by simp) (by simp))
        have HT : Hid (toldB false F p (1 + e % 27) = (1, 6)) := Lib.hid (by rw [bare_told F p _ HNN.out HF0.out HF1.out, if_pos (by omega)])
        have HT' : Hid (toldB true (rulesOf (fun _ _ => none) []) p (1 + e % 27) = (2, 1)) := Lib.hid (bare_tell _ _ HNN.out)
        have HS : Hid (∀ V, Kp [q, q'] W4 V → Kp [q, q'] W4 V ∧ ∀ i, V.cell? ⟨w3.heap.size, i, none⟩ = #[.int .i64 1, .int .i64 6][i]?) := Lib.hid fun V hV => ⟨hV, blk_cell (hV.heap h16 (by simp; omega))⟩
        have HC : Hid (∀ V, Kp [] W4 V → Calls Try.prog 12 #[.pointer (some ⟨b, 0, none⟩), .int .i64 p, .int .i64 (1 + e % 27)] V fun x V' => x = .returned (.agg #[.int .i64 1, .int .i64 6]) ∧ Kp [q] W4 V') :=
          Lib.hid fun V hV => (Decide_calls V b r q false F _ _ _ (HM4.out.keep hV (by simp) (by simp) (by simp)) (by unfold maxLen; omega) p _ hp hne).mono fun x V' ⟨a1, _, a2⟩ => ⟨by rw [a1, HT.out], hV.nil_to.trans a2⟩
        have HC' : Hid (∀ V, Kp [q] W4 V → Calls Try.prog 12 #[.pointer (some ⟨b', 0, none⟩), .int .i64 p, .int .i64 (1 + e % 27)] V fun x V' => x = .returned (.agg #[.int .i64 2, .int .i64 1]) ∧ Kp [q, q'] W4 V') :=
          Lib.hid fun V hV => (Decide_calls V b' r' q' true _ _ _ _ (HM4'.out.keep hV (by simp; omega) (by simp; omega) (by simp; omega)) (by unfold maxLen; omega) p _ hp hne).mono fun x V' ⟨a1, _, a2⟩ => ⟨by rw [a1, HT'.out], (hV.mono (by simp)).trans (a2.mono (by simp))⟩
        rw [← hW4]
        clear hW4 hk4
        go_region_held3 (fun V => Kp [q, q'] W4 V ∧ ∀ i, V.cell? ⟨w3.heap.size, i, none⟩ = #[.int .i64 1, .int .i64 6][i]?) ((refine HS.out _ ?_; first | exact hkA.mono (by simp) | exact hkB | (repeat (with_reducible first | assumption | apply Kp.refl | apply Kp.drew)))) (first | (go_at_call 12; (with_reducible refine (HC.out _ ?_).mono ?_); (repeat (with_reducible first | assumption | apply Kp.refl | apply Kp.drew)); rintro x VA ⟨rfl, hkA⟩) | (go_at_call 12; (with_reducible refine (HC'.out _ ?_).mono ?_); exact hkA; rintro x VB ⟨rfl, hkB⟩))
        go_wp2
        go_ret
        exact ⟨rfl, HK4.out.next hkB (by simp; omega)⟩
      · skip
        obtain ⟨W4, hW4, hk4, h16, -⟩ := new1 w3 (.cells #[.int .i64 0, .int .i64 2] 36)
        have HK4 := Lib.hid (HK3.out.trans hk4)
        have HM4 := Lib.hid (HM.out.keep hk4 (by simp) (by simp) (by simp))
        have HM4' := Lib.hid (HM'.out.keep hk4 (by simp) (by simp) (by simp))
        have HT : Hid (toldB false F p (1 + e % 27) = (0, 2)) := Lib.hid (by rw [bare_told F p _ HNN.out HF0.out HF1.out, if_neg (by omega)])
        have HT' : Hid (toldB true (rulesOf (fun _ _ => none) []) p (1 + e % 27) = (2, 1)) := Lib.hid (bare_tell _ _ HNN.out)
        have HS : Hid (∀ V, Kp [q, q'] W4 V → Kp [q, q'] W4 V ∧ ∀ i, V.cell? ⟨w3.heap.size, i, none⟩ = #[.int .i64 0, .int .i64 2][i]?) := Lib.hid fun V hV => ⟨hV, blk_cell (hV.heap h16 (by simp; omega))⟩
        have HC : Hid (∀ V, Kp [] W4 V → Calls Try.prog 12 #[.pointer (some ⟨b, 0, none⟩), .int .i64 p, .int .i64 (1 + e % 27)] V fun x V' => x = .returned (.agg #[.int .i64 0, .int .i64 2]) ∧ Kp [q] W4 V') :=
          Lib.hid fun V hV => (Decide_calls V b r q false F _ _ _ (HM4.out.keep hV (by simp) (by simp) (by simp)) (by unfold maxLen; omega) p _ hp hne).mono fun x V' ⟨a1, _, a2⟩ => ⟨by rw [a1, HT.out], hV.nil_to.trans a2⟩
        have HC' : Hid (∀ V, Kp [q] W4 V → Calls Try.prog 12 #[.pointer (some ⟨b', 0, none⟩), .int .i64 p, .int .i64 (1 + e % 27)] V fun x V' => x = .returned (.agg #[.int .i64 2, .int .i64 1]) ∧ Kp [q, q'] W4 V') :=
          Lib.hid fun V hV => (Decide_calls V b' r' q' true _ _ _ _ (HM4'.out.keep hV (by simp; omega) (by simp; omega) (by simp; omega)) (by unfold maxLen; omega) p _ hp hne).mono fun x V' ⟨a1, _, a2⟩ => ⟨by rw [a1, HT'.out], (hV.mono (by simp)).trans (a2.mono (by simp))⟩
        rw [← hW4]
        clear hW4 hk4
        go_region_held3 (fun V => Kp [q, q'] W4 V ∧ ∀ i, V.cell? ⟨w3.heap.size, i, none⟩ = #[.int .i64 0, .int .i64 2][i]?) ((refine HS.out _ ?_; first | exact hkA.mono (by simp) | exact hkB | (repeat (with_reducible first | assumption | apply Kp.refl | apply Kp.drew)))) (first | (go_at_call 12; (with_reducible refine (HC.out _ ?_).mono ?_); (repeat (with_reducible first | assumption | apply Kp.refl | apply Kp.drew)); rintro x VA ⟨rfl, hkA⟩) | (go_at_call 12; (with_reducible refine (HC'.out _ ?_).mono ?_); exact hkA; rintro x VB ⟨rfl, hkB⟩))
        go_wp2
        go_ret
        exact ⟨rfl, HK4.out.next hkB (by simp; omega)⟩
end Go.Proofs.Ytlghbnoiakeibaa
