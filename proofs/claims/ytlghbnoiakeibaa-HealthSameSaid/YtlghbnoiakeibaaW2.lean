import Derived.Test.YtlghbnoiakeibaaW1
import Derived.Test.YtlghbnoiakeibaaMq
set_option linter.unusedVariables false
set_option linter.unusedSimpArgs false
namespace Go.Proofs.Ytlghbnoiakeibaa
open Go.RowKit
abbrev Act3 := Int × Int × Int
/-- The cells of a slice of acts, one by one. -/
theorem act_at {w : World} {A : Option Addr} {c : Nat} {l : List Act3} (h : Sees w 3 (.slice A l.length c) l.length (recs3 .u8 .i64 .i64 l)) (k : Nat) (hk : k < l.length) :
    ∃ g o, A = some ⟨g, o, none⟩ ∧ ∀ j (hj : j < l.length), w.cell? ⟨g, o + j * 3, none⟩ = some (.int .u8 l[j].1) ∧ w.cell? ⟨g, o + j * 3 + 1, none⟩ = some (.int .i64 l[j].2.1) ∧ w.cell? ⟨g, o + j * 3 + 2, none⟩ = some (.int .i64 l[j].2.2) := by
  rcases h.2.2 with ⟨_, h0⟩ | ⟨ad, c', he, _, _, hsp, hcell⟩
  · omega
  obtain ⟨g, o, sp⟩ := ad
  obtain rfl : sp = none := hsp (by omega)
  simp only [Value.slice.injEq, true_and] at he
  obtain ⟨rfl, rfl⟩ := he
  refine ⟨g, o, rfl, fun j hj => ?_⟩
  obtain ⟨hA, hB, hC⟩ := recs3_at .u8 .i64 .i64 l j hj
  have hA := hcell _ _ hA
  have hB := hcell _ _ hB
  have hC := hcell _ _ hC
  simp only [← Nat.add_assoc] at hA hB hC
  exact ⟨hA, hB, hC⟩
def Act3.wf (x : Act3) : Prop := (Lit.int .u8 x.1).wf = true ∧ (Lit.int .i64 x.2.1).wf = true ∧ (Lit.int .i64 x.2.2).wf = true
def True1 (w : World) (e : Ending) (w' : World) : Prop := e = .returned (.bool true) ∧ Kp [] w w'
set_option maxRecDepth 100000 in
set_option maxHeartbeats 8000000 in
theorem within_calls (w : World) (v v2 : Value) (l : List Rule) (m : Bool) (a : List Act3) (hs : Sees w 3 v l.length (cells3 l)) (hw : ∀ r ∈ l, r.wf) (ha : Sees w 3 v2 a.length (recs3 .u8 .i64 .i64 a)) (hwa : ∀ x ∈ a, Act3.wf x) :
    Calls Try.prog 3 #[v, .bool m, v2] w (True1 w) := by
  obtain ⟨A, c, rfl⟩ := hs.shape
  obtain ⟨A2, c2, rfl⟩ := ha.shape
  have hn := hs.2.1
  have hn2 := ha.2.1
  unfold maxLen at hn hn2
  by_cases h70 : 70 < l.length
  · go_enter Try.func3, Try.ntmps3
    go_wp2_with fail
    refine (speaks_calls _).mono ?_
    rintro e1 w1 ⟨rfl, hk1⟩
    go_wp2_with fail
    refine (speaks_calls _).mono ?_
    rintro e2 w2 ⟨rfl, hk2⟩
    go_wp2_with fail
    go_ret
    exact ⟨rfl, hk1.trans hk2⟩
  by_cases h60 : 60 < a.length
  · go_enter Try.func3, Try.ntmps3
    go_wp2_with fail
    refine (speaks_calls _).mono ?_
    rintro e1 w1 ⟨rfl, hk1⟩
    go_wp2_with fail
    refine (speaks_calls _).mono ?_
    rintro e2 w2 ⟨rfl, hk2⟩
    go_wp2_with fail
    go_ret
    exact ⟨rfl, hk1.trans hk2⟩
  go_enter Try.func3, Try.ntmps3
  go_wp2_with fail
  refine (speaks_calls _).mono ?_
  rintro e1 w1 ⟨rfl, hk1⟩
  go_wp2_with fail
  refine (refNew_calls _ _ l m (hs.old hk1 (by simp))).mono ?_
  rintro e2 w2 ⟨rfl, hk2⟩
  have hk2 := hk1.trans hk2
  by_cases hn0 : newI m l = 0
  · have HN0 := Lib.hid hn0
    rw [hn0]
    clear hn0
    go_wp2_with fail
    refine (Of_calls _ _ l (hs.old hk2 (by simp)) (by omega)).mono ?_
    rintro e3 w3 ⟨v', rfl, hs3, hk3⟩
    go_wp2_with fail
    refine (New_calls _ _ l m hs3 hw).mono ?_
    rintro e4 w4 ⟨hk4, -, h4⟩
    obtain ⟨b, r, q, rfl, hM, hb, hr, hq⟩ := h4 HN0.out
    have hk4 := (hk2.trans hk3).trans hk4
    have hs34 := (hk2.trans hk3).size
    obtain ⟨lb, lr, lq⟩ := hM.lt
    have hFi := fine_new m l HN0.out
    generalize rulesOf (fun _ _ => none) l = F at *
    have HFI := Lib.hid hFi
    obtain ⟨W5, hW5, hk5, h9, hz5⟩ := new1 w4 (.map #[] 0)
    have HW5 := Lib.hid hW5
    have HF0 := Lib.hid (Map2At.ofEmpty (P := Try.prog) (k := 38) h9)
    have HM := Lib.hid (hM.keep hk5 (by simp) (by simp) (by simp))
    have HA := Lib.hid ha
    have HK5 := Lib.hid (hk4.trans hk5)
    have hmm := @run_makeMap Try.prog
    clear hk1 hk2 hk3 hk4 hs3 h4 hM hFi hW5 h9 hk5 hs ha
    go_wp2_with fail
    rw [← HW5.out]
    go_loopw [51] (fun i wr => ∃ (k : Nat) (C : Int → Int → Option Int) (M : Int → Int → Option (Int × Int)), k ≤ a.length ∧ i = .int .i64 k ∧ MonIn wr b r q m F C l.length k ∧ Map2At Try.prog 38 wr w4.heap.size k M ∧ Kp [q, w4.heap.size] W5 wr ∧ (∀ x y z, M x y = some z → ∀ p, max p (-1) = x → z = toldB m F p y)) (fun i _ => a.length - (intOf i).toNat)
    case atStart => exact ⟨0, _, _, Nat.zero_le _, rfl, HM.out, HF0.out, Kp.refl _ _, by simp⟩
    case round =>
      obtain ⟨k, C, M, hk, rfl, hMr, hFr, hkr, hMM⟩ := hrel
      by_cases hlt : k < a.length
      · have hkw := (HK5.out.nil_to (S := [q, w4.heap.size])).trans hkr
        obtain ⟨g, o, rfl, hcell⟩ := act_at (HA.out.old hkw (by simp; omega)) k hlt
        obtain ⟨cA, cB, cC⟩ := hcell k hlt
        obtain ⟨wA, wB, wC⟩ := hwa _ (List.getElem_mem hlt)
        clear hcell
        generalize a[k] = x at *
        obtain ⟨d, p, e⟩ := x
        simp only at cA cB cC wA wB wC
        obtain ⟨W1, hW1, hk1, h11, hz1⟩ := new1 wr (.cells #[.int .u8 d, .int .i64 p, .int .i64 e] 34)
        have HW1 := Lib.hid hW1
        have HFR := Lib.hid hFr
        have lF := hFr.lt
        have lM := hMr.lt
        have HMM := Lib.hid hMM
        have HKW := Lib.hid hkw
        have hMM1 := hMr.keep hk1 (by simp) (by simp) (by simp)
        clear hW1 hFr hMM hMr
        go_wp2_with fail
        rw [← HW1.out]
        refine (Decide_calls W1 b r q m F C l.length k hMM1 (by unfold maxLen; omega) p e wB wC).mono ?_
        rintro e1 w2 ⟨rfl, hM2, hk2⟩
        obtain ⟨-, c11, f11, l11⟩ := hk2.look h11 (by simp; omega)
        obtain ⟨W3, hW3, hk3, h12, hz3⟩ := new1 w2 (.cells #[.int .i64 (toldB m F p e).1, .int .i64 (toldB m F p e).2] 36)
        have HW3 := Lib.hid hW3
        have HK3 := Lib.hid ((hk1.nil_to.trans hk2).trans hk3.nil_to)
        have HM3 := Lib.hid (hM2.keep hk3 (by simp) (by simp) (by simp))
        have HF3 := Lib.hid (((HFR.out.keep hk1 (by simp)).keep hk2 (by simp; omega)).keep hk3 (by simp))
        clear hW3 hk3
        generalize ht : toldB m F p e = t at *
        have HT := Lib.hid ht
        clear ht
        cases hkn : knownB e
        · have HKN := Lib.hid hkn
          obtain rfl : t = (0, 0) := by rw [← HT.out]; exact told_unknown m F p e hkn
          clear hkn
          by_cases he1 : e < 1
          all_goals
            have he2 : e < 1 ∨ 27 < e := by
              have := HKN.out
              simp [knownB] at this
              omega
            try have he2 : 27 < e := by omega
            go_wp2_with fail
            go_roundw
            case rel =>
              have e3 := HW3.out
              subst e3
              refine ⟨k + 1, _, M, by omega, by go_num, HM3.out, ?_, hkr.trans (HK3.out.mono (by simp)), HMM.out⟩
              obtain ⟨D, h1, h2⟩ := HF3.out
              exact ⟨D, h1.mono (Nat.le_succ k), h2⟩
            case measure => simp [intOf]; omega
        · have HKN := Lib.hid hkn
          have hlv : (t.1 == 2) = m := by rw [← HT.out]; exact told_level m F p e hkn
          obtain ⟨r1, r2, r3⟩ : 0 ≤ t.2 ∧ t.2 ≤ 6 ∧ (m = true → t.2 ≤ 1) := by rw [← HT.out]; exact told_range m F p e hkn HFI.out
          have hno : p < 0 → (t.1 == 0) = false := by rw [← HT.out]; exact told_none m F p e hkn
          have he1 : 1 ≤ e ∧ e ≤ 27 := by simpa [knownB] using hkn
          obtain ⟨he1, he2⟩ := he1
          have hwf : (Lit.int .i64 (max p (-1))).wf = true := by simp [Lit.wf] at wB ⊢; omega
          clear hkn
          obtain ⟨x1, x2⟩ := t
          simp only at *
          have hmw : 0 ≤ x2 ∧ x2 ≤ 6 := ⟨r1, r2⟩
          obtain ⟨o', ho', hoc⟩ : ∃ o', max p (-1) = o' ∧ ((p < -1 ∧ o' = -1) ∨ (p = -1 ∧ o' = -1) ∨ (0 ≤ p ∧ o' = p)) := ⟨_, rfl, by omega⟩
          have HO := Lib.hid ho'
          rw [ho'] at hwf
          clear ho'
          obtain ⟨W4, hW4, hk4', h13, hz4⟩ := new1 (w2.alloc (.cells #[.int .i64 x1, .int .i64 x2] 36)) (.cells #[.int .i64 o', .int .i64 e] 38)
          have e3 := HW3.out
          subst e3
          have hlk := (HF3.out.keep hk4' (by simp)).lookOk firsts hwf wC
          have hMo : ∀ z, M o' e = some z → (x1, x2) = z := fun z hz => by rw [← HT.out]; exact (HMM.out _ _ _ hz p HO.out).symm
          obtain ⟨z1, z2, isz, hz, hzz⟩ : ∃ z1 z2 isz, (M o' e).getD (0, 0) = (z1, z2) ∧ (M o' e).isSome = isz ∧ (isz = true → z1 = x1 ∧ z2 = x2) := by
            cases hm : M o' e with
            | none => exact ⟨0, 0, false, rfl, rfl, by simp⟩
            | some z => have := hMo z hm; subst this; exact ⟨x1, x2, true, rfl, rfl, fun _ => ⟨rfl, rfl⟩⟩
          obtain ⟨hz2, hzz⟩ := hzz
          rw [hz, hz2] at hlk
          clear hz hz2 hMo
          have hK6 := hk4'
          obtain ⟨W6, hW6, hk6, h14, hz6⟩ := new1 W4 (.cells #[.int .i64 z1, .int .i64 z2] 36)
          obtain ⟨w7, hput, hF7, hk7⟩ := ((HF3.out.keep hk4' (by simp)).keep hk6 (by simp)).put (v := (x1, x2)) firsts (by unfold maxLen; omega) hwf wC
          have HF7 := Lib.hid hF7
          have HM7 := Lib.hid (((HM3.out.keep hk4' (by simp) (by simp) (by simp)).keep hk6 (by simp) (by simp) (by simp)).keep hk7 (by simp; omega) (by simp; omega) (by simp; omega))
          have HK7 : Hid (Kp [q, w4.heap.size] wr w7) := Lib.hid ((((HK3.out.mono (by simp)).trans hk4'.nil_to).trans hk6.nil_to).trans (hk7.mono (by simp)))
          subst hW6
          subst hW4
          clear hk4' h13 hk6 h14 hF7 hk7 hK6
          have HREL : Hid (∀ x y z, bump2 M o' e (x1, x2) x y = some z → ∀ p', max p' (-1) = x → z = toldB m F p' y) := Lib.hid fun x y z hz p' hp' => by
            unfold bump2 at hz
            split at hz
            · rename_i hc
              obtain ⟨rfl, rfl⟩ := hc
              simp at hz
              rw [← hz, ← HT.out]
              exact told_max m F p p' y (by rw [HO.out, hp'])
            · exact HMM.out x y z hz p' hp'
          cases m
          · have hlv2 : (x1 == 2) = false := hlv
            have hlv3 : Hid ((x1 == 2) = false) := Lib.hid hlv
            clear hlv r3
            rcases hoc with ⟨hp0, rfl⟩ | ⟨rfl, rfl⟩ | ⟨hp0, rfl⟩
            · have hx0 : (x1 == 0) = false := hno (by omega)
              clear hno
              cases isz
              · clear hzz
                go_wp2
                go_roundw
                case rel => exact ⟨k + 1, _, _, by omega, by go_num, HM7.out, HF7.out, hkr.trans HK7.out, HREL.out⟩
                case measure => simp [intOf]; omega
              · obtain ⟨rfl, rfl⟩ := hzz rfl
                go_wp2
                go_roundw
                case rel => exact ⟨k + 1, _, _, by omega, by go_num, HM7.out, HF7.out, hkr.trans HK7.out, HREL.out⟩
                case measure => simp [intOf]; omega
            · have hx0 : (x1 == 0) = false := hno (by omega)
              clear hno
              cases isz
              · clear hzz
                go_wp2
                go_roundw
                case rel => exact ⟨k + 1, _, _, by omega, by go_num, HM7.out, HF7.out, hkr.trans HK7.out, HREL.out⟩
                case measure => simp [intOf]; omega
              · obtain ⟨rfl, rfl⟩ := hzz rfl
                go_wp2
                go_roundw
                case rel => exact ⟨k + 1, _, _, by omega, by go_num, HM7.out, HF7.out, hkr.trans HK7.out, HREL.out⟩
                case measure => simp [intOf]; omega
            · clear hno
              cases isz
              · clear hzz
                go_wp2
                go_roundw
                case rel => exact ⟨k + 1, _, _, by omega, by go_num, HM7.out, HF7.out, hkr.trans HK7.out, HREL.out⟩
                case measure => simp [intOf]; omega
              · obtain ⟨rfl, rfl⟩ := hzz rfl
                go_wp2
                go_roundw
                case rel => exact ⟨k + 1, _, _, by omega, by go_num, HM7.out, HF7.out, hkr.trans HK7.out, HREL.out⟩
                case measure => simp [intOf]; omega
          · have hlv2 : (x1 == 2) = true := hlv
            have hx1 := r3 rfl
            clear hlv r3
            rcases hoc with ⟨hp0, rfl⟩ | ⟨rfl, rfl⟩ | ⟨hp0, rfl⟩
            · have hx0 : (x1 == 0) = false := hno (by omega)
              clear hno
              cases isz
              · clear hzz
                go_wp2
                go_roundw
                case rel => exact ⟨k + 1, _, _, by omega, by go_num, HM7.out, HF7.out, hkr.trans HK7.out, HREL.out⟩
                case measure => simp [intOf]; omega
              · obtain ⟨rfl, rfl⟩ := hzz rfl
                go_wp2
                go_roundw
                case rel => exact ⟨k + 1, _, _, by omega, by go_num, HM7.out, HF7.out, hkr.trans HK7.out, HREL.out⟩
                case measure => simp [intOf]; omega
            · have hx0 : (x1 == 0) = false := hno (by omega)
              clear hno
              cases isz
              · clear hzz
                go_wp2
                go_roundw
                case rel => exact ⟨k + 1, _, _, by omega, by go_num, HM7.out, HF7.out, hkr.trans HK7.out, HREL.out⟩
                case measure => simp [intOf]; omega
              · obtain ⟨rfl, rfl⟩ := hzz rfl
                go_wp2
                go_roundw
                case rel => exact ⟨k + 1, _, _, by omega, by go_num, HM7.out, HF7.out, hkr.trans HK7.out, HREL.out⟩
                case measure => simp [intOf]; omega
            · clear hno
              cases isz
              · clear hzz
                go_wp2
                go_roundw
                case rel => exact ⟨k + 1, _, _, by omega, by go_num, HM7.out, HF7.out, hkr.trans HK7.out, HREL.out⟩
                case measure => simp [intOf]; omega
              · obtain ⟨rfl, rfl⟩ := hzz rfl
                go_wp2
                go_roundw
                case rel => exact ⟨k + 1, _, _, by omega, by go_num, HM7.out, HF7.out, hkr.trans HK7.out, HREL.out⟩
                case measure => simp [intOf]; omega
      · obtain rfl : k = a.length := by omega
        go_wp2
        go_ret
        exact ⟨rfl, HK5.out.next hkr (by simp; omega)⟩
  · have hne : (newI m l != 0) = true := by simpa using hn0
    clear hn0
    go_wp2_with fail
    refine (speaks_calls _).mono ?_
    rintro e2 w2 ⟨rfl, hk3⟩
    go_wp2_with fail
    go_ret
    exact ⟨rfl, hk2.trans hk3⟩
end Go.Proofs.Ytlghbnoiakeibaa
