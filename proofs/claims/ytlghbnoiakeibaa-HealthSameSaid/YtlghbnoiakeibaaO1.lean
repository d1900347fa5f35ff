import Derived.Test.YtlghbnoiakeibaaP1
import Derived.Test.YtlghbnoiakeibaaR2
import Derived.Test.YtlghbnoiakeibaaQ3
import Derived.Test.YtlghbnoiakeibaaW2
import Derived.Test.YtlghbnoiakeibaaL
import Derived.Deep.RegionLawGrows
set_option linter.unusedVariables false
set_option linter.unusedSimpArgs false
namespace Go.Proofs.Ytlghbnoiakeibaa
open Go.RowKit
theorem info46 : (Try.prog.info? 46).map (fun i => (i.zero, i.size, i.bytes)) = some (some (.agg #[.int .i64 0, .int .i64 0, .int .i64 0]), 3, 24) := by kernel_rfl
theorem sameM_refl (m : Bool) (f c : Int → Int → Option Int) : sameM m m f f c c = true := by simp [sameM, sameFB_refl]
theorem agg_ne (x y : Int) (W : World) : True := trivial
set_option maxRecDepth 100000 in
set_option maxHeartbeats 8000000 in
theorem order_calls (w : World) (v v3 : Value) (l : List Rule) (m : Bool) (t : Int) (a : List Act3) (hs : Sees w 3 v l.length (cells3 l)) (hw : ∀ r ∈ l, r.wf) (ht : 0 ≤ t ∧ t ≤ 255) (ha : Sees w 3 v3 a.length (recs3 .u8 .i64 .i64 a)) (hwa : ∀ x ∈ a, Act3.wf x) :
    Calls Try.prog 6 #[v, .bool m, .int .u8 t, v3] w (True1 w) := by
  obtain ⟨A, c, rfl⟩ := hs.shape
  obtain ⟨A2, c2, rfl⟩ := ha.shape
  obtain ⟨ht0, ht1⟩ := ht
  have hn := hs.2.1
  have hn2 := ha.2.1
  unfold maxLen at hn hn2
  have LEAVE : ∀ (w1 : World), Kp [] w w1 → Calls Try.prog 8 #[] w1 fun e w' => e = .returned (.bool true) ∧ Kp [] w w' := fun w1 h1 => (speaks_calls w1).mono fun e w' ⟨a1, a2⟩ => ⟨a1, h1.trans a2⟩
  have LV := Lib.hid LEAVE
  clear LEAVE
  by_cases h70 : 70 < l.length
  · go_enter Try.func6, Try.ntmps6
    go_wp2_with fail
    refine (LV.out _ (Kp.refl _ _)).mono ?_
    rintro e1 w1 ⟨rfl, hk1⟩
    go_wp2_with fail
    refine (LV.out _ hk1).mono ?_
    rintro e2 w2 ⟨rfl, hk2⟩
    go_wp2_with fail
    go_ret
    exact ⟨rfl, hk2⟩
  by_cases h60 : 60 < a.length
  · go_enter Try.func6, Try.ntmps6
    go_wp2_with fail
    refine (LV.out _ (Kp.refl _ _)).mono ?_
    rintro e1 w1 ⟨rfl, hk1⟩
    go_wp2_with fail
    refine (LV.out _ hk1).mono ?_
    rintro e2 w2 ⟨rfl, hk2⟩
    go_wp2_with fail
    go_ret
    exact ⟨rfl, hk2⟩
  go_enter Try.func6, Try.ntmps6
  go_wp2_with fail
  refine (LV.out _ (Kp.refl _ _)).mono ?_
  rintro e1 w1 ⟨rfl, hk1⟩
  go_wp2_with fail
  refine (refNew_calls _ _ l m (hs.old hk1 (by simp))).mono ?_
  rintro e2 w2 ⟨rfl, hk2⟩
  have hk2 := hk1.trans hk2
  by_cases hn0 : ¬ newI m l = 0
  · have hne : (newI m l != 0) = true := by simpa using hn0
    clear hn0
    go_wp2_with fail
    refine (LV.out _ hk2).mono ?_
    rintro e2 w2 ⟨rfl, hk3⟩
    go_wp2_with fail
    go_ret
    exact ⟨rfl, hk3⟩
  have hn0 : newI m l = 0 := Decidable.of_not_not hn0
  have HN0 := Lib.hid hn0
  rw [hn0]
  clear hn0
  by_cases hz : l.length = 0
  · have HZ := Lib.hid hz
    have hz1 : ((l.length : Int) == 0) = true := by simp [hz]
    clear hz
    go_wp2_with fail
    refine (LV.out _ hk2).mono ?_
    rintro e2 w2 ⟨rfl, hk3⟩
    go_wp2_with fail
    go_ret
    exact ⟨rfl, hk3⟩
  have hz1 : ((l.length : Int) == 0) = false := by simpa using hz
  have hz2 : 0 < l.length := by omega
  have hz3 : ¬ ((l.length : Int) = 0) := by omega
  obtain ⟨k, hk, hkl⟩ : ∃ k : Nat, t % (l.length : Int) = (k : Int) ∧ k < l.length := ⟨(t % (l.length : Int)).toNat, by have := Int.emod_nonneg t hz3; omega, by have := Int.emod_lt_of_pos t (show (0 : Int) < l.length by omega); have := Int.emod_nonneg t hz3; omega⟩
  clear hz
  go_wp2_with fail
  obtain ⟨g, o, rfl, -⟩ := rule_at hs 0 hz2
  have HKL := Lib.hid (sees_drop (hs.old hk2 (by simp)) k (by omega))
  have HKT := Lib.hid (sees_take (hs.old hk2 (by simp)) k (by omega))
  have hcl : l.length ≤ c ∧ c ≤ 9223372036854775807 := by
    rcases hs.2.2 with ⟨h0, _⟩ | ⟨ad, c', he, h1, h2, h3, h4⟩
    · simp at h0
    · simp only [Value.slice.injEq, true_and] at he
      obtain ⟨-, rfl⟩ := he
      unfold maxLen at h2
      exact ⟨h1, by omega⟩
  obtain ⟨hcl1, hcl2⟩ := hcl
  have hkc : k < c := by omega
  have HS := Lib.hid hs
  have HA := Lib.hid ha
  have HK2 := Lib.hid hk2
  clear hs ha hk1 hk2
  have hct1 := cut_from Try.underlying22 Try.sizeOf46 g o l.length c k (by omega) hkc
  have hct2 := cut_to Try.underlying22 Try.sizeOf46 (some ⟨g, o, none⟩) l.length c k (by omega) (.inr ⟨g, o, rfl⟩)
  go_wp2_with fail
  go_region_held3 (fun V => Kp [] w2 V) (first | exact hkA | exact hkB | (repeat (with_reducible first | assumption | apply Kp.refl | apply Kp.drew | apply Kp.alloc))) (first
    | (refine step_app (v := .slice (some ⟨w2.heap.size, 0, none⟩) 0 0) (n := 0) (xs := []) (xv := .slice (some ⟨g, o + k * 3, none⟩) (l.length - k) (c - k)) (m := l.length - k) (news := cells3 (l.drop k)) (by rfl) (by rfl) Try.underlying22 info46 (by rfl) (by decide) (by rfl) (by rfl) ?_ ?_ (cells3_one _) ?_ ?_ ?_; (exact Row.made' #[] 0 (by simp) rfl (by decide)); (exact HKL.out.keep (S := []) (by repeat (with_reducible first | assumption | apply Kp.refl | apply Kp.drew | apply Kp.alloc)) (by simp)); omega; (unfold maxLen; omega); rintro v1 w3 hr1 hk3 hf1; have hkA : Kp [] w2 w3 := ((Kp.refl [] w2).drew.alloc _).next hk3 (by simp [Value.ownBlock]))
    | (refine step_app (v := v1) (n := 0 + (l.length - k)) (xs := [] ++ cells3 (l.drop k)) (xv := .slice (some ⟨g, o, none⟩) k c) (m := k) (news := cells3 (l.take k)) (by rfl) (by rfl) Try.underlying22 info46 (by rfl) (by decide) (by rfl) (by rfl) hr1 ?_ (cells3_one _) ?_ ?_ ?_; (exact HKT.out.keep (S := []) (by repeat (with_reducible first | assumption | apply Kp.refl | apply Kp.drew | apply Kp.alloc)) (by simp)); omega; (unfold maxLen; omega); rintro v2 w4 hr2 hk4 hf2; have hkB : Kp [] w2 w4 := hkA.next hk4 (fun i hi => .inr (by rcases hf1 i (by simpa using hi) with h | h; (simp [Value.ownBlock] at h; omega); (simp at h; omega)))))
  obtain ⟨l', hl', hlen'⟩ : ∃ l', l' = l.drop k ++ l.take k ∧ l'.length = l.length := ⟨_, rfl, by simp; omega⟩
  have hperm : l.Perm l' := by
    have h1 : (l.take k ++ l.drop k).Perm (l.drop k ++ l.take k) := List.perm_append_comm
    rw [List.take_append_drop] at h1
    rw [hl']; exact h1
  have hs' : Sees w4 3 v2 l'.length (cells3 l') := (hr2.ext (by omega) (by rw [hl', cells3_app]; simp)).sees
  have hw' : ∀ r ∈ l', r.wf := fun r hr => hw r (hperm.mem_iff.2 hr)
  have HN0' : Hid (newI m l' = 0) := Lib.hid (newI_perm m hperm HN0.out)
  have hFF := rulesOf_perm m hperm HN0.out
  have HK4 := Lib.hid (HK2.out.trans hkB)
  have HS' := Lib.hid hs'
  have HLEN := Lib.hid hlen'
  clear hr1 hr2 hk3 hk4 hf1 hf2 hkA hl' hperm hs' hct1 hct2 hlen'
  rename_i hHeld
  clear hHeld
  go_wp2_with fail
  refine (Of_calls _ _ l (HS.out.old HK4.out (by simp)) (by omega)).mono ?_
  rintro e5 w5 ⟨v5, rfl, hs5, hk5⟩
  go_wp2_with fail
  refine (New_calls _ _ l m hs5 hw).mono ?_
  rintro e6 w6 ⟨hk6, -, h6⟩
  obtain ⟨b, r, q, rfl, hM, hb, hr, hq⟩ := h6 HN0.out
  have hk46 := hk5.trans hk6
  have hz5 := hk5.size
  have HS6 := Lib.hid (HS'.out.keep hk46 (by simp))
  have HK6 := Lib.hid (HK4.out.trans hk46)
  obtain ⟨lb, lr, lq⟩ := hM.lt
  have HM := Lib.hid hM
  clear h6 hs5 hk5 hk6 hM hk46
  go_wp2_with fail
  refine (Of_calls _ _ l' HS6.out (by rw [HLEN.out]; omega)).mono ?_
  rintro e7 w7 ⟨v7, rfl, hs7, hk7⟩
  go_wp2_with fail
  refine (New_calls _ _ l' m hs7 hw').mono ?_
  rintro e8 w8 ⟨hk8, -, h8⟩
  obtain ⟨b', r', q', rfl, hM', hb', hr', hq'⟩ := h8 HN0'.out
  have hk68 := hk7.trans hk8
  have hz7 := hk7.size
  have HM := Lib.hid (HM.out.keep hk68 (by simp) (by simp) (by simp))
  have HM' := Lib.hid hM'
  have HK8 := Lib.hid (HK6.out.trans hk68)
  have hz4 := HK4.out.size
  obtain ⟨lb', lr', lq'⟩ := hM'.lt
  rw [← hFF] at HM'
  generalize rulesOf (fun _ _ => none) l = F at *
  clear h8 hs7 hk7 hk8 hM' hk68 hFF
  go_wp2_with fail
  go_loopw [85] (fun i wr => ∃ (j : Nat) (C : Int → Int → Option Int), j ≤ a.length ∧ i = .int .i64 j ∧ MonIn wr b r q m F C l.length j ∧ MonIn wr b' r' q' m F C l'.length j ∧ Kp [q, q'] w8 wr) (fun i _ => a.length - (intOf i).toNat)
  case atStart => exact ⟨0, _, Nat.zero_le _, rfl, HM.out, HM'.out, Kp.refl _ _⟩
  case round =>
    obtain ⟨j, C, hj, rfl, hM1, hM2, hkr⟩ := hrel
    by_cases hlt : j < a.length
    · have hkw := (HK8.out.nil_to (S := [q, q'])).trans hkr
      obtain ⟨g3, o3, rfl, hcell⟩ := act_at (HA.out.old hkw (by simp; omega)) j hlt
      obtain ⟨cA, cB, cC⟩ := hcell j hlt
      obtain ⟨wA, wB, wC⟩ := hwa _ (List.getElem_mem hlt)
      clear hcell
      generalize a[j] = x at *
      obtain ⟨d, p, e⟩ := x
      simp only at cA cB cC wA wB wC
      obtain ⟨W1, hW1, hk1, h11, hz1⟩ := new1 wr (.cells #[.int .u8 d, .int .i64 p, .int .i64 e] 34)
      have HW1 := Lib.hid hW1
      have lM1 := hM1.lt
      have lM2 := hM2.lt
      have HM1 := Lib.hid (hM1.keep hk1 (by simp) (by simp) (by simp))
      have HM2 := Lib.hid (hM2.keep hk1 (by simp) (by simp) (by simp))
      have HS1 : Hid (∀ V, Kp [q, q'] W1 V → Kp [q, q'] W1 V ∧ ∀ i, V.cell? ⟨wr.heap.size, i, none⟩ = #[.int .u8 d, .int .i64 p, .int .i64 e][i]?) := Lib.hid fun V hV => ⟨hV, blk_cell (hV.heap h11 (by simp; omega))⟩
      have HC1 : Hid (∀ V, Kp [] W1 V → Calls Try.prog 12 #[.pointer (some ⟨b, 0, none⟩), .int .i64 p, .int .i64 e] V (Decided V b r q m F C l.length j p e)) :=
        Lib.hid fun V hV => Decide_calls V b r q m F C _ j (HM1.out.keep hV (by simp) (by simp) (by simp)) (by unfold maxLen; omega) p e wB wC
      have HC2 : Hid (∀ V, Kp [q] W1 V → Calls Try.prog 12 #[.pointer (some ⟨b', 0, none⟩), .int .i64 p, .int .i64 e] V (Decided V b' r' q' m F C l'.length j p e)) :=
        Lib.hid fun V hV => Decide_calls V b' r' q' m F C _ j (HM2.out.keep hV (by simp; omega) (by simp; omega) (by simp; omega)) (by unfold maxLen; omega) p e wB wC
      clear hW1 hM1 hM2
      go_wp2_with fail
      rw [← HW1.out]
      generalize ht : toldB m F p e = t' at *
      go_region_held3 (fun V => Kp [q, q'] W1 V ∧ ∀ i, V.cell? ⟨wr.heap.size, i, none⟩ = #[.int .u8 d, .int .i64 p, .int .i64 e][i]?) ((refine HS1.out _ ?_; first | exact hkA.mono (by simp) | exact hkB | (repeat (with_reducible first | assumption | apply Kp.refl | apply Kp.drew)))) (first | (go_at_call 12; (with_reducible refine (HC1.out _ ?_).mono ?_); (repeat (with_reducible first | assumption | apply Kp.refl | apply Kp.drew)); rintro x VA ⟨rfl, hmA, hkA1⟩; have hkA : Kp [q] W1 VA := (Kp.refl [q] W1).drew.trans hkA1; rw [ht]) | (go_at_call 12; (with_reducible refine (HC2.out _ ?_).mono ?_); exact hkA; rintro x VB ⟨rfl, hmB, hkB1⟩; have hkB : Kp [q, q'] W1 VB := (hkA.mono (by simp)).trans (hkB1.mono (by simp)); rw [ht]))
      have HA1 := Lib.hid (hmA.keep hkB1 (by simp; omega) (by simp; omega) (by simp; omega))
      have HB1 := Lib.hid hmB
      have HR := Lib.hid ((hkr.trans hk1.nil_to).trans hkB)
      clear hmA hmB hkA1 hkB1 hkA hkB ht
      go_wp2
      go_roundw
      case rel => exact ⟨j + 1, _, by omega, by go_num, HA1.out, HB1.out, HR.out⟩
      case measure => simp [intOf]; omega
    · obtain rfl : j = a.length := by omega
      go_wp2_with fail
      refine (Same_calls _ b r q b' r' q' m m F C F C _ _ _ _ hM1 hM2).mono ?_
      rintro e9 w9 ⟨rfl, hk9⟩
      rw [sameM_refl]
      go_wp2_with fail
      refine (Same_calls _ b' r' q' b r q m m F C F C _ _ _ _ (hM2.keep hk9 (by simp) (by simp) (by simp)) (hM1.keep hk9 (by simp) (by simp) (by simp))).mono ?_
      rintro e10 w10 ⟨rfl, hk10⟩
      rw [sameM_refl]
      go_wp2
      go_ret
      exact ⟨rfl, HK8.out.next ((hkr.trans hk9.nil_to).trans hk10.nil_to) (by simp; omega)⟩
end Go.Proofs.Ytlghbnoiakeibaa
