import Derived.Test.YtlghbnoiakeibaaG4
set_option linter.unusedVariables false
set_option linter.unusedSimpArgs false
namespace Go.Proofs.Ytlghbnoiakeibaa
open Go.RowKit
set_option maxRecDepth 100000 in
set_option maxHeartbeats 8000000 in
theorem same_calls (w : World) (v v2 v3 : Value) (l : List Rule) (m : Bool) (a a' : List Act3) (hs : Sees w 3 v l.length (cells3 l)) (hw : ∀ r ∈ l, r.wf) (ha : Sees w 3 v2 a.length (recs3 .u8 .i64 .i64 a)) (hwa : ∀ x ∈ a, Act3.wf x) (ha' : Sees w 3 v3 a'.length (recs3 .u8 .i64 .i64 a')) (hwa' : ∀ x ∈ a', Act3.wf x) :
    Calls Try.prog 5 #[v, .bool m, v2, v3] w (True1 w) := by
  obtain ⟨A, c, rfl⟩ := hs.shape
  obtain ⟨A2, c2, rfl⟩ := ha.shape
  obtain ⟨A3, c3, rfl⟩ := ha'.shape
  have hn := hs.2.1
  have hn2 := ha.2.1
  have hn3 := ha'.2.1
  unfold maxLen at hn hn2 hn3
  obtain ⟨W0, hW0, hk0, hbm, hz0⟩ := new1 w (.cells #[.bool m] 4)
  have HW0 := Lib.hid hW0
  have HK0 := Lib.hid hk0
  have LEAVE : ∀ (w1 : World), Kp [] w w1 → Calls Try.prog 8 #[] w1 fun e w' => e = .returned (.bool true) ∧ Kp [] w w' := fun w1 h1 => (speaks_calls w1).mono fun e w' ⟨a1, a2⟩ => ⟨a1, h1.trans a2⟩
  have LV := Lib.hid LEAVE
  have HS := Lib.hid hs
  have HA := Lib.hid ha
  have HA' := Lib.hid ha'
  clear LEAVE hW0 hk0 hs ha ha'
  by_cases hbad : 70 < l.length ∨ 40 < a.length ∨ 40 < a'.length
  · by_cases h1 : 70 < l.length
    all_goals try (by_cases h2 : 40 < a.length)
    all_goals try (have h3 : 40 < a'.length := by omega)
    all_goals
      clear hbad
      go_enter Try.func5, Try.ntmps5
      go_wp2_with fail
      rw [← HW0.out]
      refine (LV.out _ HK0.out).mono ?_
      rintro e1 w1 ⟨rfl, hk1⟩
      go_wp2_with fail
      refine (LV.out _ hk1).mono ?_
      rintro e2 w2 ⟨rfl, hk2⟩
      go_wp2_with fail
      go_ret
      exact ⟨rfl, hk2⟩
  have h70 : ¬ 70 < l.length := by omega
  have h40 : ¬ 40 < a.length := by omega
  have h40' : ¬ 40 < a'.length := by omega
  clear hbad
  go_enter Try.func5, Try.ntmps5
  go_wp2_with fail
  rw [← HW0.out]
  refine (speaks_calls W0).mono ?_
  rintro e1 w1 ⟨rfl, hk1⟩
  have hbm1 := hk1.heap hbm (by simp)
  obtain ⟨-, cb1, fb1, lb1⟩ := (Kp.refl [] w1).look hbm1 (by simp)
  have HK1 := Lib.hid (HK0.out.trans hk1)
  go_wp2_with fail
  refine (refNew_calls _ _ l m (HS.out.old HK1.out (by simp))).mono ?_
  rintro e2 w2 ⟨rfl, hk2⟩
  have HK2 := Lib.hid (HK1.out.trans hk2)
  have hbm2 := hk2.heap hbm1 (by simp)
  by_cases hn0 : ¬ newI m l = 0
  · have hne : (newI m l != 0) = true := by simpa using hn0
    clear hn0
    go_wp2_with fail
    refine (LV.out _ HK2.out).mono ?_
    rintro e2 w2 ⟨rfl, hk3⟩
    go_wp2_with fail
    go_ret
    exact ⟨rfl, hk3⟩
  have hn0 : newI m l = 0 := Decidable.of_not_not hn0
  have HN0 := Lib.hid hn0
  rw [hn0]
  obtain ⟨i46, hi46, hz1, hz2, hz3⟩ := info_parts info46
  have hmk : ∀ V : World, (Instr.makeSlice 22 (.int .i64 (l.length : Int)) (.int .i64 (l.length : Int))).run Try.prog V = .ok (.slice (some ⟨V.heap.size, 0, none⟩) l.length l.length) (V.alloc (.cells (madeCells #[.int .i64 0, .int .i64 0, .int .i64 0] (l.length * 3)) 46)) := fun V => by
    have := run_make V 22 46 i46 _ Try.underlying22 hi46 hz1 .i64 .i64 (l.length : Int) (l.length : Int) (by omega) (by omega) (by rw [hz3]; omega) (by omega)
    rw [this, hz2]; simp [Value.cells]
  have hrow0 := Row.made' (w := w2) (e := 46) (size := 3) (madeCells #[.int .i64 0, .int .i64 0, .int .i64 0] (l.length * 3)) l.length rfl (by rw [size_madeCells]) (by unfold maxLen; omega)
  rw [madeCells_zero] at hrow0
  obtain ⟨W3, hW3, hk3, -, hz3'⟩ := new1 w2 (.cells (madeCells #[.int .i64 0, .int .i64 0, .int .i64 0] (l.length * 3)) 46)
  rw [← hW3] at hrow0
  have HW3 := Lib.hid hW3
  have HROW := Lib.hid hrow0
  have HK3 := Lib.hid (HK2.out.trans hk3)
  have hbm3 := hk3.heap hbm2 (by simp)
  have lw2 := HK2.out.size
  clear hn0 hi46 hz1 hz2 hz3 hrow0 hW3 hk3
  go_wp2_with fail
  rw [← HW3.out]
  go_loopw [48] (fun i wr => ∃ k : Nat, k ≤ l.length ∧ i = .int .i64 k ∧ Row wr 46 3 (.slice (some ⟨w2.heap.size, 0, none⟩) l.length l.length) l.length (cells3 (turnL l k)) ∧ Kp [w2.heap.size] W3 wr) (fun i _ => l.length - (intOf i).toNat)
  case atStart => exact ⟨0, Nat.zero_le _, rfl, by simpa [turnL] using HROW.out, Kp.refl _ _⟩
  case round =>
    obtain ⟨k, hk, rfl, hrow, hkr⟩ := hrel
    by_cases hlt : k < l.length
    · have hkw : Kp [w2.heap.size] w wr := HK3.out.nil_to.trans hkr
      obtain ⟨g, o, rfl, hcell⟩ := rule_at (HS.out.old hkw (by simp; omega)) k hlt
      obtain ⟨cA, cB, cC⟩ := hcell k hlt
      have HTN := Lib.hid (turnL_next l k hlt)
      have HCS := Lib.hid (cells3_set3 (turnL l k) (l.length - 1 - k) (by rw [turnL_len l k hk]; omega) l[k])
      have hfr := hrow.free
      have h01 := hrow.set ((l.length - 1 - k) * 3) (by omega)
      obtain ⟨N, hN, hN2⟩ : ∃ N : Nat, N = l.length - 1 - k ∧ N < l.length := ⟨_, rfl, by omega⟩
      have hNi : (l.length : Int) - 1 - (k : Int) = (N : Int) := by omega
      have HROWk := Lib.hid hrow
      have hgw : g < wr.heap.size := World.block_lt_of_cell? wr _ cA
      have hw2r : w2.heap.size < wr.heap.size := hrow.lt_heap
      obtain ⟨q1, q2, q3⟩ := cells3_at (turnL l k) N (by rw [turnL_len l k hk]; omega)
      have e1 := hrow.cells _ _ q1
      have e2 := hrow.cells _ _ q2
      have e3 := hrow.cells _ _ q3
      have HSET : Hid (Row (((wr.setCell ⟨w2.heap.size, N * 3, none⟩ (.int .i64 l[k].1)).setCell ⟨w2.heap.size, N * 3 + 1, none⟩ (.int .i64 l[k].2.1)).setCell ⟨w2.heap.size, N * 3 + 2, none⟩ (.int .i64 l[k].2.2)) 46 3 (.slice (some ⟨w2.heap.size, 0, none⟩) l.length l.length) l.length (cells3 (turnL l (k + 1)))) := Lib.hid (by
        have h1 := ((hrow.set (N * 3) (by omega) (.int .i64 l[k].1)).set (N * 3 + 1) (by omega) (.int .i64 l[k].2.1)).set (N * 3 + 2) (by omega) (.int .i64 l[k].2.2)
        simp only [Nat.zero_add] at h1
        refine h1.ext rfl ?_
        have h2 := HCS.out
        rw [← hN] at h2
        rw [h2, HTN.out, hN])
      simp only [Nat.zero_add] at e1 e2 e3
      have hkk : Hid (Kp [w2.heap.size] W3 (((wr.setCell ⟨w2.heap.size, N * 3, none⟩ (.int .i64 l[k].1)).setCell ⟨w2.heap.size, N * 3 + 1, none⟩ (.int .i64 l[k].2.1)).setCell ⟨w2.heap.size, N * 3 + 2, none⟩ (.int .i64 l[k].2.2))) := Lib.hid (((hkr.setCell (.inl (by simp)) _).setCell (.inl (by simp)) _).setCell (.inl (by simp)) _)
      clear hcell h01 HTN HCS q1 q2 q3 hN
      generalize l[k] = x at *
      obtain ⟨x1, x2, x3⟩ := x
      simp only at cA cB cC HSET hkk
      have hN0 : (0 : Int) ≤ (N : Int) := by omega
      go_wp2_with fail
      go_roundw
      case rel => exact ⟨k + 1, by omega, by go_num, HSET.out.alloc _, hkk.out.alloc _⟩
      case measure => simp [intOf]; omega
    · obtain rfl : k = l.length := by omega
      rw [turnL_all] at hrow
      obtain ⟨l', hl'⟩ : ∃ l', l' = l.reverse := ⟨_, rfl⟩
      have hperm : l.Perm l' := by rw [hl']; exact (List.reverse_perm l).symm
      have hlen : l.length = l'.length := hperm.length_eq
      rw [← hl'] at hrow
      have HN0' : Hid (newI m l' = 0) := Lib.hid (newI_perm m hperm HN0.out)
      have HFF := Lib.hid (rulesOf_perm m hperm HN0.out)
      have HRL := Lib.hid (sameRl_perm m l l' HN0.out hperm)
      have hw' : ∀ r ∈ l', r.wf := fun r hr => hw r (hperm.mem_iff.2 hr)
      have hkw : Kp [w2.heap.size] w wr := HK3.out.nil_to.trans hkr
      have hbmr := hkr.heap hbm3 (by have := blk_lt hbm2; simp; omega)
      have HT : Hid (Sees wr 3 (.slice (some ⟨w2.heap.size, 0, none⟩) l'.length l.length) l'.length (cells3 l')) := Lib.hid (by rw [← hlen]; exact hrow.sees)
      have HKW := Lib.hid (hkw.mono (S' := []) (by simp; omega))
      have HM1 := Lib.hid (made_calls wr (.slice A l.length c) (.slice A2 a.length c2) w.heap.size l m a A c rfl (HS.out.old HKW.out (by simp)) hw (HA.out.old HKW.out (by simp)) hwa hbmr HN0.out (by omega) (by omega))
      have HLEN := Lib.hid hlen
      clear hl' hperm hrow hkw hkr hlen
      go_wp2_with fail
      refine HM1.out.mono ?_
      rintro e5 w5 ⟨b, r, q, C, ms, AL, cL, rfl, hM, hrow, hrep, hidm, hk5, hb, hr, hq⟩
      obtain ⟨W6, hW6, hk6, h14, hz6⟩ := new1 w5 (.cells #[.slice A l.length c, .bool m, .slice AL ms.length cL] 49)
      have HW6 := Lib.hid hW6
      have HKW6 := Lib.hid (HKW.out.trans (hk5.trans hk6))
      have HT6 := Lib.hid (HT.out.keep (hk5.trans hk6) (by simp))
      have hbm6 := (hk5.trans hk6).heap hbmr (by simp)
      have HM6 := Lib.hid (hM.keep hk6 (by simp) (by simp) (by simp))
      have HROW6 := Lib.hid (hrow.keep hk6 (by simp))
      have HREP := Lib.hid hrep
      have HIDM := Lib.hid hidm
      obtain ⟨lb1', lr1', lq1'⟩ := hM.lt
      have HM2 := Lib.hid (made_calls W6 (.slice (some ⟨w2.heap.size, 0, none⟩) l.length l.length) (.slice A3 a'.length c3) w.heap.size l' m a' (some ⟨w2.heap.size, 0, none⟩) l.length (by rw [HLEN.out]) (by rw [HLEN.out]; have := HT6.out; rw [HLEN.out] at this; exact this) hw' (HA'.out.old HKW6.out (by simp)) hwa' hbm6 HN0'.out (by have := HLEN.out; omega) (by omega))
      clear hM hrow hrep hidm hk5 hk6 hW6
      go_wp2_with fail
      rw [← HW6.out]
      refine HM2.out.mono ?_
      rintro e7 w7 ⟨b', r', q', C', ms', AL', cL', rfl, hM', hrow', hrep', hidm', hk7, hb', hr', hq'⟩
      obtain ⟨W8, hW8, hk8, h16, hz8⟩ := new1 w7 (.cells #[.slice (some ⟨w2.heap.size, 0, none⟩) l'.length l.length, .bool m, .slice AL' ms'.length cL'] 49)
      have HW8 := Lib.hid hW8
      have hk78 := hk7.trans hk8
      have HKW8 := Lib.hid (HKW6.out.trans hk78)
      have hbm8 := hk78.heap hbm6 (by simp)
      have HM8 := Lib.hid (HM6.out.keep hk78 (by simp) (by simp) (by simp))
      have HM8' := Lib.hid (hM'.keep hk8 (by simp) (by simp) (by simp))
      have HR8 := Lib.hid (HROW6.out.keep hk78 (by simp))
      have HR8' := Lib.hid (hrow'.keep hk8 (by simp))
      have HT8 := Lib.hid (HT6.out.keep hk78 (by simp))
      have h148 := hk78.heap h14 (by simp)
      obtain ⟨-, cb7, fb7, lb7⟩ := hk7.look hbm6 (by simp)
      have HREP' := Lib.hid hrep'
      rw [← HFF.out] at HM8'
      generalize rulesOf (fun _ _ => none) l = F at *
      clear hM' hrow' hrep' hidm' hk7 hk8 hW8 hk78
      go_wp2_with fail
      rw [← HW8.out]
      refine (New_calls _ _ [] (!m) ⟨rfl, by simp, .inl ⟨rfl, rfl⟩⟩ (by simp)).mono ?_
      rintro e9 w9 ⟨hk9, -, hyes⟩
      obtain ⟨bz, rz, qz, rfl, hMz, hbz, hrz, hqz⟩ := hyes rfl
      have HKW9 := Lib.hid (HKW8.out.trans hk9)
      have HM9 := Lib.hid (HM8.out.keep hk9 (by simp) (by simp) (by simp))
      have HM9' := Lib.hid (HM8'.out.keep hk9 (by simp) (by simp) (by simp))
      have HMz := Lib.hid hMz
      have h149 := hk9.heap h148 (by simp)
      have h169 := hk9.heap h16 (by simp)
      obtain ⟨I, hI, G, hG, hGG⟩ := fam [] w9
      have d14 := fun n => blk_cell ((hG n).heap h149 (by simp))
      have d16 := fun n => blk_cell ((hG n).heap h169 (by simp))
      obtain ⟨sv, hsv⟩ : ∃ sv, sv = sameFB C C' := ⟨_, rfl⟩
      have hcc : sameFB C C = true := sameFB_refl C
      have hff : sameFB F F = true := sameFB_refl F
      have H1 : Hid (∀ n, Calls Try.prog 15 #[.pointer (some ⟨b, 0, none⟩), .pointer (some ⟨b', 0, none⟩)] (G n) fun x w' => x = .returned (.bool sv) ∧ ∃ n', w' = G n') :=
        Lib.hid fun n => (Same_calls (G n) _ _ _ _ _ _ _ _ _ _ _ _ _ _ _ _ (HM9.out.keep (hG n) (by simp) (by simp) (by simp)) (HM9'.out.keep (hG n) (by simp) (by simp) (by simp))).mono fun x w' ⟨a1, a2⟩ => ⟨by rw [a1, sameM, hff, ← hsv]; simp, hGG _ ((hG n).trans a2)⟩
      have H2 : Hid (∀ n, Calls Try.prog 15 #[.pointer (some ⟨b', 0, none⟩), .pointer (some ⟨b, 0, none⟩)] (G n) fun x w' => x = .returned (.bool sv) ∧ ∃ n', w' = G n') :=
        Lib.hid fun n => (Same_calls (G n) _ _ _ _ _ _ _ _ _ _ _ _ _ _ _ _ (HM9'.out.keep (hG n) (by simp) (by simp) (by simp)) (HM9.out.keep (hG n) (by simp) (by simp) (by simp))).mono fun x w' ⟨a1, a2⟩ => ⟨by rw [a1, sameM, hff, sameFB_symm, ← hsv]; simp, hGG _ ((hG n).trans a2)⟩
      have H3 : Hid (∀ n, Calls Try.prog 15 #[.pointer (some ⟨b, 0, none⟩), .pointer (some ⟨b, 0, none⟩)] (G n) fun x w' => x = .returned (.bool true) ∧ ∃ n', w' = G n') :=
        Lib.hid fun n => (Same_calls (G n) _ _ _ _ _ _ _ _ _ _ _ _ _ _ _ _ (HM9.out.keep (hG n) (by simp) (by simp) (by simp)) (HM9.out.keep (hG n) (by simp) (by simp) (by simp))).mono fun x w' ⟨a1, a2⟩ => ⟨by rw [a1, sameM, hff, hcc]; simp, hGG _ ((hG n).trans a2)⟩
      have H4 : Hid (∀ n, Calls Try.prog 15 #[.pointer (some ⟨b, 0, none⟩), .pointer (some ⟨bz, 0, none⟩)] (G n) fun x w' => x = .returned (.bool false) ∧ ∃ n', w' = G n') :=
        Lib.hid fun n => (Same_calls (G n) _ _ _ _ _ _ _ _ _ _ _ _ _ _ _ _ (HM9.out.keep (hG n) (by simp) (by simp) (by simp)) (HMz.out.keep (hG n) (by simp) (by simp) (by simp))).mono fun x w' ⟨a1, a2⟩ => ⟨by rw [a1, sameM]; cases m <;> simp, hGG _ ((hG n).trans a2)⟩
      have H5 : Hid (∀ n, Calls Try.prog 16 #[.agg #[.slice A l.length c, .bool m, .slice AL ms.length cL], .agg #[.slice (some ⟨w2.heap.size, 0, none⟩) l'.length l.length, .bool m, .slice AL' ms'.length cL']] (G n) fun x w' => x = .returned (.bool sv) ∧ ∃ n', w' = G n') :=
        Lib.hid fun n => (rsame_calls (G n) _ _ _ _ l l' ms ms' m m (HS.out.old (HKW9.out.trans (hG n)) (by simp)) ((HR8.out.keep (hk9.trans (hG n)) (by simp)).sees) (HT8.out.keep (hk9.trans (hG n)) (by simp)) ((HR8'.out.keep (hk9.trans (hG n)) (by simp)).sees)).mono fun x w' ⟨a1, a2⟩ => ⟨by rw [a1, sameR, HRL.out, sameL_eq HREP.out HREP'.out m HIDM.out, ← hsv]; simp, hGG _ ((hG n).trans a2)⟩
      have h0 := Lib.hid (hGG w9.drew (Kp.refl _ _).drew)
      have HG := Lib.hid hG
      clear hG hGG hk9 hMz hyes hsv hcc hff
      cases sv
      all_goals
        go_wp2_with fail
        refine wp_region_fam G h0.out (by kernel_rfl) (by kernel_rfl) ?_
        repeat (go_big_quiet_step (first | with_reducible exact H1.out _ | with_reducible exact H2.out _ | with_reducible exact H3.out _ | with_reducible exact H4.out _ | with_reducible exact H5.out _))
        refine wpQuiet_nil ?_
        rintro _ ⟨nq, rfl⟩
        go_wp2
        go_ret
        exact ⟨rfl, HKW9.out.trans (HG.out nq)⟩
end Go.Proofs.Ytlghbnoiakeibaa
