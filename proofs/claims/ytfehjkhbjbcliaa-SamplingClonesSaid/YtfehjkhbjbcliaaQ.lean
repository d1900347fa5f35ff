/-
  SamplingRefused comes to true: a Write that is refused changes nothing, a Read never does.
-/
import Derived.Test.YtfehjkhbjbcliaaP
import Derived.Test.YtfehjkhbjbcliaaL
import Derived.Deep.RegionHeld3
set_option linter.unusedVariables false
set_option linter.unusedSimpArgs false
namespace Go.Proofs.Ytfehjkhbjbcliaa
open Go.RowKit
set_option maxHeartbeats 1000000
theorem opS_words (s : PS) (o : OpS) : (opS s o).words = s.words := by
  unfold opS wrSt
  split
  · split
    · split <;> rfl
    · rfl
  · split <;> rfl
theorem tick_false (n : Int) (h : n < 0 ∨ 1099511627776 < n) : tickB n = false := by
  unfold tickB
  rcases h with h | h
  · rw [show decide (0 ≤ n) = false from by simpa using h]; rfl
  · rw [show decide (n ≤ 1099511627776) = false from by simpa using h]; simp
theorem tick_true (n : Int) (h0 : 0 ≤ n) (h1 : n ≤ 1099511627776) : tickB n = true := by
  unfold tickB
  rw [decide_eq_true h0, decide_eq_true h1]; rfl
theorem begW3 : begW 3 = 4 := by rw [(begW_eq 3).1]; decide
theorem sameB_refl (s : PS) : sameB s s = true := by simp [sameB]
theorem refused_calls (q : Int) (vm v : Value) (W : World) (hv : InOps W v) (hvm : InInts .u32 W vm) :
    Calls Try.prog 6 #[v, vm, .int .i64 q] W fun e w' => e = .returned (.bool true) ∧ Kp [] W w' := by
  obtain ⟨n, O, M, hs, hel⟩ := hv
  obtain ⟨A, c, rfl⟩ := hs.shape
  obtain ⟨nm, xm, hsm, _⟩ := hvm
  obtain ⟨Am, cm, rfl⟩ := hsm.shape
  have hn := hs.1
  unfold maxLen at hn
  have hpl := hs.place
  have Hq1 := Lib.hid (rem64 q 100 (by decide) (by decide))
  go_enter Try.func6, Try.ntmps6
  go_wp2_with fail
  refine (begin_calls 3 9 _).mono ?_
  rintro e w1 ⟨g, av, rfl, hp, hra, hg, hk⟩
  obtain ⟨v0, rfl, hbx⟩ := hra.box
  obtain ⟨A0, k0, rfl⟩ : ∃ A k, v0 = .slice A 0 k := by
    obtain ⟨u, h1, h2, h3⟩ := hbx
    rw [blk_new] at h1
    simp at h1
    subst h1
    exact h2.shape
  have hgl := hp.lt
  go_wp2_with fail
  refine (told_calls _).mono ?_
  rintro e w2 ⟨rfl, hk2⟩
  have hk12 := ((Kp.refl [] w1).alloc _).trans hk2
  have hp := hp.keep hk12 (by simp) (by simp)
  have hbx := hbx.keep hk2 (by simp) (by simp)
  have hkW := hk.trans hk12
  have hok := beg_ok 3 9
  have hgx := hp.ne hbx
  have hWx : W.heap.size ≤ w1.heap.size := hk.size
  have hwd : Hid ((beg 3 9).words = 4) := Lib.hid begW3
  generalize w1.heap.size = bx at *
  clear hk2 hk12 hk hra
  generalize beg 3 9 = s0 at *
  go_wp2
  go_loopw [9] (fun l9 wr => ∃ (k : Nat) (st : PS), k ≤ n ∧ k ≤ 50 ∧ l9 = .int .i64 k ∧ PortAt wr g st ∧ BoxAt wr bx st ∧ PSok st ∧ Kp [g, bx] w2 wr ∧ Hid (st.words = 4)) (fun l9 _ => 50 - (intOf l9).toNat)
  case atStart => exact ⟨0, _, Nat.zero_le _, Nat.zero_le _, rfl, hp, hbx, hok, Kp.refl _ _, hwd⟩
  case round =>
    obtain ⟨k, st, hk1, hk100, rfl, hpr, hbr, hokr, hkr, hwr⟩ := hrel
    have hkr' : Kp [] W wr := hkW.next hkr (by simp; omega)
    by_cases hlt : k < n ∧ k < 50
    · obtain ⟨hlt1, hlt2⟩ := hlt
      obtain ⟨b, off, rfl, hcell⟩ := hpl k hlt1
      obtain ⟨n', hm'⟩ := hel k hlt1
      clear hel hpl
      have hbr0 := hbr
      obtain ⟨u, hub, hur, hum⟩ := hbr
      obtain ⟨A1, k1, rfl⟩ := hur.shape
      obtain ⟨A2, k2, hM⟩ := hm'.shape
      rw [hM] at hm' hcell
      have hx0 : wr.cell? ⟨b, off + k * 3, none⟩ = some (.int .i64 (O k).kind) := hkr'.cell (hcell 0 _ rfl) (by simp)
      have hx1 := hkr'.cell (hcell 1 _ rfl) (by simp)
      have hx2 := hkr'.cell (hcell 2 _ rfl) (by simp)
      have hbW : b < W.heap.size := World.block_lt_of_cell? W _ (hcell 0 _ rfl)
      have cb := blk_cell hub
      have HC := Lib.hid hcell
      have HM := Lib.hid hM
      clear hcell hM
      have hgr := hpr.lt
      have lxr := blk_lt hub
      have HS : Hid (∀ V, Kp [g, bx] wr V → Kp [g, bx] wr V ∧ V.cell? ⟨b, off + k * 3, none⟩ = some (.int .i64 (O k).kind) ∧ V.cell? ⟨b, off + k * 3 + 1, none⟩ = some (.int .i64 (O k).now) ∧ V.cell? ⟨b, off + k * 3 + 2, none⟩ = some (.slice A2 n' k2)) :=
        Lib.hid fun V hV => ⟨hV, hV.cell hx0 (by simp; omega), hV.cell hx1 (by simp; omega), hV.cell hx2 (by simp; omega)⟩
      have HD : Hid (∀ V, Kp [] wr V → Calls Try.prog 15 #[.pointer (some ⟨g, 0, none⟩), .agg #[.int .i64 st.words, .int .i64 st.refresh, .bool st.has, .slice A1 st.m.length k1, .int .i64 st.stamp], .agg #[.int .i64 (O k).kind, .int .i64 (O k).now, .slice A2 n' k2]] V fun e w' => ∃ av, e = .returned (.tuple #[av, .bool true]) ∧ PortAt w' g (opS st (O k)) ∧ RefAt w' av (opS st (O k)) ∧ Kp [g, bx] wr w' ∧ Kp [g] wr w') := by
        refine Lib.hid fun V hV => (do_calls V g _ st (O k) _ n' (hpr.keep hV (by simp) (by simp)) ⟨_, rfl, hur.keep hV (by simp), hum⟩ hokr (hm'.keep (hkr'.trans hV) (by simp))).mono ?_
        rintro e w' ⟨av, he, h1, h2, h3⟩
        exact ⟨av, he, h1, h2, ((hV.nil_to).trans h3).mono (by simp), (hV.nil_to).trans h3⟩
      have hok' := opS_ok st (O k) hokr
      have hw' := opS_words st (O k)
      generalize hst' : opS st (O k) = st' at *
      have Hst' := Lib.hid hst'
      have Hw' := Lib.hid hw'
      clear hst' hw'
      have hm0 : bx ∈ [g, bx] := by simp
      go_wp2
      go_region_with (first | (go_at_call 15; refine (HD.out _ ?_).mono ?_; (repeat (with_reducible first | apply Kp.refl | apply Kp.drew)); rintro e V1 ⟨av1, rfl, hp1, ⟨v2, rfl, hr2, hm2⟩, hk2, hkV⟩; obtain ⟨A3, k3, rfl⟩ := hr2.shape; have b8 := hkV.heap hub (by simp; omega); have c8 := blk_cell b8; have f8 := blk_free b8; have l8 := blk_lt b8))
      all_goals
        have hK : Kp [bx] V1 (((((V1.setCell ⟨bx, 0, none⟩ (.int .i64 st'.words)).setCell ⟨bx, 1, none⟩ (.int .i64 st'.refresh)).setCell ⟨bx, 2, none⟩ (.bool st'.has)).setCell ⟨bx, 3, none⟩ (.slice A3 st'.m.length k3)).setCell ⟨bx, 4, none⟩ (.int .i64 st'.stamp)) := (Kp.refl _ _).set5 (by simp) _ _ _ _ _
        have hty : ∀ x ∈ [bx], V1.heap.size ≤ x ∨ ∃ cs t fr, V1.heap[x]? = some (.cells cs t fr) ∧ t ≠ 37 := by
          intro x hx; simp only [List.mem_singleton] at hx; subst hx; exact .inr ⟨_, _, _, b8, by decide⟩
        go_wp2
        go_roundw
        case rel => exact ⟨k + 1, st', by omega, by omega, by go_num, hp1.keep hK (by simp; omega) hty, ⟨_, blk_set5 b8 _ _ _ _ _, hr2.off hK hty, hm2⟩, hok', (hkr.trans hk2).trans (hK.mono (by simp)), Lib.hid (by rw [Hw'.out]; exact hwr.out)⟩
        case measure => simp [intOf]; omega
    · have HT : Hid (∀ (V : World), Kp [] wr V → PortAt V g st ∧ Kp [] W V) := Lib.hid fun V hV => ⟨hpr.keep hV (by simp) (by simp), hkr'.trans hV⟩
      have hgr := hpr.lt
      go_wp2_with fail
      all_goals
        refine (pclone_calls _ g st hpr).mono ?_
        rintro e w3 ⟨gc, rfl, hpc, hgc, hk3⟩
        have hgcl := hpc.lt
        go_wp2_with fail
        refine (few_calls _ _ nm xm (hsm.keep (HT.out _ (hk3.alloc _)).2 (by simp))).mono ?_
        rintro e w' ⟨rfl, rfl⟩
        have hcut := (hsm.keep (HT.out _ (hk3.alloc (.cells #[] 37))).2 (by simp)).cut 40
        obtain ⟨Ac, cc, hcv⟩ := hcut.shape
        have h1 := nums_one .u32 (xm.take 40)
        have h5 := nums_one .u32 [1, 2, 3, 4, 5]
        have hb : (0 + min nm 40) * 4 ≤ 140737488355328 := by omega
        have hmx : 0 + min nm 40 ≤ maxLen := by unfold maxLen; omega
        have Hhcv := Lib.hid hcv
        clear hcv
        go_wp2_with (at_builtin; refine wpl_app (v := .slice (some ⟨w3.heap.size, 0, none⟩) 0 0) (xs := []) rfl rfl Try.underlying24 info37 rfl (by decide) rfl rfl (Row.made' #[] 0 rfl rfl (by decide)) hcut h1 hb hmx ?_)
        intro v1 w4 hr4 hk4 hf4
        have hr4 : Row w4 37 1 v1 (min nm 40) (nums .u32 (xm.take 40)) := by simpa using hr4
        have hkk : Kp [] w3 w4 := ((Kp.refl [] w3).alloc _).next hk4 (by simp [Value.ownBlock])
        have hb2 : (min nm 40 + 5) * 4 ≤ 140737488355328 := by omega
        have hmx2 : min nm 40 + 5 ≤ maxLen := by unfold maxLen; omega
        have hs5 : Sees (w4.alloc (.cells #[.int .u32 1, .int .u32 2, .int .u32 3, .int .u32 4, .int .u32 5] 37)) 1 (.slice (some ⟨w4.heap.size, 0, none⟩) 5 5) 5 (nums .u32 [1, 2, 3, 4, 5]) := (Row.made #[.int .u32 1, .int .u32 2, .int .u32 3, .int .u32 4, .int .u32 5] 5 rfl (by decide)).sees
        have hr4a := hr4.alloc (.cells #[.int .u32 1, .int .u32 2, .int .u32 3, .int .u32 4, .int .u32 5] 37)
        have hb1 : ∀ b ∈ v1.ownBlock, w3.heap.size ≤ b := by
          intro b hb
          rcases hf4 b hb with h | h
          · simp [Value.ownBlock] at h; omega
          · exact Nat.le_trans (by simp) h
        clear hb hmx h1
        have h1 := nums_one .u32 (xm.take 40)
        go_wp2_with (at_builtin; refine wpl_app (v := v1) (xs := nums .u32 (xm.take 40)) (news := nums .u32 [1, 2, 3, 4, 5]) rfl rfl Try.underlying24 info37 rfl (by decide) rfl rfl hr4a hs5 h5 hb2 hmx2 ?_)
        intro v2 w5 hr5 hk5 hf5
        have hkk5 : Kp [] w3 w5 := (hkk.alloc _).next hk5 (fun i hi => .inr (hb1 i (by simpa using hi)))
        have hr5 : Row w5 37 1 v2 (min nm 40 + 5) (nums .u32 (xm.take 40 ++ [1, 2, 3, 4, 5])) := by simpa [nums] using hr5
        have hw4 : st.words = 4 := hwr.out
        have hl5 : 4 < ((xm.take 40 ++ [1, 2, 3, 4, 5]).length : Int) := by simp; omega
        have hHT := HT.out w5 (hk3.trans hkk5)
        go_wp2_with fail
        refine (write_calls w5 g st 5 v2 _ _ hHT.1 hr5.sees (by omega)).mono ?_
        rintro e w6 ⟨he, hp6, hk6⟩
        rw [show wrErr st 5 (xm.take 40 ++ [1, 2, 3, 4, 5]) = 2 from by unfold wrErr; rw [if_pos (by decide), hw4, if_pos hl5]] at he
        rw [show wrSt st 5 (xm.take 40 ++ [1, 2, 3, 4, 5]) = st from by unfold wrSt; rw [if_pos (by decide), hw4, if_pos hl5]] at hp6
        subst he
        have Hw4 := Lib.hid hw4
        have hpc6 := (hpc.keep hkk5 (by simp) (by simp)).keep hk6 (by simp; omega) (by intro x hx; simp only [List.mem_singleton] at hx; subst hx; exact hHT.1.ty)
        clear hw4 hl5 hb2 hmx2 h1 h5 hs5 hr4a hr4 hb1 hf4 hf5 hr5 hcut
        obtain ⟨T, hT, hT0, hT1⟩ : ∃ T, wrap64 ((IntKind.u64.wrap q).tmod 100) = T ∧ 0 ≤ T ∧ T < 100 := ⟨_, rfl, by have := Hq1.out; omega, by have := Hq1.out; omega⟩
        have HTT := Lib.hid hT
        clear hT
        have hnil : ∀ (V : World), Sees V 1 (.slice none 0 0) 0 (nums .u32 []) := fun V => (Row.nil V 37 1).sees
        go_wp2_with fail
        rw [HTT.out]
        have htk1 : tickB (-1 - T) = false := tick_false _ (by omega)
        have htk2 : tickB (1099511627777 + T) = false := tick_false _ (by omega)
        have hw1 : wrap64 (-1 - T) = -1 - T := by unfold wrap64; omega
        have hw2 : wrap64 (1099511627777 + T) = 1099511627777 + T := by unfold wrap64; omega
        rw [hw1]
        refine (write_calls w6 g st (-1 - T) _ _ [] hp6 (hnil _) (by decide)).mono ?_
        rintro e w7 ⟨he, hp7, hk7⟩
        rw [show wrErr st (-1 - T) [] = 1 from by unfold wrErr; rw [htk1]; rfl] at he
        rw [show wrSt st (-1 - T) [] = st from by unfold wrSt; rw [htk1]; rfl] at hp7
        subst he
        have hpc7 := hpc6.keep hk7 (by simp; omega) (by intro x hx; simp only [List.mem_singleton] at hx; subst hx; exact hp6.ty)
        have HW2 := Lib.hid hw2
        clear hw1 hw2 htk1
        go_wp2_with fail
        rw [HTT.out, HW2.out]
        refine (write_calls w7 g st (1099511627777 + T) _ _ [] hp7 (hnil _) (by decide)).mono ?_
        rintro e w8 ⟨he, hp8, hk8⟩
        rw [show wrErr st (1099511627777 + T) [] = 1 from by unfold wrErr; rw [htk2]; rfl] at he
        rw [show wrSt st (1099511627777 + T) [] = st from by unfold wrSt; rw [htk2]; rfl] at hp8
        subst he
        have hpc8 := hpc7.keep hk8 (by simp; omega) (by intro x hx; simp only [List.mem_singleton] at hx; subst hx; exact hp7.ty)
        clear htk2
        go_wp2_with fail
        refine (read_calls w8 g st _ hp8 hokr).mono ?_
        rintro e w9 ⟨x9, rfl, hx9, hk9, hf9⟩
        go_wp2_with fail
        refine (read_calls w9 g st _ (hp8.keep hk9 (by simp) (by simp)) hokr).mono ?_
        rintro e w10 ⟨x10, rfl, hx10, hk10, hf10⟩
        go_wp2_with fail
        have hk910 := hk9.trans hk10
        refine (same_calls w10 g gc st st (hp8.keep hk910 (by simp) (by simp)) (hpc8.keep hk910 (by simp) (by simp))).mono ?_
        rintro e w11 ⟨he, m11, rfl⟩
        rw [sameB_refl] at he
        subst he
        go_wp2
        go_ret
        have hkg : Kp [g] w5 w10 := ((hk6.trans hk7).trans hk8).trans hk910.nil_to
        exact ⟨rfl, (hHT.2.next hkg (by simp; omega)).drewN _⟩
theorem refused_law (v0 v1 v2 : Value) (W : World) (h0 : InOps W v0) (h1 : InInts .u32 W v1) (h2 : InInt .i64 v2) : Calls Try.prog 6 #[v0, v1, v2] W fun e w' => e = .returned (.bool true) ∧ Kp [] W w' := by
  obtain ⟨a, rfl, _⟩ := h2
  exact refused_calls a v1 v0 W h0 h1
end Go.Proofs.Ytfehjkhbjbcliaa
