/-
  do at a Read, at a Clear, at whatever is done.
-/
import Derived.Test.YtfehjkhbjbcliaaS8
import Derived.Deep.RegionHeld3
namespace Go.Proofs.Ytfehjkhbjbcliaa
open Go.RowKit
set_option maxHeartbeats 1000000
theorem do_clear (w : World) (b : Nat) (av : Value) (s : PS) (o : OpS) (v : Value) (n : Nat) (hp : PortAt w b s) (hr : RefAt w av s) (hv : Sees w 1 v n (nums .u32 o.m)) (hk : opK o = 2) :
    Calls Try.prog 15 #[.pointer (some ⟨b, 0, none⟩), av, .agg #[.int .i64 o.kind, .int .i64 o.now, v]] w (doPost w b s o) := by
  obtain ⟨pv, rfl, hrow, hm⟩ := hr
  obtain ⟨A, k, rfl⟩ := hrow.shape
  obtain ⟨A2, k2, rfl⟩ := hv.shape
  have hq := (rem64 o.kind 3 (by decide) (by decide)).1
  rw [show (o.kind % 18446744073709551616) % 3 = 2 from hk] at hq
  have hq0 : (wrap64 ((IntKind.u64.wrap o.kind).tmod 3) == 0) = false := by rw [hq]; rfl
  have hq1 : (wrap64 ((IntKind.u64.wrap o.kind).tmod 3) == 1) = false := by rw [hq]; rfl
  clear hq
  have hop : opS s o = { s with m := [], stamp := 0, has := false } := by unfold opS; rw [if_neg (by omega), if_neg (by omega)]
  have hk0 : Kp [] w (((w.alloc (.cells #[.int .i64 s.words, .int .i64 s.refresh, .bool s.has, .slice A s.m.length k, .int .i64 s.stamp] 26)).alloc (.cells #[.int .i64 o.kind, .int .i64 o.now, .slice A2 n k2] 45)).alloc (.cells #[.int .i64 0, .int .i64 0, .bool false, .slice none 0 0, .int .i64 0] 26)) := (((Kp.refl _ _).alloc _).alloc _).alloc _
  have hb0 := blk_alloc (blk_alloc (blk_new w (.cells #[.int .i64 s.words, .int .i64 s.refresh, .bool s.has, .slice A s.m.length k, .int .i64 s.stamp] 26)) (.cells #[.int .i64 o.kind, .int .i64 o.now, .slice A2 n k2] 45)) (.cells #[.int .i64 0, .int .i64 0, .bool false, .slice none 0 0, .int .i64 0] 26)
  have hb2 := blk_new' ((w.alloc (.cells #[.int .i64 s.words, .int .i64 s.refresh, .bool s.has, .slice A s.m.length k, .int .i64 s.stamp] 26)).alloc (.cells #[.int .i64 o.kind, .int .i64 o.now, .slice A2 n k2] 45)) (.cells #[.int .i64 0, .int .i64 0, .bool false, .slice none 0 0, .int .i64 0] 26) (g := w.heap.size + 1 + 1) (by simp)
  go_enter Try.func15, Try.ntmps15
  go_wp2_with fail
  generalize ((w.alloc (.cells #[.int .i64 s.words, .int .i64 s.refresh, .bool s.has, .slice A s.m.length k, .int .i64 s.stamp] 26)).alloc (.cells #[.int .i64 o.kind, .int .i64 o.now, .slice A2 n k2] 45)).alloc (.cells #[.int .i64 0, .int .i64 0, .bool false, .slice none 0 0, .int .i64 0] 26) = W at *
  refine (clear_calls W b s (hp.keep hk0 (by simp) (by simp))).mono ?_
  rintro e V1 ⟨rfl, hp1, hkV⟩
  have hbl := hp.lt
  have b0 := hkV.heap hb0 (by simp; omega)
  have b2 := hkV.heap hb2 (by simp; omega)
  have c0 := blk_cell b0
  have c2 := blk_cell b2
  have f2 := blk_free b2
  have l0 := blk_lt b0
  have l2 := blk_lt b2
  go_wp2
  have hK : Kp [w.heap.size + 1 + 1] V1 (((((V1.setCell ⟨w.heap.size + 1 + 1, 0, none⟩ (.int .i64 s.words)).setCell ⟨w.heap.size + 1 + 1, 1, none⟩ (.int .i64 s.refresh)).setCell ⟨w.heap.size + 1 + 1, 2, none⟩ (.bool false)).setCell ⟨w.heap.size + 1 + 1, 3, none⟩ (.slice none 0 0)).setCell ⟨w.heap.size + 1 + 1, 4, none⟩ (.int .i64 0)) := (Kp.refl _ _).set5 (by simp) _ _ _ _ _
  have hty : ∀ x ∈ [w.heap.size + 1 + 1], V1.heap.size ≤ x ∨ ∃ cs t fr, V1.heap[x]? = some (.cells cs t fr) ∧ t ≠ 37 := by
    intro x hx; simp only [List.mem_singleton] at hx; subst hx; exact .inr ⟨_, _, _, b2, by decide⟩
  have cF := blk_cell (blk_set5 b2 (.int .i64 s.words) (.int .i64 s.refresh) (.bool false) (.slice none 0 0) (.int .i64 0))
  refine bodyPost_ret (v := .tuple #[.agg #[.int .i64 s.words, .int .i64 s.refresh, .bool false, .slice none 0 0, .int .i64 0], .bool true]) ?_ rfl ⟨_, rfl, ?_, ?_, ?_⟩
  · simp [results, Try.results15, go_sem, cF]
  · rw [hop]; exact hp1.keep hK (by simp; omega) hty
  · rw [hop]; exact ⟨_, rfl, Row.nil _ _ _, by simp⟩
  · exact (hk0.nil_to.next hkV (by simp)).next hK (by simp; omega)
theorem do_read (w : World) (b : Nat) (av : Value) (s : PS) (o : OpS) (v : Value) (n : Nat) (hp : PortAt w b s) (hr : RefAt w av s) (ho : PSok s) (hv : Sees w 1 v n (nums .u32 o.m)) (hk : opK o = 1) :
    Calls Try.prog 15 #[.pointer (some ⟨b, 0, none⟩), av, .agg #[.int .i64 o.kind, .int .i64 o.now, v]] w (doPost w b s o) := by
  obtain ⟨pv, rfl, hrow, hm⟩ := hr
  obtain ⟨A, k, rfl⟩ := hrow.shape
  obtain ⟨A2, k2, rfl⟩ := hv.shape
  have hq := (rem64 o.kind 3 (by decide) (by decide)).1
  rw [show (o.kind % 18446744073709551616) % 3 = 1 from hk] at hq
  have hq0 : (wrap64 ((IntKind.u64.wrap o.kind).tmod 3) == 0) = false := by rw [hq]; rfl
  have hq1 : (wrap64 ((IntKind.u64.wrap o.kind).tmod 3) == 1) = true := by rw [hq]; rfl
  clear hq
  have hop : opS s o = s := by unfold opS; rw [if_neg (by omega), if_pos hk]
  have hk0 : Kp [] w (((w.alloc (.cells #[.int .i64 s.words, .int .i64 s.refresh, .bool s.has, .slice A s.m.length k, .int .i64 s.stamp] 26)).alloc (.cells #[.int .i64 o.kind, .int .i64 o.now, .slice A2 n k2] 45)).alloc (.cells #[.int .i64 0, .int .i64 0, .bool false, .slice none 0 0, .int .i64 0] 26)) := (((Kp.refl _ _).alloc _).alloc _).alloc _
  have hb0 := blk_alloc (blk_alloc (blk_new w (.cells #[.int .i64 s.words, .int .i64 s.refresh, .bool s.has, .slice A s.m.length k, .int .i64 s.stamp] 26)) (.cells #[.int .i64 o.kind, .int .i64 o.now, .slice A2 n k2] 45)) (.cells #[.int .i64 0, .int .i64 0, .bool false, .slice none 0 0, .int .i64 0] 26)
  have hb1 := blk_alloc (blk_new' (w.alloc (.cells #[.int .i64 s.words, .int .i64 s.refresh, .bool s.has, .slice A s.m.length k, .int .i64 s.stamp] 26)) (.cells #[.int .i64 o.kind, .int .i64 o.now, .slice A2 n k2] 45) (g := w.heap.size + 1) (by simp)) (.cells #[.int .i64 0, .int .i64 0, .bool false, .slice none 0 0, .int .i64 0] 26)
  have hb2 := blk_new' ((w.alloc (.cells #[.int .i64 s.words, .int .i64 s.refresh, .bool s.has, .slice A s.m.length k, .int .i64 s.stamp] 26)).alloc (.cells #[.int .i64 o.kind, .int .i64 o.now, .slice A2 n k2] 45)) (.cells #[.int .i64 0, .int .i64 0, .bool false, .slice none 0 0, .int .i64 0] 26) (g := w.heap.size + 1 + 1) (by simp)
  go_enter Try.func15, Try.ntmps15
  go_wp2_with fail
  generalize ((w.alloc (.cells #[.int .i64 s.words, .int .i64 s.refresh, .bool s.has, .slice A s.m.length k, .int .i64 s.stamp] 26)).alloc (.cells #[.int .i64 o.kind, .int .i64 o.now, .slice A2 n k2] 45)).alloc (.cells #[.int .i64 0, .int .i64 0, .bool false, .slice none 0 0, .int .i64 0] 26) = W at *
  refine (read_calls W b s o.now (hp.keep hk0 (by simp) (by simp)) ho).mono ?_
  rintro e V1 ⟨x1, rfl, hx1, hkV1, hf1⟩
  have b1 := hkV1.heap hb1 (by simp)
  have b0 := hkV1.heap hb0 (by simp)
  have c1 := blk_cell b1
  have c0 := blk_cell b0
  go_wp2_with fail
  refine (rread_calls V1 _ s o.now ⟨_, rfl, (hrow.keep hk0 (by simp)).keep hkV1 (by simp), hm⟩ ho).mono ?_
  rintro e V2 ⟨x2, rfl, hx2, hkV2, hf2⟩
  have b0 := hkV2.heap b0 (by simp)
  have b2 := (hkV1.trans hkV2).heap hb2 (by simp)
  clear c0 c1
  have c0 := blk_cell b0
  have c2 := blk_cell b2
  have f2 := blk_free b2
  have l2 := blk_lt b2
  have hlm : (rdM s o.now).length ≤ 1000000 := by by_cases h1 : tickB o.now = true <;> by_cases h2 : s.has = true <;> simp [rdM, h1, h2] <;> omega
  have HE : Hid (∀ n, Calls Try.prog 13 #[x1, x2] (V2.drewN n) fun e w' => e = .returned (.bool true) ∧ ∃ m, w' = (V2.drewN n).drewN m) := by
    refine Lib.hid fun n => (rwords_calls (V2.drewN n) x1 _ _ x2 _ _ ((hx1.keep hkV2 (by simp)).sees) hx2.sees hlm hlm).mono ?_
    rintro e w' ⟨rfl, h⟩
    exact ⟨by simp, h⟩
  have HS : Hid (∀ V, Kp [w.heap.size + 1 + 1] V2 V → Kp [w.heap.size + 1 + 1] V2 V ∧ ∀ i, V.cell? ⟨w.heap.size, i, none⟩ = V2.cell? ⟨w.heap.size, i, none⟩) :=
    Lib.hid fun V hV => ⟨hV, fun i => by rw [blk_cell (hV.heap b0 (by simp; omega)), blk_cell b0]⟩
  have hm0 : w.heap.size + 1 + 1 ∈ [w.heap.size + 1 + 1] := by simp
  go_wp2
  go_region_held3 (fun V => Kp [w.heap.size + 1 + 1] V2 V ∧ ∀ i, V.cell? ⟨w.heap.size, i, none⟩ = V2.cell? ⟨w.heap.size, i, none⟩) ((refine HS.out _ ?_; repeat (with_reducible first | assumption | apply Kp.refl | apply Kp.drew | apply Kp.drewN | (refine Kp.setCell ?_ (.inl hm0) _)))) (first | (go_at_call 13; refine (HE.out 1).mono ?_; rintro e V3 ⟨rfl, m, rfl⟩))
  go_wp2
  have hK : Kp [w.heap.size + 1 + 1] V2 ((((((V2.drewN (1 + m)).setCell ⟨w.heap.size + 1 + 1, 0, none⟩ (.int .i64 s.words)).setCell ⟨w.heap.size + 1 + 1, 1, none⟩ (.int .i64 s.refresh)).setCell ⟨w.heap.size + 1 + 1, 2, none⟩ (.bool s.has)).setCell ⟨w.heap.size + 1 + 1, 3, none⟩ (.slice A s.m.length k)).setCell ⟨w.heap.size + 1 + 1, 4, none⟩ (.int .i64 s.stamp)) := ((Kp.refl _ _).drewN _).set5 (by simp) _ _ _ _ _
  have hty : ∀ x ∈ [w.heap.size + 1 + 1], V2.heap.size ≤ x ∨ ∃ cs t fr, V2.heap[x]? = some (.cells cs t fr) ∧ t ≠ 37 := by
    intro x hx; simp only [List.mem_singleton] at hx; subst hx; exact .inr ⟨_, _, _, b2, by decide⟩
  have cF := blk_cell (blk_set5 (blk_drewN b2 (1 + m)) (.int .i64 s.words) (.int .i64 s.refresh) (.bool s.has) (.slice A s.m.length k) (.int .i64 s.stamp))
  have hbl := hp.lt
  have hkk := (hk0.trans hkV1).trans hkV2
  refine bodyPost_ret (v := .tuple #[.agg #[.int .i64 s.words, .int .i64 s.refresh, .bool s.has, .slice A s.m.length k, .int .i64 s.stamp], .bool true]) ?_ rfl ⟨_, rfl, ?_, ?_, ?_⟩
  · simp [results, Try.results15, go_sem, cF]
  · rw [hop]; exact (hp.keep hkk (by simp) (by simp)).keep hK (by simp; omega) hty
  · rw [hop]; exact ⟨_, rfl, (hrow.keep hkk (by simp)).off hK hty, hm⟩
  · exact hkk.nil_to.next hK (by simp; omega)
theorem do_calls (w : World) (b : Nat) (av : Value) (s : PS) (o : OpS) (v : Value) (n : Nat) (hp : PortAt w b s) (hr : RefAt w av s) (ho : PSok s) (hv : Sees w 1 v n (nums .u32 o.m)) :
    Calls Try.prog 15 #[.pointer (some ⟨b, 0, none⟩), av, .agg #[.int .i64 o.kind, .int .i64 o.now, v]] w (doPost w b s o) := by
  have h := (rem64 o.kind 3 (by decide) (by decide)).2
  have h' : 0 ≤ opK o ∧ opK o < 3 := h
  by_cases h0 : opK o = 0
  · exact do_write w b av s o v n hp hr ho hv h0
  · by_cases h1 : opK o = 1
    · exact do_read w b av s o v n hp hr ho hv h1
    · exact do_clear w b av s o v n hp hr hv (by omega)
end Go.Proofs.Ytfehjkhbjbcliaa
