/-
  do at a Write: the port and the document's stay the same.
-/
import Derived.Test.YtfehjkhbjbcliaaS7
import Derived.Deep.RegionHeld3
namespace Go.Proofs.Ytfehjkhbjbcliaa
open Go.RowKit
set_option maxHeartbeats 1000000
structure OpS where
  kind : Int
  now : Int
  m : List Int
def opK (o : OpS) : Int := (o.kind % 18446744073709551616) % 3
def opS (s : PS) (o : OpS) : PS := if opK o = 0 then wrSt s o.now (o.m.take 40) else if opK o = 1 then s else { s with m := [], stamp := 0, has := false }
theorem opS_ok (s : PS) (o : OpS) (h : PSok s) : PSok (opS s o) := by
  unfold opS wrSt
  split
  · split
    · rename_i ht
      split
      · exact h
      · unfold tickB at ht
        simp at ht
        exact ⟨h.w0, h.w1, h.r0, h.r1, ht.1, ht.2, by simp⟩
    · exact h
  · split
    · exact h
    · exact ⟨h.w0, h.w1, h.r0, h.r1, by simp, by simp, by simp⟩
def doPost (w : World) (b : Nat) (s : PS) (o : OpS) (e : Ending) (w' : World) : Prop :=
  ∃ av, e = .returned (.tuple #[av, .bool true]) ∧ PortAt w' b (opS s o) ∧ RefAt w' av (opS s o) ∧ Kp [b] w w'
theorem do_write (w : World) (b : Nat) (av : Value) (s : PS) (o : OpS) (v : Value) (n : Nat) (hp : PortAt w b s) (hr : RefAt w av s) (ho : PSok s) (hv : Sees w 1 v n (nums .u32 o.m)) (hk : opK o = 0) :
    Calls Try.prog 15 #[.pointer (some ⟨b, 0, none⟩), av, .agg #[.int .i64 o.kind, .int .i64 o.now, v]] w (doPost w b s o) := by
  obtain ⟨pv, rfl, hrow, hm⟩ := hr
  obtain ⟨A, k, rfl⟩ := hrow.shape
  obtain ⟨A2, k2, rfl⟩ := hv.shape
  have hq := (rem64 o.kind 3 (by decide) (by decide)).1
  rw [show (o.kind % 18446744073709551616) % 3 = 0 from hk] at hq
  have hq' : (wrap64 ((IntKind.u64.wrap o.kind).tmod 3) == 0) = true := by rw [hq]; rfl
  clear hq
  have hk0 : Kp [] w (((w.alloc (.cells #[.int .i64 s.words, .int .i64 s.refresh, .bool s.has, .slice A s.m.length k, .int .i64 s.stamp] 26)).alloc (.cells #[.int .i64 o.kind, .int .i64 o.now, .slice A2 n k2] 45)).alloc (.cells #[.int .i64 0, .int .i64 0, .bool false, .slice none 0 0, .int .i64 0] 26)) := (((Kp.refl _ _).alloc _).alloc _).alloc _
  have hb0 := blk_alloc (blk_alloc (blk_new w (.cells #[.int .i64 s.words, .int .i64 s.refresh, .bool s.has, .slice A s.m.length k, .int .i64 s.stamp] 26)) (.cells #[.int .i64 o.kind, .int .i64 o.now, .slice A2 n k2] 45)) (.cells #[.int .i64 0, .int .i64 0, .bool false, .slice none 0 0, .int .i64 0] 26)
  have hb1 := blk_alloc (blk_new' (w.alloc (.cells #[.int .i64 s.words, .int .i64 s.refresh, .bool s.has, .slice A s.m.length k, .int .i64 s.stamp] 26)) (.cells #[.int .i64 o.kind, .int .i64 o.now, .slice A2 n k2] 45) (g := w.heap.size + 1) (by simp)) (.cells #[.int .i64 0, .int .i64 0, .bool false, .slice none 0 0, .int .i64 0] 26)
  have hb2 := blk_new' ((w.alloc (.cells #[.int .i64 s.words, .int .i64 s.refresh, .bool s.has, .slice A s.m.length k, .int .i64 s.stamp] 26)).alloc (.cells #[.int .i64 o.kind, .int .i64 o.now, .slice A2 n k2] 45)) (.cells #[.int .i64 0, .int .i64 0, .bool false, .slice none 0 0, .int .i64 0] 26) (g := w.heap.size + 1 + 1) (by simp)
  go_enter Try.func15, Try.ntmps15
  go_upto_region 3 with fail
  generalize ((w.alloc (.cells #[.int .i64 s.words, .int .i64 s.refresh, .bool s.has, .slice A s.m.length k, .int .i64 s.stamp] 26)).alloc (.cells #[.int .i64 o.kind, .int .i64 o.now, .slice A2 n k2] 45)).alloc (.cells #[.int .i64 0, .int .i64 0, .bool false, .slice none 0 0, .int .i64 0] 26) = W at *
  have HS : Hid (∀ V, Kp [] W V → Kp [] W V ∧ (∀ i, V.cell? ⟨w.heap.size, i, none⟩ = #[.int .i64 s.words, .int .i64 s.refresh, .bool s.has, .slice A s.m.length k, .int .i64 s.stamp][i]?) ∧ (∀ i, V.cell? ⟨w.heap.size + 1, i, none⟩ = #[.int .i64 o.kind, .int .i64 o.now, .slice A2 n k2][i]?)) :=
    Lib.hid fun V hV => ⟨hV, blk_cell (hV.heap hb0 (by simp)), blk_cell (hV.heap hb1 (by simp))⟩
  have HF : Hid (∀ V, Kp [] W V → Calls Try.prog 18 #[.slice A2 n k2] V fun e w' => e = .returned (cutTo 40 (.slice A2 n k2)) ∧ V = w') := Lib.hid fun V hV => few_calls V _ _ _ (hv.keep (hk0.trans hV) (by simp))
  have HR : Hid (∀ V, Kp [] W V → Calls Try.prog 27 #[.agg #[.int .i64 s.words, .int .i64 s.refresh, .bool s.has, .slice A s.m.length k, .int .i64 s.stamp], .int .i64 o.now, cutTo 40 (.slice A2 n k2)] V fun e w' => ∃ av', e = .returned (.tuple #[av', .int .i64 (wrErr s o.now (o.m.take 40))]) ∧ RefAt w' av' (wrSt s o.now (o.m.take 40)) ∧ Kp [] W w' ∧ Kp [] V w') :=
    Lib.hid fun V hV => (rwrite_calls V _ s _ _ _ _ ⟨_, rfl, hrow.keep (hk0.trans hV) (by simp), hm⟩ ((hv.keep (hk0.trans hV) (by simp)).cut 40) (by omega)).mono fun e w' ⟨a, h1, h2, h3⟩ => ⟨a, h1, h2, hV.trans h3, h3⟩
  go_cut [8, 9] (fun s8 s9 V => ∃ g v2, s8 = .pointer (some ⟨g, 0, none⟩) ∧ s9 = .int .i64 (wrErr s o.now (o.m.take 40)) ∧ W.heap.size ≤ g ∧ V.heap[g]? = some (.cells #[.int .i64 (wrSt s o.now (o.m.take 40)).words, .int .i64 (wrSt s o.now (o.m.take 40)).refresh, .bool (wrSt s o.now (o.m.take 40)).has, v2, .int .i64 (wrSt s o.now (o.m.take 40)).stamp] 26) ∧ Row V 37 1 v2 (wrSt s o.now (o.m.take 40)).m.length (nums .u32 (wrSt s o.now (o.m.take 40)).m) ∧ (wrSt s o.now (o.m.take 40)).m.length ≤ 1000000 ∧ Kp [] W V)
  case first =>
    go_region_held3 (fun V => Kp [] W V ∧ (∀ i, V.cell? ⟨w.heap.size, i, none⟩ = #[.int .i64 s.words, .int .i64 s.refresh, .bool s.has, .slice A s.m.length k, .int .i64 s.stamp][i]?) ∧ (∀ i, V.cell? ⟨w.heap.size + 1, i, none⟩ = #[.int .i64 o.kind, .int .i64 o.now, .slice A2 n k2][i]?)) ((refine HS.out _ ?_; repeat (with_reducible first | assumption | apply Kp.refl | apply Kp.drew | apply Kp.alloc | (refine Kp.setCell ?_ (.inr (Nat.le_refl _)) _)))) (first | (go_at_call 18; refine (HF.out _ ?_).mono ?_; exact (‹Kp [] W _ ∧ _›).1; rintro e V1 ⟨rfl, rfl⟩) | (go_at_call 27; refine (HR.out _ ?_).mono ?_; exact (‹Kp [] W _ ∧ _›).1; rintro e V1 ⟨av1, rfl, ⟨v2, rfl, hr2, hm2⟩, hk2, hkV⟩; obtain ⟨A3, k3, rfl⟩ := hr2.shape; try (have b8 := hkV.heap (blk_new _ _) (by simp); have c8 := blk_cell b8; have f8 := blk_free b8; have l8 := blk_lt b8)))
    all_goals (go_wp2_with fail; go_meet)
    all_goals first
      | exact ⟨_, .slice A3 _ k3, rfl, rfl, hk2.size, blk_new _ _, hr2.alloc _, hm2, hk2.alloc _⟩
      | exact ⟨_, .slice A3 _ k3, rfl, rfl, Nat.le_refl _, blk_set5 b8 _ _ _ _ _, hr2.put5 (hr2.ne b8 (by decide)) _ _ _ _ _, hm2, hk2.set5 (.inr (Nat.le_refl _)) _ _ _ _ _⟩
  case rest =>
    obtain ⟨g, v2, rfl, rfl, hg, hbg, hr2, hm2, hk2⟩ := hcut
    clear HS HF HR
    obtain ⟨A3, k3, rfl⟩ := hr2.shape
    have lW := blk_lt hb2
    have hb1 := hk2.heap hb1 (by simp)
    have hb2 := hk2.heap hb2 (by simp)
    have hkw := hk0.trans hk2
    have hpw := hp.keep hkw (by simp) (by simp)
    have hgl := hk0.size
    have hbl := hp.lt
    have hb2l := blk_lt hb2
    have HS : Hid (∀ V, Kp [b, w.heap.size + 1 + 1] wc V → Kp [b, w.heap.size + 1 + 1] wc V ∧ (∀ i, V.cell? ⟨g, i, none⟩ = wc.cell? ⟨g, i, none⟩) ∧ (∀ i, V.cell? ⟨w.heap.size + 1, i, none⟩ = wc.cell? ⟨w.heap.size + 1, i, none⟩)) :=
      Lib.hid fun V hV => ⟨hV, fun i => by rw [blk_cell (hV.heap hbg (by simp; omega)), blk_cell hbg], fun i => by rw [blk_cell (hV.heap hb1 (by simp; omega)), blk_cell hb1]⟩
    have HF : Hid (∀ V, Kp [] wc V → Calls Try.prog 18 #[.slice A2 n k2] V fun e w' => e = .returned (cutTo 40 (.slice A2 n k2)) ∧ V = w') := Lib.hid fun V hV => few_calls V _ _ _ (hv.keep (hkw.trans hV) (by simp))
    have HW : Hid (∀ V, Kp [] wc V → Calls Try.prog 11 #[.pointer (some ⟨b, 0, none⟩), .int .i64 o.now, cutTo 40 (.slice A2 n k2)] V fun e w' => e = .returned (.int .i64 (wrErr s o.now (o.m.take 40))) ∧ PortAt w' b (wrSt s o.now (o.m.take 40)) ∧ Kp [b, w.heap.size + 1 + 1] wc w' ∧ w'.heap[w.heap.size + 1 + 1]? = wc.heap[w.heap.size + 1 + 1]? ∧ RefAt w' (.agg #[.int .i64 (wrSt s o.now (o.m.take 40)).words, .int .i64 (wrSt s o.now (o.m.take 40)).refresh, .bool (wrSt s o.now (o.m.take 40)).has, .slice A3 (wrSt s o.now (o.m.take 40)).m.length k3, .int .i64 (wrSt s o.now (o.m.take 40)).stamp]) (wrSt s o.now (o.m.take 40))) :=
      Lib.hid fun V hV => (write_calls V b s _ _ _ _ (hpw.keep hV (by simp) (by simp)) ((hv.keep (hkw.trans hV) (by simp)).cut 40) (by omega)).mono fun e w' ⟨h1, h2, h3⟩ => ⟨h1, h2, (hV.nil_to (S := [b, w.heap.size + 1 + 1])).next h3 (by simp), by rw [h3.block _ (by have := hV.size; omega) (by simp; omega), hV.block _ hb2l (by simp)], ⟨_, rfl, (hr2.keep hV (by simp)).off h3 (by intro x hx; simp only [List.mem_singleton] at hx; subst hx; exact (hpw.keep hV (by simp) (by simp)).ty), hm2⟩⟩
    have cg := blk_cell hbg
    have c1 := blk_cell hb1
    have c2 := blk_cell hb2
    have f2 := blk_free hb2
    have hm0 : w.heap.size + 1 + 1 ∈ [b, w.heap.size + 1 + 1] := by simp
    go_wp2
    go_region_held3 (fun V => Kp [b, w.heap.size + 1 + 1] wc V ∧ (∀ i, V.cell? ⟨g, i, none⟩ = wc.cell? ⟨g, i, none⟩) ∧ (∀ i, V.cell? ⟨w.heap.size + 1, i, none⟩ = wc.cell? ⟨w.heap.size + 1, i, none⟩)) ((refine HS.out _ ?_; repeat (with_reducible first | assumption | apply Kp.refl | apply Kp.drew | apply Kp.alloc | (refine Kp.setCell ?_ (.inl hm0) _) | (refine Kp.setCell ?_ (.inl hm1) _)))) (first | (go_at_call 18; refine (HF.out _ ?_).mono ?_; (exact (Kp.refl _ _).drew); rintro e V1 ⟨rfl, rfl⟩) | (go_at_call 11; refine (HW.out _ ?_).mono ?_; (exact (Kp.refl _ _).drew); rintro e V1 ⟨rfl, hp1, hkV, hh6, hra⟩; have b6 := hh6.trans hb2; have c6 := blk_cell b6; have f6 := blk_free b6; have l6 := blk_lt b6))
    go_wp2
    have hK : Kp [w.heap.size + 1 + 1] V1 (((((V1.setCell ⟨w.heap.size + 1 + 1, 0, none⟩ (.int .i64 (wrSt s o.now (o.m.take 40)).words)).setCell ⟨w.heap.size + 1 + 1, 1, none⟩ (.int .i64 (wrSt s o.now (o.m.take 40)).refresh)).setCell ⟨w.heap.size + 1 + 1, 2, none⟩ (.bool (wrSt s o.now (o.m.take 40)).has)).setCell ⟨w.heap.size + 1 + 1, 3, none⟩ (.slice A3 (wrSt s o.now (o.m.take 40)).m.length k3)).setCell ⟨w.heap.size + 1 + 1, 4, none⟩ (.int .i64 (wrSt s o.now (o.m.take 40)).stamp)) := (Kp.refl _ _).set5 (by simp) _ _ _ _ _
    have hty : ∀ x ∈ [w.heap.size + 1 + 1], V1.heap.size ≤ x ∨ ∃ cs t fr, V1.heap[x]? = some (.cells cs t fr) ∧ t ≠ 37 := by
      intro x hx; simp only [List.mem_singleton] at hx; subst hx; exact .inr ⟨_, _, _, b6, by decide⟩
    have cF := blk_cell (blk_set5 b6 (.int .i64 (wrSt s o.now (o.m.take 40)).words) (.int .i64 (wrSt s o.now (o.m.take 40)).refresh) (.bool (wrSt s o.now (o.m.take 40)).has) (.slice A3 (wrSt s o.now (o.m.take 40)).m.length k3) (.int .i64 (wrSt s o.now (o.m.take 40)).stamp))
    have hop : opS s o = wrSt s o.now (o.m.take 40) := by unfold opS; rw [if_pos hk]
    refine bodyPost_ret (v := .tuple #[.agg #[.int .i64 (wrSt s o.now (o.m.take 40)).words, .int .i64 (wrSt s o.now (o.m.take 40)).refresh, .bool (wrSt s o.now (o.m.take 40)).has, .slice A3 (wrSt s o.now (o.m.take 40)).m.length k3, .int .i64 (wrSt s o.now (o.m.take 40)).stamp], .bool true]) ?_ rfl ⟨_, rfl, ?_, ?_, ?_⟩
    · simp [results, Try.results15, go_sem, cF]
    · rw [hop]; exact hp1.keep hK (by simp; omega) hty
    · rw [hop]; exact hra.off hK hty
    · exact (hkw.nil_to.next hkV (by intro x hx; simp at hx ⊢; omega)).next hK (by simp; omega)
end Go.Proofs.Ytfehjkhbjbcliaa
