/-
  SamplingActs comes to true: whatever is done is answered as the document says.
-/
import Derived.Test.YtfehjkhbjbcliaaO
import Derived.Deep.RegionHeld3
set_option linter.unusedVariables false
set_option linter.unusedSimpArgs false
namespace Go.Proofs.Ytfehjkhbjbcliaa
open Go.RowKit
set_option maxHeartbeats 1000000
/-- The document's port in a variable. -/
def BoxAt (w : World) (b : Nat) (s : PS) : Prop := ∃ v, w.heap[b]? = some (.cells #[.int .i64 s.words, .int .i64 s.refresh, .bool s.has, v, .int .i64 s.stamp] 26) ∧ Row w 37 1 v s.m.length (nums .u32 s.m) ∧ s.m.length ≤ 1000000
theorem BoxAt.keep {S : List Nat} {w w' : World} {b : Nat} {s : PS} (h : BoxAt w b s) (hk : Kp S w w') (hb : b ∉ S) (hS : ∀ x ∈ S, w.heap.size ≤ x ∨ ∃ cs t fr, w.heap[x]? = some (.cells cs t fr) ∧ t ≠ 37) : BoxAt w' b s := by
  obtain ⟨v, h1, h2, h3⟩ := h
  exact ⟨v, hk.heap h1 hb, h2.off hk hS, h3⟩
theorem BoxAt.lt {w : World} {b : Nat} {s : PS} (h : BoxAt w b s) : b < w.heap.size := by obtain ⟨v, h1, _⟩ := h; exact blk_lt h1
theorem BoxAt.ty {w : World} {b : Nat} {s : PS} (h : BoxAt w b s) : w.heap.size ≤ b ∨ ∃ cs t fr, w.heap[b]? = some (.cells cs t fr) ∧ t ≠ 37 := by
  obtain ⟨v, h1, _⟩ := h; exact .inr ⟨_, _, _, h1, by decide⟩
theorem RefAt.box {w : World} {av : Value} {s : PS} (h : RefAt w av s) : ∃ v, av = .agg #[.int .i64 s.words, .int .i64 s.refresh, .bool s.has, v, .int .i64 s.stamp] ∧ BoxAt (w.alloc (.cells #[.int .i64 s.words, .int .i64 s.refresh, .bool s.has, v, .int .i64 s.stamp] 26)) w.heap.size s := by
  obtain ⟨v, rfl, hr, hm⟩ := h
  exact ⟨v, rfl, v, blk_new w _, hr.alloc _, hm⟩
theorem PortAt.ne {w : World} {g bx : Nat} {s t : PS} (h : PortAt w g s) (hb : BoxAt w bx t) : g ≠ bx := by
  obtain ⟨v, h1, _⟩ := h
  obtain ⟨u, h2, _⟩ := hb
  rintro rfl
  rw [h1] at h2
  simp at h2
theorem acts_calls (r q : Int) (v : Value) (W : World) (hv : InOps W v) :
    Calls Try.prog 5 #[.int .i64 r, .int .i64 q, v] W fun e w' => e = .returned (.bool true) ∧ Kp [] W w' := by
  obtain ⟨n, O, M, hs, hel⟩ := hv
  obtain ⟨A, c, rfl⟩ := hs.shape
  have hn := hs.1
  unfold maxLen at hn
  have hpl := hs.place
  go_enter Try.func5, Try.ntmps5
  go_wp2_with fail
  refine (begin_calls r q _).mono ?_
  rintro e w1 ⟨g, av, rfl, hp, hra, hg, hk⟩
  obtain ⟨v0, rfl, hbx⟩ := hra.box
  obtain ⟨A0, k0, rfl⟩ : ∃ A k, v0 = .slice A 0 k := by
    obtain ⟨u, h1, h2, h3⟩ := hbx
    rw [blk_new] at h1
    simp at h1
    subst h1
    exact h2.shape
  have hgl := hp.lt
  go_wp2_with fail
  refine (told_calls _).mono ?_
  rintro e w2 ⟨rfl, hk2⟩
  have hk12 := ((Kp.refl [] w1).alloc _).trans hk2
  have hp := hp.keep hk12 (by simp) (by simp)
  have hbx := hbx.keep hk2 (by simp) (by simp)
  have hkW := hk.trans hk12
  have hok := beg_ok r q
  have hgx := hp.ne hbx
  have hWx : W.heap.size ≤ w1.heap.size := hk.size
  generalize w1.heap.size = bx at *
  clear hk2 hk12 hk hra
  go_wp2
  go_loopw [9] (fun l9 wr => ∃ (k : Nat) (st : PS), k ≤ n ∧ k ≤ 100 ∧ l9 = .int .i64 k ∧ PortAt wr g st ∧ BoxAt wr bx st ∧ PSok st ∧ Kp [g, bx] w2 wr) (fun l9 _ => 100 - (intOf l9).toNat)
  case atStart => exact ⟨0, _, Nat.zero_le _, Nat.zero_le _, rfl, hp, hbx, hok, Kp.refl _ _⟩
  case round =>
    obtain ⟨k, st, hk1, hk100, rfl, hpr, hbr, hokr, hkr⟩ := hrel
    have hkr' : Kp [] W wr := hkW.next hkr (by simp; omega)
    by_cases hlt : k < n ∧ k < 100
    · obtain ⟨hlt1, hlt2⟩ := hlt
      obtain ⟨b, off, rfl, hcell⟩ := hpl k hlt1
      obtain ⟨n', hm'⟩ := hel k hlt1
      have hbr0 := hbr
      obtain ⟨u, hub, hur, hum⟩ := hbr
      obtain ⟨A1, k1, rfl⟩ := hur.shape
      obtain ⟨A2, k2, hM⟩ := hm'.shape
      rw [hM] at hm' hcell
      have hx0 := hkr'.cell (hcell 0 _ rfl) (by simp)
      have hx1 := hkr'.cell (hcell 1 _ rfl) (by simp)
      have hx2 := hkr'.cell (hcell 2 _ rfl) (by simp)
      have hbW : b < W.heap.size := World.block_lt_of_cell? W _ (hcell 0 _ rfl)
      have cb := blk_cell hub
      have HC := Lib.hid hcell
      have HM := Lib.hid hM
      clear hcell hM hel hpl
      have HS : Hid (∀ V, Kp [g] wr V → Kp [g] wr V ∧ (∀ i, V.cell? ⟨bx, i, none⟩ = wr.cell? ⟨bx, i, none⟩) ∧ V.cell? ⟨b, off + k * 3, none⟩ = some (.int .i64 (O k).kind) ∧ V.cell? ⟨b, off + k * 3 + 1, none⟩ = some (.int .i64 (O k).now) ∧ V.cell? ⟨b, off + k * 3 + 2, none⟩ = some (.slice A2 n' k2)) :=
        Lib.hid fun V hV => ⟨hV, fun i => by rw [blk_cell (hV.heap hub (by simp; omega)), cb], hV.cell hx0 (by simp; omega), hV.cell hx1 (by simp; omega), hV.cell hx2 (by simp; omega)⟩
      have HD : Hid (∀ V, Kp [] wr V → Calls Try.prog 15 #[.pointer (some ⟨g, 0, none⟩), .agg #[.int .i64 st.words, .int .i64 st.refresh, .bool st.has, .slice A1 st.m.length k1, .int .i64 st.stamp], .agg #[.int .i64 (O k).kind, .int .i64 (O k).now, .slice A2 n' k2]] V fun e w' => ∃ av, e = .returned (.tuple #[av, .bool true]) ∧ PortAt w' g (opS st (O k)) ∧ RefAt w' av (opS st (O k)) ∧ Kp [g] wr w' ∧ Kp [g] V w') := by
        refine Lib.hid fun V hV => (do_calls V g _ st (O k) _ n' (hpr.keep hV (by simp) (by simp)) ⟨_, rfl, hur.keep hV (by simp), hum⟩ hokr (hm'.keep (hkr'.trans hV) (by simp))).mono ?_
        rintro e w' ⟨av, he, h1, h2, h3⟩
        exact ⟨av, he, h1, h2, (hV.nil_to).trans h3, h3⟩
      have hok' := opS_ok st (O k) hokr
      generalize opS st (O k) = st' at *
      have hgr := hpr.lt
      go_upto_region 7 with fail
      go_cut [10, 11] (fun s10 s11 V => ∃ g10, s10 = .pointer (some ⟨g10, 0, none⟩) ∧ s11 = .bool true ∧ wr.heap.size ≤ g10 ∧ BoxAt V g10 st' ∧ PortAt V g st' ∧ Kp [g] wr V)
      case first =>
        go_region_held3 (fun V => Kp [g] wr V ∧ (∀ i, V.cell? ⟨bx, i, none⟩ = wr.cell? ⟨bx, i, none⟩) ∧ V.cell? ⟨b, off + k * 3, none⟩ = some (.int .i64 (O k).kind) ∧ V.cell? ⟨b, off + k * 3 + 1, none⟩ = some (.int .i64 (O k).now) ∧ V.cell? ⟨b, off + k * 3 + 2, none⟩ = some (.slice A2 n' k2)) ((refine HS.out _ ?_; repeat (with_reducible first | assumption | apply Kp.refl | apply Kp.drew | apply Kp.alloc | (refine Kp.setCell ?_ (.inr (Nat.le_refl _)) _)))) (first | (go_at_call 15; refine (HD.out _ ?_).mono ?_; (repeat (with_reducible first | apply Kp.refl | apply Kp.drew | apply Kp.alloc)); rintro e V1 ⟨av1, rfl, hp1, ⟨v2, rfl, hr2, hm2⟩, hk2, hkV⟩; obtain ⟨A3, k3, rfl⟩ := hr2.shape; try (have b8 := hkV.heap (blk_new _ _) (by simp; omega); have c8 := blk_cell b8; have f8 := blk_free b8; have l8 := blk_lt b8)))
        all_goals (go_wp2_with fail; go_meet)
        all_goals first
          | exact ⟨_, rfl, rfl, hk2.size, ⟨_, blk_new _ _, hr2.alloc _, hm2⟩, hp1.keep ((Kp.refl [] _).alloc _) (by simp) (by simp), hk2.alloc _⟩
          | exact ⟨_, rfl, rfl, Nat.le_refl _, ⟨_, blk_set5 b8 _ _ _ _ _, hr2.put5 (hr2.ne b8 (by decide)) _ _ _ _ _, hm2⟩, hp1.keep (S := [wr.heap.size]) ((Kp.refl _ _).set5 (by simp) _ _ _ _ _) (by simp; omega) (by intro x hx; simp only [List.mem_singleton] at hx; subst hx; exact .inr ⟨_, _, _, b8, by decide⟩), hk2.set5 (.inr (Nat.le_refl _)) _ _ _ _ _⟩
      case rest =>
        obtain ⟨g10, rfl, rfl, hg10, hb10, hp1, hk3⟩ := hcut
        clear HS HD
        obtain ⟨v3, hb3, hr3, hm3⟩ := hb10
        obtain ⟨A3, k3, rfl⟩ := hr3.shape
        have hub' := hk3.heap hub (by simp; omega)
        have c3 := blk_cell hb3
        have cx := blk_cell hub'
        have fx := blk_free hub'
        have lx := blk_lt hub'
        have lxr := blk_lt hub
        clear cb hx0 hx1 hx2
        go_wp2_with fail
        have hK : Kp [bx] wc (((((wc.setCell ⟨bx, 0, none⟩ (.int .i64 st'.words)).setCell ⟨bx, 1, none⟩ (.int .i64 st'.refresh)).setCell ⟨bx, 2, none⟩ (.bool st'.has)).setCell ⟨bx, 3, none⟩ (.slice A3 st'.m.length k3)).setCell ⟨bx, 4, none⟩ (.int .i64 st'.stamp)) := (Kp.refl _ _).set5 (by simp) _ _ _ _ _
        have hty : ∀ x ∈ [bx], wc.heap.size ≤ x ∨ ∃ cs t fr, wc.heap[x]? = some (.cells cs t fr) ∧ t ≠ 37 := by
          intro x hx; simp only [List.mem_singleton] at hx; subst hx; exact .inr ⟨_, _, _, hub', by decide⟩
        have hp2 := hp1.keep hK (by simp; omega) hty
        have hr4 := hr3.off hK hty
        refine (stamped_calls _ g _ st' hp2 ⟨_, rfl, hr4, hm3⟩ hok').mono ?_
        rintro e w5 ⟨rfl, hk5⟩
        go_wp2
        go_roundw
        case rel => exact ⟨k + 1, st', by omega, by omega, by go_num, hp2.keep hk5 (by simp) (by simp), ⟨_, hk5.heap (blk_set5 hub' _ _ _ _ _) (by simp), hr4.keep hk5 (by simp), hm3⟩, hok', ((hkr.trans (hk3.mono (by simp))).trans (hK.mono (by simp))).trans hk5.nil_to⟩
        case measure => simp [intOf]; omega
    · go_wp2
      all_goals
        go_ret
        exact ⟨rfl, hkr'⟩
theorem acts_law (v0 v1 v2 : Value) (W : World) (h0 : InInt .i64 v0) (h1 : InInt .i64 v1) (h2 : InOps W v2) : Calls Try.prog 5 #[v0, v1, v2] W fun e w' => e = .returned (.bool true) ∧ Kp [] W w' := by
  obtain ⟨a, rfl, _⟩ := h0
  obtain ⟨b, rfl, _⟩ := h1
  exact acts_calls a b v2 W h2
end Go.Proofs.Ytfehjkhbjbcliaa
