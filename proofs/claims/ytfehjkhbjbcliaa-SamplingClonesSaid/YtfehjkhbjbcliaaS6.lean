/-
  What begin comes to: a port and the document's.
-/
import Derived.Test.YtfehjkhbjbcliaaS5
namespace Go.Proofs.Ytfehjkhbjbcliaa
open Go.RowKit
set_option maxHeartbeats 400000
theorem u64_mod (a : Int) : IntKind.u64.wrap a = a % 18446744073709551616 := by simp [IntKind.wrap, IntKind.bits, IntKind.signed]
theorem rem64 (a : Int) (m : Int) (h0 : 0 < m) (h1 : m ≤ 9223372036854775807) : wrap64 ((IntKind.u64.wrap a).tmod m) = (a % 18446744073709551616) % m ∧ 0 ≤ (a % 18446744073709551616) % m ∧ (a % 18446744073709551616) % m < m := by
  rw [u64_mod]
  have h2 : 0 ≤ a % 18446744073709551616 := Int.emod_nonneg _ (by decide)
  rw [Int.tmod_eq_emod_of_nonneg h2]
  generalize a % 18446744073709551616 = x at h2
  have h3 := Int.emod_nonneg x (show m ≠ 0 by omega)
  have h4 := Int.emod_lt_of_pos x h0
  refine ⟨?_, h3, h4⟩
  unfold wrap64
  omega
theorem PortAt.keep {S : List Nat} {w w' : World} {b : Nat} {s : PS} (h : PortAt w b s) (hk : Kp S w w') (hb : b ∉ S) (hS : ∀ x ∈ S, w.heap.size ≤ x ∨ ∃ cs t fr, w.heap[x]? = some (.cells cs t fr) ∧ t ≠ 37) : PortAt w' b s := by
  obtain ⟨v, h1, h2, h3⟩ := h
  exact ⟨v, hk.heap h1 hb, h2.off hk hS, h3⟩
theorem PortAt.lt {w : World} {b : Nat} {s : PS} (h : PortAt w b s) : b < w.heap.size := by obtain ⟨v, h1, _⟩ := h; exact blk_lt h1
theorem PortAt.ty {w : World} {b : Nat} {s : PS} (h : PortAt w b s) : w.heap.size ≤ b ∨ ∃ cs t fr, w.heap[b]? = some (.cells cs t fr) ∧ t ≠ 37 := by
  obtain ⟨v, h1, _⟩ := h; exact .inr ⟨_, _, _, h1, by decide⟩
theorem RefAt.off {S : List Nat} {w w' : World} {av : Value} {s : PS} (h : RefAt w av s) (hk : Kp S w w') (hS : ∀ x ∈ S, w.heap.size ≤ x ∨ ∃ cs t fr, w.heap[x]? = some (.cells cs t fr) ∧ t ≠ 37) : RefAt w' av s := by
  obtain ⟨v, rfl, hr, hm⟩ := h
  exact ⟨v, rfl, hr.off hk hS, hm⟩
def begW (a : Int) : Int := wrap64 (1 + wrap64 ((IntKind.u64.wrap a).tmod 32))
def begR (b : Int) : Int := wrap64 ((IntKind.u64.wrap b).tmod 1048577)
theorem begW_eq (a : Int) : begW a = 1 + (a % 18446744073709551616) % 32 ∧ 1 ≤ begW a ∧ begW a ≤ 32 := by
  obtain ⟨h1, h2, h3⟩ := rem64 a 32 (by decide) (by decide)
  have : begW a = 1 + (a % 18446744073709551616) % 32 := by unfold begW; rw [h1]; unfold wrap64; omega
  exact ⟨this, by omega, by omega⟩
theorem begR_eq (a : Int) : 0 ≤ begR a ∧ begR a ≤ 1048576 := by
  obtain ⟨h1, h2, h3⟩ := rem64 a 1048577 (by decide) (by decide)
  unfold begR
  rw [h1]
  omega
def beg (a b : Int) : PS := ⟨begW a, begR b, [], 0, false⟩
theorem beg_ok (a b : Int) : PSok (beg a b) := ⟨(begW_eq a).2.1, (begW_eq a).2.2, (begR_eq b).1, (begR_eq b).2, by simp [beg], by simp [beg], by simp [beg]⟩
theorem begin_calls (a b : Int) (w : World) :
    Calls Try.prog 9 #[.int .i64 a, .int .i64 b] w fun e w' => ∃ g av, e = .returned (.tuple #[.pointer (some ⟨g, 0, none⟩), av]) ∧ PortAt w' g (beg a b) ∧ RefAt w' av (beg a b) ∧ w.heap.size ≤ g ∧ Kp [] w w' := by
  have hW : Hid (1 ≤ begW a ∧ begW a ≤ 32) := Lib.hid (begW_eq a).2
  have hR : Hid (0 ≤ begR b ∧ begR b ≤ 1048576) := Lib.hid (begR_eq b)
  go_enter Try.func9, Try.ntmps9
  go_wp2_with fail
  refine (new_ok (begW a) (begR b) _ hW.out.1 hW.out.2 hR.out.1 hR.out.2).mono ?_
  rintro e w1 ⟨g, rfl, hp, hg, hk⟩
  have hb1 := hk.heap (blk_new w _) (by simp)
  have c1 := blk_cell hb1
  have f1 := blk_free hb1
  have l1 := blk_lt hb1
  go_wp2
  have hK : Kp [w.heap.size] w1 (((((w1.setCell ⟨w.heap.size, 0, none⟩ (.int .i64 (begW a))).setCell ⟨w.heap.size, 1, none⟩ (.int .i64 (begR b))).setCell ⟨w.heap.size, 2, none⟩ (.bool false)).setCell ⟨w.heap.size, 3, none⟩ (.slice none 0 0)).setCell ⟨w.heap.size, 4, none⟩ (.int .i64 0)) :=
    (((((Kp.refl _ _).setCell (by simp) _).setCell (by simp) _).setCell (by simp) _).setCell (by simp) _).setCell (by simp) _
  have cF := blk_cell (blk_set (blk_set (blk_set (blk_set (blk_set hb1 0 (.int .i64 (begW a))) 1 (.int .i64 (begR b))) 2 (.bool false)) 3 (.slice none 0 0)) 4 (.int .i64 0))
  refine bodyPost_ret (v := .tuple #[.pointer (some ⟨g, 0, none⟩), .agg #[.int .i64 (begW a), .int .i64 (begR b), .bool false, .slice none 0 0, .int .i64 0]]) ?_ rfl ⟨g, _, rfl, hp.keep hK ?_ ?_, ⟨_, rfl, Row.nil _ _ _, by simp [beg]⟩, ?_, ?_⟩
  · unfold begW begR at cF
    simp [results, Try.results9, go_sem, cF, begW, begR]
  · simp at hg ⊢; omega
  · intro x hx
    simp only [List.mem_singleton] at hx
    subst hx
    exact .inr ⟨_, _, _, hb1, by decide⟩
  · simp at hg; omega
  · exact (((Kp.refl [] w).alloc _).trans hk).next hK (by simp)
end Go.Proofs.Ytfehjkhbjbcliaa
