import Derived.Test.YtlghbnoiakeibaaS3
set_option linter.unusedVariables false
set_option linter.unusedSimpArgs false
namespace Go.Proofs.Ytlghbnoiakeibaa
open Go.RowKit
theorem decide_calls (w : World) (b : Nat) (m : Bool) (f c : Int → Int → Option Int) (n k : Nat) (h : MonAt w b m f c n k) (p e : Int) (he : (Lit.int .i64 e).wf = true) :
    Calls Try.prog 24 #[.pointer (some ⟨b, 0, none⟩), .int .i64 p, .int .i64 e] w fun r w' => r = .returned (.agg #[.int .i64 (doneB m f p e).1, .int .i64 (doneB m f p e).2]) ∧ Kp [] w w' := by
  have h' := h
  obtain ⟨r, q, hb, h1, h2, h3⟩ := h'
  have c0 := blk_cell hb
  have lb := blk_lt hb
  have lb1 : b < w.heap.size + 1 := by omega
  have lb2 : b < w.heap.size + 1 + 1 := by omega
  clear h1 h2 h3
  have HR : Hid (∀ V l, Kp [] w V → (Lit.int .i64 l).wf = true → Calls Try.prog 34 #[.pointer (some ⟨b, 0, none⟩), .int .i64 e, .int .i64 l] V fun r w' => r = .returned (.tuple #[.agg #[.int .i64 l, .int .i64 ((f e l).getD 0)], .bool (f e l).isSome]) ∧ Kp [] V w') :=
    Lib.hid fun V l hV hl => rule_calls V b m f c n k (h.keep hV (by simp)) e l he hl
  go_enter Try.func24, Try.ntmps24
  cases m
  · by_cases hp : p = -1
    · subst hp
      go_wp2_with fail
      obtain ⟨W0, hW0⟩ : ∃ V, V = ((((w.alloc (.cells #[.int .i64 0, .int .i64 0] 36)).alloc (.cells #[.int .i64 0, .int .i64 1] 3)).alloc (.cells #[.int .i64 1, .int .i64 6] 36)).alloc (.cells #[.int .i64 1] 3)) := ⟨_, rfl⟩
      have hK0 : Kp [] w W0 := by rw [hW0]; exact ((((Kp.refl [] w).alloc _).alloc _).alloc _).alloc _
      have h6 : W0.heap[w.heap.size]? = some (.cells #[.int .i64 0, .int .i64 0] 36) := by rw [hW0]; exact (((Kp.refl [] _).alloc _).alloc _ |>.alloc _).heap (blk_new w _) (by simp)
      have h8 : W0.heap[w.heap.size + 1 + 1]? = some (.cells #[.int .i64 1, .int .i64 6] 36) := by
        rw [hW0]
        refine ((Kp.refl [] _).alloc _).heap ?_ (by simp)
        have := blk_new ((w.alloc (.cells #[.int .i64 0, .int .i64 0] 36)).alloc (.cells #[.int .i64 0, .int .i64 1] 3)) (.cells #[.int .i64 1, .int .i64 6] 36)
        simpa using this
      have hL : W0.heap[w.heap.size + 1 + 1 + 1]? = some (.cells #[.int .i64 1] 3) := by
        rw [hW0]
        have := blk_new (((w.alloc (.cells #[.int .i64 0, .int .i64 0] 36)).alloc (.cells #[.int .i64 0, .int .i64 1] 3)).alloc (.cells #[.int .i64 1, .int .i64 6] 36)) (.cells #[.int .i64 1] 3)
        simpa using this
      rw [← hW0]
      clear hW0
      go_loopw [29] (fun i wr => ∃ k : Nat, k ≤ 1 ∧ i = .int .i64 k ∧ Kp [] W0 wr ∧ (k = 1 → f e 1 = none)) (fun i _ => 1 - (intOf i).toNat)
      case atStart => exact ⟨0, by omega, rfl, Kp.refl _ _, by omega⟩
      case round =>
        obtain ⟨k, hk, rfl, hkr, hno⟩ := hrel
        have h6r := hkr.heap h6 (by simp)
        have h8r := hkr.heap h8 (by simp)
        have hLr := hkr.heap hL (by simp)
        have c6 := blk_cell h6r
        have c8 := blk_cell h8r
        have cL := blk_cell hLr
        have f6 := blk_free h6r
        have hkw := hK0.trans hkr
        obtain rfl | rfl : k = 0 ∨ k = 1 := by omega
        · go_wp2_with fail
          refine (HR.out _ 1 hkw (by decide)).mono ?_
          rintro e1 w2 ⟨he1, hk2⟩
          have h62 := hk2.heap h6r (by simp)
          have c62 := blk_cell h62
          have f62 := blk_free h62
          have l62 := blk_lt h62
          have hk02 := hkw.trans hk2
          cases hf : f e 1 with
          | none =>
            rw [hf] at he1
            subst he1
            go_wp2
            go_roundw
            case rel => exact ⟨1, by omega, by go_num, (hkr.trans hk2).alloc _, fun _ => hf⟩
            case measure => simp [intOf]
          | some d =>
            rw [hf] at he1
            subst he1
            go_wp2
            have cF := blk_cell (((Kp.refl [] _).alloc (.cells #[.int .i64 1, .int .i64 d] 36)).heap (blk_set (blk_set h62 0 (.int .i64 1)) 1 (.int .i64 d)) (by simp))
            refine bodyPost_ret (v := .agg #[.int .i64 1, .int .i64 d]) ?_ rfl ⟨by simp [doneB, hf], ((hk02.setCell (.inr (Nat.le_refl _)) _).setCell (.inr (Nat.le_refl _)) _).alloc _⟩
            simp [results, Try.results24, go_sem, cF]
        · have hf := hno rfl
          go_wp2
          have cF := blk_cell (blk_set (blk_set h6r 0 (.int .i64 1)) 1 (.int .i64 6))
          refine bodyPost_ret (v := .agg #[.int .i64 1, .int .i64 6]) ?_ rfl ⟨by simp [doneB, hf], (hkw.setCell (.inr (Nat.le_refl _)) _).setCell (.inr (Nat.le_refl _)) _⟩
          simp [results, Try.results24, go_sem, cF]
    · have hp' : (p == -1) = false := by simpa using hp
      go_wp2_with fail
      obtain ⟨W0, hW0⟩ : ∃ V, V = (((w.alloc (.cells #[.int .i64 0, .int .i64 0] 36)).alloc (.cells #[.int .i64 0, .int .i64 1] 3)).alloc (.cells #[.int .i64 0, .int .i64 2] 36)) := ⟨_, rfl⟩
      have hK0 : Kp [] w W0 := by rw [hW0]; exact (((Kp.refl [] w).alloc _).alloc _).alloc _
      have h6 : W0.heap[w.heap.size]? = some (.cells #[.int .i64 0, .int .i64 0] 36) := by rw [hW0]; exact (((Kp.refl [] _).alloc _).alloc _).heap (blk_new w _) (by simp)
      have h8 : W0.heap[w.heap.size + 1 + 1]? = some (.cells #[.int .i64 0, .int .i64 2] 36) := by
        rw [hW0]
        have := blk_new ((w.alloc (.cells #[.int .i64 0, .int .i64 0] 36)).alloc (.cells #[.int .i64 0, .int .i64 1] 3)) (.cells #[.int .i64 0, .int .i64 2] 36)
        simpa using this
      have hL : W0.heap[w.heap.size + 1]? = some (.cells #[.int .i64 0, .int .i64 1] 3) := by
        rw [hW0]
        refine ((Kp.refl [] _).alloc _).heap ?_ (by simp)
        have := blk_new (w.alloc (.cells #[.int .i64 0, .int .i64 0] 36)) (.cells #[.int .i64 0, .int .i64 1] 3)
        simpa using this
      rw [← hW0]
      clear hW0
      go_loopw [29] (fun i wr => ∃ k : Nat, k ≤ 2 ∧ i = .int .i64 k ∧ Kp [] W0 wr ∧ (1 ≤ k → f e 0 = none) ∧ (k = 2 → f e 1 = none)) (fun i _ => 2 - (intOf i).toNat)
      case atStart => exact ⟨0, by omega, rfl, Kp.refl _ _, by omega, by omega⟩
      case round =>
        obtain ⟨k, hk, rfl, hkr, hno0, hno⟩ := hrel
        have h6r := hkr.heap h6 (by simp)
        have h8r := hkr.heap h8 (by simp)
        have hLr := hkr.heap hL (by simp)
        have c6 := blk_cell h6r
        have c8 := blk_cell h8r
        have cL := blk_cell hLr
        have f6 := blk_free h6r
        have hkw := hK0.trans hkr
        obtain rfl | rfl | rfl : k = 0 ∨ k = 1 ∨ k = 2 := by omega
        · go_wp2_with fail
          refine (HR.out _ 0 hkw (by decide)).mono ?_
          rintro e1 w2 ⟨he1, hk2⟩
          have h62 := hk2.heap h6r (by simp)
          have c62 := blk_cell h62
          have f62 := blk_free h62
          have l62 := blk_lt h62
          have hk02 := hkw.trans hk2
          cases hf : f e 0 with
          | none =>
            rw [hf] at he1
            subst he1
            go_wp2
            go_roundw
            case rel => exact ⟨1, by omega, by go_num, (hkr.trans hk2).alloc _, fun _ => hf, by omega⟩
            case measure => simp [intOf]
          | some d =>
            rw [hf] at he1
            subst he1
            go_wp2
            have cF := blk_cell (((Kp.refl [] _).alloc (.cells #[.int .i64 0, .int .i64 d] 36)).heap (blk_set (blk_set h62 0 (.int .i64 0)) 1 (.int .i64 d)) (by simp))
            refine bodyPost_ret (v := .agg #[.int .i64 0, .int .i64 d]) ?_ rfl ⟨by simp [doneB, hf, hp], ((hk02.setCell (.inr (Nat.le_refl _)) _).setCell (.inr (Nat.le_refl _)) _).alloc _⟩
            simp [results, Try.results24, go_sem, cF]
        · go_wp2_with fail
          refine (HR.out _ 1 hkw (by decide)).mono ?_
          rintro e1 w2 ⟨he1, hk2⟩
          have h62 := hk2.heap h6r (by simp)
          have c62 := blk_cell h62
          have f62 := blk_free h62
          have l62 := blk_lt h62
          have hk02 := hkw.trans hk2
          cases hf : f e 1 with
          | none =>
            rw [hf] at he1
            subst he1
            go_wp2
            go_roundw
            case rel => exact ⟨2, by omega, by go_num, (hkr.trans hk2).alloc _, fun _ => hno0 (by omega), fun _ => hf⟩
            case measure => simp [intOf]
          | some d =>
            rw [hf] at he1
            subst he1
            go_wp2
            have cF := blk_cell (((Kp.refl [] _).alloc (.cells #[.int .i64 1, .int .i64 d] 36)).heap (blk_set (blk_set h62 0 (.int .i64 1)) 1 (.int .i64 d)) (by simp))
            refine bodyPost_ret (v := .agg #[.int .i64 1, .int .i64 d]) ?_ rfl ⟨by simp [doneB, hf, hp, hno0 (by omega)], ((hk02.setCell (.inr (Nat.le_refl _)) _).setCell (.inr (Nat.le_refl _)) _).alloc _⟩
            simp [results, Try.results24, go_sem, cF]
        · have hf := hno rfl
          have hf0 := hno0 (by omega)
          go_wp2
          have cF := blk_cell (blk_set (blk_set h6r 0 (.int .i64 0)) 1 (.int .i64 2))
          refine bodyPost_ret (v := .agg #[.int .i64 0, .int .i64 2]) ?_ rfl ⟨by simp [doneB, hf, hf0, hp], (hkw.setCell (.inr (Nat.le_refl _)) _).setCell (.inr (Nat.le_refl _)) _⟩
          simp [results, Try.results24, go_sem, cF]
  · go_wp2_with fail
    obtain ⟨W0, hW0⟩ : ∃ V, V = ((((w.alloc (.cells #[.int .i64 0, .int .i64 0] 36)).alloc (.cells #[.int .i64 0, .int .i64 1] 3)).alloc (.cells #[.int .i64 2, .int .i64 1] 36)).alloc (.cells #[.int .i64 2] 3)) := ⟨_, rfl⟩
    have hK0 : Kp [] w W0 := by rw [hW0]; exact ((((Kp.refl [] w).alloc _).alloc _).alloc _).alloc _
    have h6 : W0.heap[w.heap.size]? = some (.cells #[.int .i64 0, .int .i64 0] 36) := by rw [hW0]; exact (((Kp.refl [] _).alloc _).alloc _ |>.alloc _).heap (blk_new w _) (by simp)
    have h8 : W0.heap[w.heap.size + 1 + 1]? = some (.cells #[.int .i64 2, .int .i64 1] 36) := by
      rw [hW0]
      refine ((Kp.refl [] _).alloc _).heap ?_ (by simp)
      have := blk_new ((w.alloc (.cells #[.int .i64 0, .int .i64 0] 36)).alloc (.cells #[.int .i64 0, .int .i64 1] 3)) (.cells #[.int .i64 2, .int .i64 1] 36)
      simpa using this
    have hL : W0.heap[w.heap.size + 1 + 1 + 1]? = some (.cells #[.int .i64 2] 3) := by
      rw [hW0]
      have := blk_new (((w.alloc (.cells #[.int .i64 0, .int .i64 0] 36)).alloc (.cells #[.int .i64 0, .int .i64 1] 3)).alloc (.cells #[.int .i64 2, .int .i64 1] 36)) (.cells #[.int .i64 2] 3)
      simpa using this
    rw [← hW0]
    clear hW0
    go_loopw [29] (fun i wr => ∃ k : Nat, k ≤ 1 ∧ i = .int .i64 k ∧ Kp [] W0 wr ∧ (k = 1 → f e 2 = none)) (fun i _ => 1 - (intOf i).toNat)
    case atStart => exact ⟨0, by omega, rfl, Kp.refl _ _, by omega⟩
    case round =>
      obtain ⟨k, hk, rfl, hkr, hno⟩ := hrel
      have h6r := hkr.heap h6 (by simp)
      have h8r := hkr.heap h8 (by simp)
      have hLr := hkr.heap hL (by simp)
      have c6 := blk_cell h6r
      have c8 := blk_cell h8r
      have cL := blk_cell hLr
      have f6 := blk_free h6r
      have hkw := hK0.trans hkr
      obtain rfl | rfl : k = 0 ∨ k = 1 := by omega
      · go_wp2_with fail
        refine (HR.out _ 2 hkw (by decide)).mono ?_
        rintro e1 w2 ⟨he1, hk2⟩
        have h62 := hk2.heap h6r (by simp)
        have c62 := blk_cell h62
        have f62 := blk_free h62
        have l62 := blk_lt h62
        have hk02 := hkw.trans hk2
        cases hf : f e 2 with
        | none =>
          rw [hf] at he1
          subst he1
          go_wp2
          go_roundw
          case rel => exact ⟨1, by omega, by go_num, (hkr.trans hk2).alloc _, fun _ => hf⟩
          case measure => simp [intOf]
        | some d =>
          rw [hf] at he1
          subst he1
          go_wp2
          have cF := blk_cell (((Kp.refl [] _).alloc (.cells #[.int .i64 2, .int .i64 d] 36)).heap (blk_set (blk_set h62 0 (.int .i64 2)) 1 (.int .i64 d)) (by simp))
          refine bodyPost_ret (v := .agg #[.int .i64 2, .int .i64 d]) ?_ rfl ⟨by simp [doneB, hf], ((hk02.setCell (.inr (Nat.le_refl _)) _).setCell (.inr (Nat.le_refl _)) _).alloc _⟩
          simp [results, Try.results24, go_sem, cF]
      · have hf := hno rfl
        go_wp2
        have cF := blk_cell (blk_set (blk_set h6r 0 (.int .i64 2)) 1 (.int .i64 1))
        refine bodyPost_ret (v := .agg #[.int .i64 2, .int .i64 1]) ?_ rfl ⟨by simp [doneB, hf], (hkw.setCell (.inr (Nat.le_refl _)) _).setCell (.inr (Nat.le_refl _)) _⟩
        simp [results, Try.results24, go_sem, cF]
end Go.Proofs.Ytlghbnoiakeibaa
