import Derived.Test.YtlghbnoiakeibaaR1
set_option linter.unusedVariables false
set_option linter.unusedSimpArgs false
namespace Go.Proofs.Ytlghbnoiakeibaa
open Go.RowKit
theorem info43 : (Try.prog.info? 43).map (fun i => (i.zero, i.size, i.bytes)) = some (some (.agg #[.int .i64 0, .int .i64 0, .int .i64 0]), 3, 24) := by kernel_rfl
theorem cells3_snoc (l : List Rule) (k : Nat) (h : k < l.length) : cells3 (l.take k) ++ [.int .i64 l[k].1, .int .i64 l[k].2.1, .int .i64 l[k].2.2] = cells3 (l.take (k + 1)) := by
  unfold cells3
  rw [List.take_succ_eq_append_getElem h, List.flatMap_append]; simp
theorem Row.ext {w : World} {e size n n' : Nat} {v : Value} {xs xs' : List Value} (h : Row w e size v n xs) (hn : n = n') (hx : xs = xs') : Row w e size v n' xs' := by subst hn hx; exact h
def OfPost (w : World) (l : List Rule) (e : Ending) (w' : World) : Prop := ∃ v', e = .returned v' ∧ Sees w' 3 v' l.length (cells3 l) ∧ Kp [] w w'
theorem Of_calls (w : World) (v : Value) (l : List Rule) (hs : Sees w 3 v l.length (cells3 l)) (h70 : l.length ≤ 70) :
    Calls Try.prog 11 #[v] w (OfPost w l) := by
  obtain ⟨A, c, rfl⟩ := hs.shape
  have hn := hs.2.1
  unfold maxLen at hn
  go_enter Try.func11, Try.ntmps11
  go_wp2_with fail
  go_loopw [8, 3] (fun i u wr => ∃ k : Nat, k ≤ l.length ∧ i = .int .i64 k ∧ Kp [] w wr ∧ Row wr 43 3 u k (cells3 (l.take k)) ∧ ∀ b ∈ u.ownBlock, w.heap.size ≤ b) (fun i _ _ => l.length - (intOf i).toNat)
  case atStart => exact ⟨0, Nat.zero_le _, rfl, Kp.refl _ _, Row.nil _ _ _, by simp [Value.ownBlock]⟩
  case round =>
    obtain ⟨k, hk, rfl, hkr, hrow, hub⟩ := hrel
    by_cases hlt : k < l.length
    · obtain ⟨g, o, rfl, hcell⟩ := rule_at (hs.old hkr (by simp)) k hlt
      obtain ⟨cA, cB, cC⟩ := hcell k hlt
      have HSN := Lib.hid (cells3_snoc l k hlt)
      have HL := Lib.hid (show (cells3 (l.take k)).length = k * 3 by rw [cells3_len]; simp; omega)
      clear hcell
      generalize l[k] = x at *
      obtain ⟨e, lv, d⟩ := x
      simp only at cA cB cC HSN
      have hrow2 := (hrow.alloc (.cells #[.int .i64 e, .int .i64 lv, .int .i64 d] 46)).alloc (.cells #[.int .i64 e, .int .i64 lv, .int .i64 d] 43)
      generalize cells3 (l.take k) = xs at *
      go_wp2_with (at_builtin; refine wpl_app (xs := xs) (news := [.int .i64 e, .int .i64 lv, .int .i64 d]) rfl rfl Try.underlying30 info43 rfl (by decide) rfl rfl hrow2 ((Row.made' #[.int .i64 e, .int .i64 lv, .int .i64 d] 1 (by simp) rfl (by decide)).sees) (by simp [Value.oneCell']) (by omega) (by unfold maxLen; omega) ?_)
      intro v' w' hrow' hk' hb'
      have hkw : Kp [] w w' := ((hkr.alloc (.cells #[.int .i64 e, .int .i64 lv, .int .i64 d] 46)).alloc (.cells #[.int .i64 e, .int .i64 lv, .int .i64 d] 43)).next hk' (fun i hi => .inr (hub i (by simpa using hi)))
      go_wp2
      go_roundw
      case rel =>
        refine ⟨k + 1, by omega, by go_num, hkw, hrow'.ext rfl HSN.out, fun b hb => ?_⟩
        have h1 := hkr.size
        rcases hb' b hb with h | h
        · exact hub b h
        · have h2 : wr.heap.size ≤ b := by first | (simp at h; omega) | omega
          omega
      case measure => simp [intOf]; omega
    · obtain rfl : k = l.length := by omega
      rw [List.take_length] at hrow
      go_wp2
      go_ret
      exact ⟨_, rfl, hrow.sees, hkr⟩
end Go.Proofs.Ytlghbnoiakeibaa
