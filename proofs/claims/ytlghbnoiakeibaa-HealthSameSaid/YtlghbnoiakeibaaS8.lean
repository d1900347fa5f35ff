import Derived.Test.YtlghbnoiakeibaaS7
set_option linter.unusedVariables false
set_option linter.unusedSimpArgs false
namespace Go.Proofs.Ytlghbnoiakeibaa
open Go.RowKit
theorem speaks_calls (w : World) : Calls Try.prog 8 #[] w fun e w' => e = .returned (.bool true) ∧ Kp [] w w' := by
  have hN : newI false [(14, 0, 3), (13, 1, 5)] = 0 := by decide
  have t1 : toldB false (rulesOf (fun _ _ => none) [(14, 0, 3), (13, 1, 5)]) 3 14 = (0, 3) := by decide
  have t2 : toldB false (rulesOf (fun _ _ => none) [(14, 0, 3), (13, 1, 5)]) 3 13 = (1, 5) := by decide
  have t3 : toldB false (rulesOf (fun _ _ => none) [(14, 0, 3), (13, 1, 5)]) 3 12 = (0, 2) := by decide
  have t4 : toldB false (rulesOf (fun _ _ => none) [(14, 0, 3), (13, 1, 5)]) (-1) 12 = (1, 6) := by decide
  have HN := Lib.hid hN
  have T1 := Lib.hid t1
  have T2 := Lib.hid t2
  have T3 := Lib.hid t3
  have T4 := Lib.hid t4
  clear hN t1 t2 t3 t4
  go_enter Try.func8, Try.ntmps8
  go_wp2_with fail
  refine (New_calls _ _ [(14, 0, 3), (13, 1, 5)] false ((Row.made #[.int .i64 14, .int .i64 0, .int .i64 3, .int .i64 13, .int .i64 1, .int .i64 5] 2 rfl (by decide)).sees) (by simp [Rule.wf, Lit.wf, IntKind.min, IntKind.max]; decide)).mono ?_
  rintro e1 w1 ⟨hk1, -, h1⟩
  obtain ⟨b, r, q, rfl, hM, hb, hr, hq⟩ := h1 HN.out
  have hk1 := ((Kp.refl [] w).alloc _).trans hk1
  simp at hb hr hq
  generalize rulesOf (fun _ _ => none) [(14, 0, 3), (13, 1, 5)] = F at *
  generalize (fun (_ _ : Int) => (none : Option Int)) = C at *
  go_wp2_with fail
  refine (Decide_calls w1 b r q false F _ _ _ hM (by decide) 3 14 (by decide) (by decide)).mono ?_
  rintro e2 w2 ⟨rfl, hM, hk2⟩
  rw [T1.out]
  go_wp2_with fail
  refine (Decide_calls _ b r q false F _ _ _ hM (by decide) 3 13 (by decide) (by decide)).mono ?_
  rintro e3 w3 ⟨rfl, hM, hk3⟩
  rw [T2.out]
  go_wp2_with fail
  refine (Decide_calls _ b r q false F _ _ _ hM (by decide) 3 12 (by decide) (by decide)).mono ?_
  rintro e4 w4 ⟨rfl, hM, hk4⟩
  rw [T3.out]
  go_wp2_with fail
  refine (Decide_calls _ b r q false F _ _ _ hM (by decide) (-1) 12 (by decide) (by decide)).mono ?_
  rintro e5 w5 ⟨rfl, hM, hk5⟩
  rw [T4.out]
  go_wp2_with fail
  go_ret
  exact ⟨rfl, hk1.next (((hk2.trans hk3).trans hk4).trans hk5) (by simp; omega)⟩
end Go.Proofs.Ytlghbnoiakeibaa
