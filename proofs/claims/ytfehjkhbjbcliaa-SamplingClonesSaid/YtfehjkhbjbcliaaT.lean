/-
  told comes to true: the example of the chapter.
-/
import Derived.Test.YtfehjkhbjbcliaaS9
namespace Go.Proofs.Ytfehjkhbjbcliaa
open Go.RowKit
set_option maxHeartbeats 1000000
theorem told_calls (w : World) : Calls Try.prog 10 #[] w fun e w' => e = .returned (.bool true) ∧ Kp [] w w' := by
  go_enter Try.func10, Try.ntmps10
  go_wp2_with fail
  refine (new_ok 2 5 _ (by decide) (by decide) (by decide) (by decide)).mono ?_
  rintro e w1 ⟨g, rfl, hp, hg, hk⟩
  have hgl := hp.lt
  go_wp2_with fail
  have hs : Sees (w1.alloc (.cells #[.int .u32 7, .int .u32 8] 37)) 1 (.slice (some ⟨w1.heap.size, 0, none⟩) 2 2) 2 (nums .u32 [7, 8]) := (Row.made #[.int .u32 7, .int .u32 8] 2 rfl (by decide)).sees
  have hka := (Kp.refl [] w1).alloc (.cells #[.int .u32 7, .int .u32 8] 37)
  refine (write_calls _ g _ 10 _ _ _ (hp.keep hka (by simp) (by simp)) hs (by decide)).mono ?_
  rintro e w2 ⟨he, hp2, hk2⟩
  have he : e = .returned (.int .i64 0) := he
  subst he
  have hp2 : PortAt w2 g ⟨2, 5, [7, 8], 10, true⟩ := hp2
  have hk12 : Kp [g] w1 w2 := hka.nil_to.trans hk2
  have hkw2 : Kp [] w w2 := hk.next hk12 (by simp; omega)
  have ho : PSok ⟨2, 5, [7, 8], 10, true⟩ := ⟨by decide, by decide, by decide, by decide, by decide, by decide, by decide⟩
  clear hp hs
  go_wp2_with fail
  refine (read_calls w2 g _ 15 hp2 ho).mono ?_
  rintro e w3 ⟨m3, he, hr3, hk3, hf3⟩
  have he : e = .returned (.tuple #[m3, .bool true, .int .i64 0]) := he
  subst he
  have hr3 : Row w3 37 1 m3 2 (nums .u32 [7, 8]) := hr3
  go_wp2_with fail
  refine (read_calls w3 g _ 16 (hp2.keep hk3 (by simp) (by simp)) ho).mono ?_
  rintro e w4 ⟨m4, he, hr4, hk4, hf4⟩
  have he : e = .returned (.tuple #[m4, .bool false, .int .i64 0]) := he
  subst he
  clear hr4 hf4 hf3
  go_wp2_with fail
  refine (rwords_calls _ m3 2 [7, 8] _ 2 [7, 8] ((hr3.keep hk4 (by simp)).alloc _).sees (Row.made #[.int .u32 7, .int .u32 8] 2 rfl (by decide)).sees (by decide) (by decide)).mono ?_
  rintro e w5 ⟨he, k5, rfl⟩
  have he : e = .returned (.bool true) := he
  subst he
  go_wp2_with fail
  have hk5 : Kp [] w2 (((w4.alloc (.cells #[.int .u32 7, .int .u32 8] 37)).drewN k5).alloc (.cells #[.int .u32 1, .int .u32 2, .int .u32 3] 37)) := (((hk3.trans hk4).alloc _).drewN _).alloc _
  have hs5 : Sees (((w4.alloc (.cells #[.int .u32 7, .int .u32 8] 37)).drewN k5).alloc (.cells #[.int .u32 1, .int .u32 2, .int .u32 3] 37)) 1 (.slice (some ⟨w4.heap.size + 1, 0, none⟩) 3 3) 3 (nums .u32 [1, 2, 3]) := (Row.made' #[.int .u32 1, .int .u32 2, .int .u32 3] 3 (by simp) rfl (by decide)).sees
  refine (write_calls _ g _ 11 _ _ _ (hp2.keep hk5 (by simp) (by simp)) hs5 (by decide)).mono ?_
  rintro e w6 ⟨he, hp6, hk6⟩
  have he : e = .returned (.int .i64 2) := he
  subst he
  clear hp6
  go_wp2
  go_ret
  exact ⟨rfl, (hkw2.trans hk5).next hk6 (by simp; omega)⟩
end Go.Proofs.Ytfehjkhbjbcliaa
