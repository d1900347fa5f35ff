/-
  stamped comes to true of a port and the document's that are the same.
-/
import Derived.Test.YtfehjkhbjbcliaaS6
namespace Go.Proofs.Ytfehjkhbjbcliaa
open Go.RowKit
set_option maxHeartbeats 400000
theorem stamped_calls (w : World) (b : Nat) (av : Value) (s : PS) (hp : PortAt w b s) (hr : RefAt w av s) (ho : PSok s) :
    Calls Try.prog 16 #[.pointer (some ⟨b, 0, none⟩), av] w fun e w' => e = .returned (.bool true) ∧ Kp [] w w' := by
  obtain ⟨pv, rfl, hrow, hm⟩ := hr
  obtain ⟨A, k, rfl⟩ := hrow.shape
  have hP : Hid (∀ W, Kp [] w W → PortAt W b s) := Lib.hid fun W hW => hp.keep hW (by simp) (by simp)
  have hS : (if s.has then s.stamp else 0) = s.stamp := by
    cases hh : s.has
    · simp [ho.z hh]
    · simp
  have HS := Lib.hid hS
  clear hS
  go_enter Try.func16, Try.ntmps16
  go_wp2_with fail
  refine (stamp_calls _ _ _ (hP.out _ ((Kp.refl [] w).alloc _))).mono ?_
  rintro e w1 ⟨rfl, rfl⟩
  rw [HS.out]
  go_wp2
  go_quiet (first | (go_at_call 22; exact Calls.quiet_of_same ((words_calls _ _ _ (hP.out _ (((Kp.refl [] w).alloc _).drewN _))).mono fun _ _ h => ⟨h.1, h.2.symm⟩)) | (go_at_call 23; exact Calls.quiet_of_same ((refresh_calls _ _ _ (hP.out _ (((Kp.refl [] w).alloc _).drewN _))).mono fun _ _ h => ⟨h.1, h.2.symm⟩)))
  go_wp2
  go_ret
  exact ⟨rfl, ((Kp.refl [] w).alloc _).drewN _⟩
end Go.Proofs.Ytfehjkhbjbcliaa
