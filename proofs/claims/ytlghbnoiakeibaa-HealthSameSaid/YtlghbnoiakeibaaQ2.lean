import Derived.Test.YtlghbnoiakeibaaQ1
import Derived.Test.YtlghbnoiakeibaaS6
import Derived.Test.YtlghbnoiakeibaaF
set_option linter.unusedVariables false
set_option linter.unusedSimpArgs false
namespace Go.Proofs.Ytlghbnoiakeibaa
open Go.RowKit
noncomputable def sameM (m m' : Bool) (f f' c c' : Int → Int → Option Int) : Bool := m == m' && sameFB f f' && sameFB c c'
theorem Same_calls (w : World) (b r q b' r' q' : Nat) (m m' : Bool) (f c f' c' : Int → Int → Option Int) (n k n' k' : Nat) (h : MonIn w b r q m f c n k) (h' : MonIn w b' r' q' m' f' c' n' k') :
    Calls Try.prog 15 #[.pointer (some ⟨b, 0, none⟩), .pointer (some ⟨b', 0, none⟩)] w fun e w' => e = .returned (.bool (sameM m m' f f' c c')) ∧ Kp [] w w' := by
  obtain ⟨I, hI, F, hF, hG⟩ := fam [] w
  have c1 := fun n => blk_cell ((hF n).heap h.blk (by simp))
  have c2 := fun n => blk_cell ((hF n).heap h'.blk (by simp))
  have H27 : Hid (∀ n, Calls Try.prog 27 #[.map (some r), .map (some r')] (F n) fun e w' => e = .returned (.bool (sameFB f f')) ∧ ∃ m, w' = F m) :=
    Lib.hid fun n => (equal27_calls (F n) r r' _ _ f f' (h.rules.keep (hF n) (by simp)) (h'.rules.keep (hF n) (by simp))).mono fun e w' ⟨a1, a2⟩ => ⟨a1, hG _ ((hF n).trans a2)⟩
  have H28 : Hid (∀ n, Calls Try.prog 28 #[.map (some q), .map (some q')] (F n) fun e w' => e = .returned (.bool (sameFB c c')) ∧ ∃ m, w' = F m) :=
    Lib.hid fun n => (equal28_calls (F n) q q' _ _ c c' (h.counts.keep (hF n) (by simp)) (h'.counts.keep (hF n) (by simp))).mono fun e w' ⟨a1, a2⟩ => ⟨a1, hG _ ((hF n).trans a2)⟩
  have HF := Lib.hid hF
  have HG := Lib.hid hG
  have h0 := Lib.hid (hG w.drew (Kp.refl _ _).drew)
  have HR : Hid (sameM m m' f f' c c' = (m == m' && sameFB f f' && sameFB c c')) := Lib.hid rfl
  generalize sameM m m' f f' c c' = res at *
  generalize sameFB f f' = s1 at *
  generalize sameFB c c' = s2 at *
  clear hF hG h h'
  go_enter Try.func15, Try.ntmps15
  go_wp2_with fail
  by_cases hm : m = m'
  · subst hm
    cases s1
    all_goals
      refine wp_region_fam F h0.out (by kernel_rfl) (by kernel_rfl) ?_
      repeat (go_big_quiet_step (first | exact H27.out _ | exact H28.out _))
      refine wpQuiet_nil ?_
      rintro _ ⟨nq, rfl⟩
      go_wp2
      go_ret
      exact ⟨by rw [HR.out]; simp, HF.out _⟩
  · have hm' : (m == m') = false := by simpa using hm
    refine wp_region_fam F h0.out (by kernel_rfl) (by kernel_rfl) ?_
    repeat (go_big_quiet_step (first | exact H27.out _ | exact H28.out _))
    refine wpQuiet_nil ?_
    rintro _ ⟨nq, rfl⟩
    go_wp2
    go_ret
    exact ⟨by rw [HR.out, hm']; simp, HF.out _⟩
end Go.Proofs.Ytlghbnoiakeibaa
