import Derived.Test.YtlghbnoiakeibaaR2
set_option linter.unusedVariables false
set_option linter.unusedSimpArgs false
namespace Go.Proofs.Ytlghbnoiakeibaa
open Go.RowKit
theorem wrongI_zero {m : Bool} {f : Int → Int → Option Int} {e v d : Int} (h : wrongI m f e v d = 0) : knownB e = true ∧ hasB m v = true ∧ (canL v).contains d = true ∧ (f e v).isSome = false := by
  unfold wrongI at h
  cases h1 : knownB e <;> cases h2 : hasB m v <;> cases h3 : (canL v).contains d <;> cases h4 : (f e v).isSome <;> simp_all
/-- What rules that may be say. -/
def Fine (m : Bool) (f : Int → Int → Option Int) : Prop := ∀ e v d, f e v = some d → hasB m v = true ∧ (canL v).contains d = true
theorem fine_wrongs (m : Bool) (l : List Rule) : ∀ f, Fine m f → wrongs m f l = 0 → Fine m (rulesOf f l) := by
  induction l with
  | nil => intro f hf _; exact hf
  | cons a l ih =>
    intro f hf h
    simp only [wrongs] at h
    by_cases hw : wrongI m f a.1 a.2.1 a.2.2 = 0
    · rw [if_pos hw] at h
      obtain ⟨h1, h2, h3, h4⟩ := wrongI_zero hw
      refine ih (bump f a.1 a.2.1 a.2.2) (fun e v d hd => ?_) h
      unfold bump at hd
      split at hd
      · rename_i hc
        simp at hd
        rw [← hd, hc.2]
        exact ⟨h2, h3⟩
      · exact hf e v d hd
    · rw [if_neg hw] at h
      exact absurd h hw
theorem fine_new (m : Bool) (l : List Rule) (h : newI m l = 0) : Fine m (rulesOf (fun _ _ => none) l) := by
  unfold newI at h
  split at h
  · simp at h
  · exact fine_wrongs m l _ (fun _ _ _ h => by simp at h) h
theorem can_range {v d : Int} (h : (canL v).contains d = true) : 0 ≤ d ∧ d ≤ 6 ∧ (v = 2 → d ≤ 1) := by
  unfold canL at h
  split at h
  · simp at h; omega
  · split at h
    · simp at h; omega
    · simp at h; omega
theorem told_level (m : Bool) (f : Int → Int → Option Int) (p e : Int) (hk : knownB e = true) : ((toldB m f p e).1 == 2) = m := by
  cases m <;> simp only [toldB, hk, if_true, doneB, ofP]
  · simp only [Bool.false_eq_true, if_false]
    split
    · rfl
    · split
      · rfl
      · split <;> rfl
  · rfl
theorem told_range (m : Bool) (f : Int → Int → Option Int) (p e : Int) (hk : knownB e = true) (hf : Fine m f) : 0 ≤ (toldB m f p e).2 ∧ (toldB m f p e).2 ≤ 6 ∧ (m = true → (toldB m f p e).2 ≤ 1) := by
  cases m <;> simp only [toldB, hk, if_true, doneB, ofP]
  · simp only [Bool.false_eq_true, if_false, false_implies, and_true]
    split
    · cases h : f e 1 with
      | none => simp
      | some d => have := can_range (hf e 1 d h).2; simp; omega
    · split
      · cases h : f e 0 with
        | none => simp
        | some d => have := can_range (hf e 0 d h).2; simp; omega
      · split
        · cases h : f e 1 with
          | none => simp
          | some d => have := can_range (hf e 1 d h).2; simp; omega
        · simp
  · cases h : f e 2 with
    | none => simp
    | some d => have := can_range (hf e 2 d h).2; simp; omega
theorem told_none (m : Bool) (f : Int → Int → Option Int) (p e : Int) (hk : knownB e = true) (hp : p < 0) : ((toldB m f p e).1 == 0) = false := by
  have hp : max p (-1) = -1 := by omega
  cases m <;> simp [toldB, hk, doneB, ofP, hp]
theorem told_max (m : Bool) (f : Int → Int → Option Int) (p p' e : Int) (h : max p (-1) = max p' (-1)) : toldB m f p e = toldB m f p' e := by
  simp only [toldB, ofP, h]
theorem told_unknown (m : Bool) (f : Int → Int → Option Int) (p e : Int) (h : knownB e = false) : toldB m f p e = (0, 0) := by simp [toldB, h]
end Go.Proofs.Ytlghbnoiakeibaa
