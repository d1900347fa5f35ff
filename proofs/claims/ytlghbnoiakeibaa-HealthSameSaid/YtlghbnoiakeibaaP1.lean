import Derived.Test.YtlghbnoiakeibaaR1
set_option linter.unusedVariables false
set_option linter.unusedSimpArgs false
namespace Go.Proofs.Ytlghbnoiakeibaa
open Go.RowKit
/-- A rule by itself may be. -/
def okR (m : Bool) (r : Rule) : Prop := knownB r.1 = true ∧ hasB m r.2.1 = true ∧ (canL r.2.1).contains r.2.2 = true
def keyR (r : Rule) : Int × Int := (r.1, r.2.1)
theorem wrongI_iff (m : Bool) (f : Int → Int → Option Int) (r : Rule) : wrongI m f r.1 r.2.1 r.2.2 = 0 ↔ okR m r ∧ f r.1 r.2.1 = none := by
  unfold wrongI okR
  cases h1 : knownB r.1 <;> cases h2 : hasB m r.2.1 <;> cases h3 : (canL r.2.1).contains r.2.2 <;> cases h4 : f r.1 r.2.1 <;> simp
theorem wrongs_iff (m : Bool) (l : List Rule) : ∀ f, wrongs m f l = 0 ↔ (∀ r ∈ l, okR m r) ∧ (l.map keyR).Nodup ∧ ∀ r ∈ l, f r.1 r.2.1 = none := by
  induction l with
  | nil => intro f; simp [wrongs]
  | cons a l ih =>
    intro f
    simp only [wrongs]
    by_cases hw : wrongI m f a.1 a.2.1 a.2.2 = 0
    · rw [if_pos hw, ih]
      have h0 := (wrongI_iff m f a).1 hw
      simp only [List.mem_cons, forall_eq_or_imp, List.map_cons, List.nodup_cons, List.mem_map, not_exists, not_and]
      constructor
      · rintro ⟨h1, h2, h3⟩
        refine ⟨⟨h0.1, h1⟩, ⟨fun r hr he => ?_, h2⟩, h0.2, fun r hr => ?_⟩
        · have := h3 r hr
          simp only [keyR, Prod.mk.injEq] at he
          simp [bump, he.1, he.2] at this
        · have := h3 r hr
          unfold bump at this
          split at this
          · simp at this
          · exact this
      · rintro ⟨⟨-, h1⟩, ⟨h2, h3⟩, -, h4⟩
        refine ⟨h1, h3, fun r hr => ?_⟩
        unfold bump
        split
        · rename_i hc
          exact absurd (by simp [keyR, hc.1, hc.2]) (h2 r hr)
        · exact h4 r hr
    · rw [if_neg hw]
      constructor
      · intro h; exact absurd h hw
      · rintro ⟨h1, h2, h3⟩
        exact absurd ((wrongI_iff m f a).2 ⟨h1 a (by simp), h3 a (by simp)⟩) hw
theorem newI_iff (m : Bool) (l : List Rule) : newI m l = 0 ↔ l.length ≤ 64 ∧ (∀ r ∈ l, okR m r) ∧ (l.map keyR).Nodup := by
  unfold newI
  by_cases h : 64 < l.length
  · rw [if_pos h]; simp; omega
  · rw [if_neg h, wrongs_iff]; simp; intro _ _; omega
theorem rulesOf_mem (l : List Rule) : ∀ f, (l.map keyR).Nodup → ∀ r ∈ l, rulesOf f l r.1 r.2.1 = some r.2.2 := by
  induction l with
  | nil => intro f _ r hr; simp at hr
  | cons a l ih =>
    intro f hn r hr
    simp only [List.map_cons, List.nodup_cons, List.mem_map, not_exists, not_and] at hn
    simp only [rulesOf, List.foldl_cons]
    rcases List.mem_cons.1 hr with rfl | hr
    · have : ∀ (l : List Rule) (f : Int → Int → Option Int), (∀ x ∈ l, ¬ keyR x = keyR r) → rulesOf f l r.1 r.2.1 = f r.1 r.2.1 := by
        intro l
        induction l with
        | nil => intro f _; rfl
        | cons b l ih2 =>
          intro f hb
          simp only [rulesOf, List.foldl_cons] at ih2 ⊢
          rw [ih2 _ (fun x hx => hb x (by simp [hx]))]
          unfold bump
          split
          · rename_i hc
            exact absurd (by simp [keyR, hc.1, hc.2]) (hb b (by simp))
          · rfl
      have h2 := this l (bump f r.1 r.2.1 r.2.2) (fun x hx => hn.1 x hx)
      simp only [rulesOf] at h2
      rw [h2]
      simp [bump]
    · exact ih _ hn.2 r hr
theorem rulesOf_miss (l : List Rule) (f : Int → Int → Option Int) (e v : Int) (h : ∀ r ∈ l, ¬ (r.1 = e ∧ r.2.1 = v)) : rulesOf f l e v = f e v := by
  induction l generalizing f with
  | nil => rfl
  | cons a l ih =>
    simp only [rulesOf, List.foldl_cons] at ih ⊢
    rw [ih _ (fun r hr => h r (by simp [hr]))]
    unfold bump
    split
    · rename_i hc
      exact absurd ⟨hc.1.symm, hc.2.symm⟩ (h a (by simp))
    · rfl
theorem newI_perm (m : Bool) {l l' : List Rule} (hp : l.Perm l') (h : newI m l = 0) : newI m l' = 0 := by
  rw [newI_iff] at h ⊢
  exact ⟨by rw [← hp.length_eq]; exact h.1, fun r hr => h.2.1 r (hp.mem_iff.2 hr), (hp.map keyR).nodup_iff.1 h.2.2⟩
theorem rulesOf_perm (m : Bool) {l l' : List Rule} (hp : l.Perm l') (h : newI m l = 0) : rulesOf (fun _ _ => none) l = rulesOf (fun _ _ => none) l' := by
  have h' := newI_perm m hp h
  rw [newI_iff] at h h'
  funext e v
  by_cases hx : ∃ r ∈ l, r.1 = e ∧ r.2.1 = v
  · obtain ⟨r, hr, rfl, rfl⟩ := hx
    rw [rulesOf_mem l _ h.2.2 r hr, rulesOf_mem l' _ h'.2.2 r (hp.mem_iff.1 hr)]
  · rw [rulesOf_miss l _ e v (fun r hr hc => hx ⟨r, hr, hc⟩), rulesOf_miss l' _ e v (fun r hr hc => hx ⟨r, hp.mem_iff.2 hr, hc⟩)]
theorem cells3_one (l : List Rule) : ∀ u ∈ cells3 l, u.oneCell' = true := by
  intro u hu
  simp only [cells3, List.mem_flatMap, List.mem_cons, List.not_mem_nil, or_false] at hu
  obtain ⟨r, _, rfl | rfl | rfl⟩ := hu <;> rfl
theorem cells3_app (l l' : List Rule) : cells3 (l ++ l') = cells3 l ++ cells3 l' := by simp [cells3]
/-- The last of a slice of rules, from a place on; the first ones. -/
theorem sees_drop {w : World} {g o c : Nat} {l : List Rule} (h : Sees w 3 (.slice (some ⟨g, o, none⟩) l.length c) l.length (cells3 l)) (k : Nat) (hk : k ≤ l.length) : Sees w 3 (.slice (some ⟨g, o + k * 3, none⟩) (l.length - k) (c - k)) (l.length - k) (cells3 (l.drop k)) := by
  rcases h.2.2 with ⟨h0, _⟩ | ⟨ad, c', he, h1, h2, h3, h4⟩
  · simp at h0
  simp only [Value.slice.injEq, Option.some.injEq, true_and] at he
  obtain ⟨rfl, rfl⟩ := he
  refine ⟨by rw [cells3_len]; simp, by have := h.2.1; omega, .inr ⟨_, _, rfl, by omega, by omega, fun _ => rfl, fun j u hj => ?_⟩⟩
  have : (cells3 l)[k * 3 + j]? = some u := by
    have e : cells3 l = cells3 (l.take k) ++ cells3 (l.drop k) := by rw [← cells3_app, List.take_append_drop]
    rw [e, List.getElem?_append_right (by rw [cells3_len]; simp; omega), cells3_len]
    simpa [Nat.min_eq_left hk] using hj
  have := h4 _ _ this
  simpa [Nat.add_assoc] using this
theorem sees_take {w : World} {g o c : Nat} {l : List Rule} (h : Sees w 3 (.slice (some ⟨g, o, none⟩) l.length c) l.length (cells3 l)) (k : Nat) (hk : k ≤ l.length) : Sees w 3 (.slice (some ⟨g, o, none⟩) k c) k (cells3 (l.take k)) := by
  rcases h.2.2 with ⟨h0, _⟩ | ⟨ad, c', he, h1, h2, h3, h4⟩
  · simp at h0
  simp only [Value.slice.injEq, Option.some.injEq, true_and] at he
  obtain ⟨rfl, rfl⟩ := he
  refine ⟨by rw [cells3_len]; simp; omega, by have := h.2.1; omega, .inr ⟨_, _, rfl, by omega, by omega, fun _ => rfl, fun j u hj => ?_⟩⟩
  have e : cells3 l = cells3 (l.take k) ++ cells3 (l.drop k) := by rw [← cells3_app, List.take_append_drop]
  exact h4 _ _ (by rw [e, List.getElem?_append_left (List.getElem?_eq_some_iff.1 hj).1]; exact hj)
end Go.Proofs.Ytlghbnoiakeibaa
