import Derived.Test.YtlghbnoiakeibaaD1
import Derived.Test.YtlghbnoiakeibaaE
set_option linter.unusedVariables false
set_option linter.unusedSimpArgs false
namespace Go.Proofs.Ytlghbnoiakeibaa
open Go.RowKit
/-! What was met, as a list: a process, an error, how often. -/
def hitR (o e : Int) (r : I3) : Bool := r.1 == o && r.2.1 == e
def countR (ms : List I3) (o e : Int) : Int := ((ms.find? (hitR o e)).map (·.2.2)).getD 0
def incR (o e : Int) (r : I3) : I3 := if hitR o e r then (r.1, r.2.1, r.2.2 + 1) else r
def bumpR (ms : List I3) (o e : Int) : List I3 := if ms.any (hitR o e) then ms.map (incR o e) else ms ++ [(o, e, 1)]
theorem incR_key (o e : Int) (r : I3) : (incR o e r).1 = r.1 ∧ (incR o e r).2.1 = r.2.1 := by unfold incR; split <;> simp
theorem hit_inc (o e p f : Int) (r : I3) : hitR p f (incR o e r) = hitR p f r := by unfold hitR; rw [(incR_key o e r).1, (incR_key o e r).2]
theorem hit_iff (o e : Int) (r : I3) : hitR o e r = true ↔ r.1 = o ∧ r.2.1 = e := by simp [hitR]
structure Rep (c : Int → Int → Option Int) (ms : List I3) (N : Nat) : Prop where
  look : ∀ p e, c p e = (ms.find? (hitR p e)).map (·.2.2)
  bnd : ∀ r ∈ ms, 1 ≤ r.2.2 ∧ r.2.2 ≤ N
  keys : (ms.map fun r => (r.1, r.2.1)).Nodup
  wf : ∀ r ∈ ms, (Lit.int .i64 r.1).wf = true ∧ (Lit.int .i64 r.2.1).wf = true
theorem Rep.nil : Rep (fun _ _ => none) [] 0 := ⟨fun _ _ => rfl, by simp, by simp, by simp⟩
theorem Rep.more {c : Int → Int → Option Int} {ms : List I3} {N N' : Nat} (h : Rep c ms N) (hN : N ≤ N') : Rep c ms N' := ⟨h.look, fun r hr => by have := h.bnd r hr; omega, h.keys, h.wf⟩
theorem Rep.val {c : Int → Int → Option Int} {ms : List I3} {N : Nat} (h : Rep c ms N) (o e : Int) : 0 ≤ (c o e).getD 0 ∧ (c o e).getD 0 ≤ N := by
  rw [h.look]
  cases hf : ms.find? (hitR o e) with
  | none => simp
  | some r => have := h.bnd r (List.mem_of_find?_eq_some hf); simp; omega
theorem Rep.count {c : Int → Int → Option Int} {ms : List I3} {N : Nat} (h : Rep c ms N) (o e : Int) : countR ms o e = (c o e).getD 0 := by rw [h.look]; rfl
theorem Rep.bump {c : Int → Int → Option Int} {ms : List I3} {N : Nat} (h : Rep c ms N) (o e : Int) (ho : (Lit.int .i64 o).wf = true) (he : (Lit.int .i64 e).wf = true) : Rep (bump c o e ((c o e).getD 0 + 1)) (bumpR ms o e) (N + 1) := by
  have hv := h.val o e
  by_cases hany : ms.any (hitR o e) = true
  · have hb : bumpR ms o e = ms.map (incR o e) := by simp [bumpR, hany]
    rw [hb]
    have hfind : ∀ p f, (ms.map (incR o e)).find? (hitR p f) = (ms.find? (hitR p f)).map (incR o e) := fun p f => by
      rw [List.find?_map]
      congr 1
      congr 1
      funext r
      exact hit_inc o e p f r
    refine ⟨fun p f => ?_, fun r hr => ?_, ?_, fun r hr => ?_⟩
    · rw [hfind]
      unfold Go.Proofs.Ytlghbnoiakeibaa.bump
      split
      · rename_i hc
        obtain ⟨rfl, rfl⟩ := hc
        rw [h.look]
        cases hf : ms.find? (hitR p f) with
        | none =>
          obtain ⟨r, hr, hh⟩ := List.any_eq_true.1 hany
          have := List.find?_eq_none.1 hf r hr
          rw [hh] at this
          exact absurd rfl this
        | some r =>
          have := List.find?_some hf
          simp [incR, this]
      · rename_i hc
        rw [h.look]
        cases hf : ms.find? (hitR p f) with
        | none => rfl
        | some r =>
          have h1 := (hit_iff _ _ _).1 (List.find?_some hf)
          have h2 : hitR o e r = false := by
            cases h3 : hitR o e r with
            | false => rfl
            | true => have h4 := (hit_iff _ _ _).1 h3; exact absurd ⟨h1.1.symm.trans h4.1, h1.2.symm.trans h4.2⟩ hc
          simp [incR, h2]
    · obtain ⟨x, hx, rfl⟩ := List.mem_map.1 hr
      have := h.bnd x hx
      unfold incR
      split
      · simp; omega
      · omega
    · rw [List.map_map]
      have : ((fun r : I3 => (r.1, r.2.1)) ∘ incR o e) = fun r : I3 => (r.1, r.2.1) := by
        funext r
        simp [incR_key]
      rw [this]
      exact h.keys
    · obtain ⟨x, hx, rfl⟩ := List.mem_map.1 hr
      rw [(incR_key o e x).1, (incR_key o e x).2]
      exact h.wf x hx
  · have hany' : ms.any (hitR o e) = false := by simpa using hany
    have hb : bumpR ms o e = ms ++ [(o, e, 1)] := by simp only [bumpR, hany', Bool.false_eq_true, if_false]
    have hno : ms.find? (hitR o e) = none := by
      rw [List.find?_eq_none]
      intro x hx
      have := List.any_eq_false.1 hany' x hx
      simpa using this
    have hc0 : c o e = none := by rw [h.look, hno]; rfl
    rw [hb]
    refine ⟨fun p f => ?_, fun r hr => ?_, ?_, fun r hr => ?_⟩
    · rw [List.find?_append]
      unfold Go.Proofs.Ytlghbnoiakeibaa.bump
      split
      · rename_i hc
        obtain ⟨rfl, rfl⟩ := hc
        rw [hno, hc0]
        simp [hitR]
      · rename_i hc
        rw [h.look]
        have : hitR p f (o, e, 1) = false := by
          cases h3 : hitR p f (o, e, 1) with
          | false => rfl
          | true => have h4 := (hit_iff _ _ _).1 h3; exact absurd ⟨h4.1.symm, h4.2.symm⟩ hc
        cases hf : ms.find? (hitR p f) with
        | none => simp [List.find?_cons, this]
        | some r => simp
    · rcases List.mem_append.1 hr with hr | hr
      · have := h.bnd r hr; omega
      · simp at hr; subst hr; simp; omega
    · rw [List.map_append, List.nodup_append]
      refine ⟨h.keys, by simp, ?_⟩
      intro a ha b hb hab
      simp at hb
      subst hb
      subst hab
      obtain ⟨r, hr, hk⟩ := List.mem_map.1 ha
      have := List.find?_eq_none.1 hno r hr
      simp only [Prod.mk.injEq] at hk
      exact this ((hit_iff _ _ _).2 hk)
    · rcases List.mem_append.1 hr with hr | hr
      · exact h.wf r hr
      · simp at hr; subst hr; exact ⟨ho, he⟩
theorem rulesOf_find (l : List Rule) (hn : (l.map keyR).Nodup) (e v : Int) : rulesOf (fun _ _ => none) l e v = (l.find? fun r => r.1 == e && r.2.1 == v).map (·.2.2) := by
  cases hf : l.find? (fun r => r.1 == e && r.2.1 == v) with
  | none =>
    rw [rulesOf_miss l _ e v (fun r hr hc => ?_)]
    · rfl
    · have := List.find?_eq_none.1 hf r hr
      simp [hc] at this
  | some r =>
    have h1 := List.find?_some hf
    simp at h1
    have := rulesOf_mem l (fun _ _ => none) hn r (List.mem_of_find?_eq_some hf)
    rw [h1.1, h1.2] at this
    rw [this]; rfl
theorem byR_of (m : Bool) (l : List Rule) (h : newI m l = 0) (e v : Int) : byR l e v = (rulesOf (fun _ _ => none) l e v).getD (-1) := by
  rw [rulesOf_find l ((newI_iff m l).1 h).2.2]; rfl
end Go.Proofs.Ytlghbnoiakeibaa
