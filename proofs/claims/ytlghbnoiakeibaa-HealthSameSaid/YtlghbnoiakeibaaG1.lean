import Derived.Test.YtlghbnoiakeibaaD5
set_option linter.unusedVariables false
set_option linter.unusedSimpArgs false
namespace Go.Proofs.Ytlghbnoiakeibaa
open Go.RowKit
theorem nodup_len {α : Type} [DecidableEq α] : ∀ (l1 l2 : List α), l1.Nodup → (∀ a ∈ l1, a ∈ l2) → l1.length ≤ l2.length
  | [], _, _, _ => Nat.zero_le _
  | b :: t, l2, hn, hs => by
    have hb := hs b (by simp)
    have h1 := nodup_len t (l2.erase b) (List.nodup_cons.1 hn).2 (fun c hc => (List.mem_erase_of_ne (by rintro rfl; exact (List.nodup_cons.1 hn).1 hc)).2 (hs c (by simp [hc])))
    rw [List.length_erase_of_mem hb] at h1
    have : 0 < l2.length := List.length_pos_of_mem hb
    simp; omega
def kk (r : I3) : Int × Int := (r.1, r.2.1)
/-- Are two lists of what was met the same, as the document has it? -/
def sameL (m' : Bool) (ms ms' : List I3) : Bool := ms.length == ms'.length && ms.all fun r => countR ms' (ofP m' r.1) r.2.1 == r.2.2
theorem find_of_mem {c : Int → Int → Option Int} {ms : List I3} {N : Nat} (h : Rep c ms N) {r : I3} (hr : r ∈ ms) : c r.1 r.2.1 = some r.2.2 := by
  rw [h.look]
  cases hf : ms.find? (hitR r.1 r.2.1) with
  | none => exact absurd ((hit_iff _ _ _).2 ⟨rfl, rfl⟩) (by have := List.find?_eq_none.1 hf r hr; exact this)
  | some x =>
    have h1 := (hit_iff _ _ _).1 (List.find?_some hf)
    have hx := List.mem_of_find?_eq_some hf
    have hn := h.keys
    have : x = r := by
      obtain ⟨i, hi, rfl⟩ := List.mem_iff_getElem.1 hx
      obtain ⟨j, hj, rfl⟩ := List.mem_iff_getElem.1 hr
      have : i = j := by
        have h2 := (List.nodup_iff_pairwise_ne.1 hn)
        rw [List.pairwise_map] at h2
        rw [List.pairwise_iff_getElem] at h2
        rcases Nat.lt_trichotomy i j with h3 | h3 | h3
        · exact absurd (by rw [h1.1, h1.2]) (h2 i j hi hj h3)
        · exact h3
        · exact absurd (by rw [h1.1, h1.2]) (h2 j i hj hi h3)
      subst this; rfl
    rw [this]; rfl
theorem mem_of_some {c : Int → Int → Option Int} {ms : List I3} {N : Nat} (h : Rep c ms N) {p e t : Int} (hc : c p e = some t) : (p, e, t) ∈ ms := by
  rw [h.look] at hc
  cases hf : ms.find? (hitR p e) with
  | none => rw [hf] at hc; simp at hc
  | some x =>
    rw [hf] at hc
    simp at hc
    have h1 := (hit_iff _ _ _).1 (List.find?_some hf)
    have hx := List.mem_of_find?_eq_some hf
    have : x = (p, e, t) := Prod.ext h1.1 (Prod.ext h1.2 hc)
    rw [← this]; exact hx
theorem sameL_eq {c c' : Int → Int → Option Int} {ms ms' : List I3} {N N' : Nat} (h : Rep c ms N) (h' : Rep c' ms' N') (m' : Bool) (hi : ∀ r ∈ ms, ofP m' r.1 = r.1) : sameL m' ms ms' = sameFB c c' := by
  rw [Bool.eq_iff_iff, sameFB_iff]
  unfold sameL
  simp only [Bool.and_eq_true, beq_iff_eq, List.all_eq_true]
  have cnt : ∀ r ∈ ms, countR ms' (ofP m' r.1) r.2.1 = (c' r.1 r.2.1).getD 0 := fun r hr => by rw [hi r hr, h'.count]
  constructor
  · rintro ⟨hl, ha⟩ p e hp he
    have sub : ∀ r ∈ ms, c' r.1 r.2.1 = some r.2.2 := fun r hr => by
      have h1 := ha r hr
      rw [cnt r hr] at h1
      have h2 := h.bnd r hr
      cases hc : c' r.1 r.2.1 with
      | none => rw [hc] at h1; simp at h1; omega
      | some t => rw [hc] at h1; simp at h1; rw [h1]
    cases hc : c p e with
    | some t =>
      have := sub _ (mem_of_some h hc)
      exact this.symm
    | none =>
      cases hc' : c' p e with
      | none => rfl
      | some t =>
        exfalso
        have hm := mem_of_some h' hc'
        have := pigeon (ms.map kk) (ms'.map kk) h.keys (fun x hx => by
          obtain ⟨r, hr, rfl⟩ := List.mem_map.1 hx
          exact List.mem_map.2 ⟨_, mem_of_some h' (sub r hr), rfl⟩) (by simp [hl]) (p, e) (List.mem_map.2 ⟨_, hm, rfl⟩)
        obtain ⟨r, hr, hk⟩ := List.mem_map.1 this
        simp only [kk, Prod.mk.injEq] at hk
        have h3 := find_of_mem h hr
        rw [hk.1, hk.2, hc] at h3
        simp at h3
  · intro hs
    have sub : ∀ r ∈ ms, c' r.1 r.2.1 = some r.2.2 := fun r hr => by
      rw [← hs r.1 r.2.1 (h.wf r hr).1 (h.wf r hr).2]; exact find_of_mem h hr
    have sub' : ∀ r ∈ ms', c r.1 r.2.1 = some r.2.2 := fun r hr => by
      rw [hs r.1 r.2.1 (h'.wf r hr).1 (h'.wf r hr).2]; exact find_of_mem h' hr
    have l1 := nodup_len (ms.map kk) (ms'.map kk) h.keys (fun x hx => by
      obtain ⟨r, hr, rfl⟩ := List.mem_map.1 hx
      exact List.mem_map.2 ⟨_, mem_of_some h' (sub r hr), rfl⟩)
    have l2 := nodup_len (ms'.map kk) (ms.map kk) h'.keys (fun x hx => by
      obtain ⟨r, hr, rfl⟩ := List.mem_map.1 hx
      exact List.mem_map.2 ⟨_, mem_of_some h (sub' r hr), rfl⟩)
    simp at l1 l2
    exact ⟨by omega, fun r hr => by rw [cnt r hr, sub r hr]; rfl⟩
theorem ofP_ofP (m : Bool) (p : Int) : ofP m (ofP m p) = ofP m p := by unfold ofP; cases m <;> simp <;> omega
theorem bump_ofP (m : Bool) (ms : List I3) (p e : Int) (h : ∀ r ∈ ms, ofP m r.1 = r.1) (b : Bool) : ∀ r ∈ (if b then bumpR ms (ofP m p) e else ms), ofP m r.1 = r.1 := by
  cases b
  · simpa using h
  · simp only [if_true]
    unfold bumpR
    split
    · intro r hr
      obtain ⟨x, hx, rfl⟩ := List.mem_map.1 hr
      rw [(incR_key _ _ x).1]; exact h x hx
    · intro r hr
      rcases List.mem_append.1 hr with hr | hr
      · exact h r hr
      · simp at hr; subst hr; exact ofP_ofP m p
/-- The rules alone. -/
def sameRl (l l' : List Rule) : Bool := l.length == l'.length && l.all fun r => byR l' r.1 r.2.1 == r.2.2
theorem sameRl_perm (m : Bool) (l l' : List Rule) (h : newI m l = 0) (hp : l.Perm l') : sameRl l l' = true := by
  unfold sameRl
  simp only [Bool.and_eq_true, beq_iff_eq, List.all_eq_true]
  refine ⟨hp.length_eq, fun r hr => ?_⟩
  rw [byR_of m l' (newI_perm m hp h), ← rulesOf_perm m hp h, rulesOf_mem l _ ((newI_iff m l).1 h).2.2 r hr]; rfl
end Go.Proofs.Ytlghbnoiakeibaa
