import Derived.Test.YtlghbnoiakeibaaD4
import Derived.Test.YtlghbnoiakeibaaW1
import Derived.Test.YtlghbnoiakeibaaQ3
set_option linter.unusedVariables false
set_option linter.unusedSimpArgs false
namespace Go.Proofs.Ytlghbnoiakeibaa
open Go.RowKit
theorem told_same (m : Bool) (l : List Rule) (h : newI m l = 0) (p e : Int) (hk : knownB e = true) : toldB m (rulesOf (fun _ _ => none) l) p e = toldR m l (ofP m p) e := by
  have hF := fine_new m l h
  have hb := byR_of m l h e
  generalize rulesOf (fun _ _ => none) l = F at *
  have hr : ∀ v, (0 ≤ byR l e v ↔ (F e v).isSome = true) ∧ ((F e v).isSome = true → byR l e v = (F e v).getD 0) := fun v => by
    rw [hb v]
    cases hf : F e v with
    | none => simp
    | some d => have := can_range (hF e v d hf).2; simp; omega
  simp only [toldB, hk, if_true]
  cases m
  · have ho : ofP false p = max p (-1) := rfl
    simp only [doneB, toldR, Bool.false_eq_true, if_false]
    rw [ho]
    generalize hq : max p (-1) = o
    have ho1 : -1 ≤ o := by omega
    by_cases h1 : o = -1
    · rw [if_pos h1, if_neg (by omega)]
      cases hf : F e 1 with
      | none => rw [if_neg (by rw [(hr 1).1]; simp [hf]), if_neg (by omega)]; rfl
      | some d => rw [if_pos (by rw [(hr 1).1]; simp [hf]), (hr 1).2 (by simp [hf]), hf]; rfl
    · rw [if_neg h1]
      cases hf : F e 0 with
      | none =>
        have n0 : ¬ 0 ≤ byR l e 0 := by rw [(hr 0).1]; simp [hf]
        have hc : ¬ (0 ≤ o ∧ 0 ≤ byR l e 0) := fun h => n0 h.2
        cases hf1 : F e 1 with
        | none =>
          have n1 : ¬ 0 ≤ byR l e 1 := by rw [(hr 1).1]; simp [hf1]
          have no : 0 ≤ o := by omega
          rw [if_neg hc, if_neg n1, if_pos no]; simp
        | some d =>
          have p1 : 0 ≤ byR l e 1 := by rw [(hr 1).1]; simp [hf1]
          have q1 := (hr 1).2 (by simp [hf1])
          rw [if_neg hc, if_pos p1, q1, hf1]; simp
      | some d =>
        have p0 : 0 ≤ byR l e 0 := by rw [(hr 0).1]; simp [hf]
        have hc : 0 ≤ o ∧ 0 ≤ byR l e 0 := ⟨by omega, p0⟩
        have q0 := (hr 0).2 (by simp [hf])
        rw [if_pos hc, q0, hf]; simp
  · simp only [doneB, toldR, if_true]
    cases hf : F e 2 with
    | none => rw [if_neg (by rw [(hr 2).1]; simp [hf])]; rfl
    | some d => rw [if_pos (by rw [(hr 2).1]; simp [hf]), (hr 2).2 (by simp [hf]), hf]; rfl
/-- What the reference's answer has of it. -/
theorem told_ref (m : Bool) (l : List Rule) (h : newI m l = 0) (p e : Int) : toldB m (rulesOf (fun _ _ => none) l) p e = (if knownB e then (toldR m l (ofP m p) e).1 else 0, if knownB e then (toldR m l (ofP m p) e).2 else 0) := by
  cases hk : knownB e
  · rw [told_unknown _ _ _ _ hk]; simp
  · rw [told_same m l h p e hk]; simp
theorem ofP_wf (m : Bool) (p : Int) (hp : (Lit.int .i64 p).wf = true) : (Lit.int .i64 (ofP m p)).wf = true := by
  unfold ofP
  split
  · rfl
  · simp [Lit.wf] at hp ⊢; omega
theorem Rep.step {c : Int → Int → Option Int} {ms : List I3} {N : Nat} (h : Rep c ms N) (hN : N ≤ 1000) (m : Bool) (p e : Int) (hp : (Lit.int .i64 p).wf = true) (he : (Lit.int .i64 e).wf = true) : Rep (metB m c p e) (if knownB e then bumpR ms (ofP m p) e else ms) (N + 1) := by
  unfold metB
  cases hk : knownB e
  · simp only [Bool.false_eq_true, if_false]; exact h.more (Nat.le_succ N)
  · simp only [if_true]
    have hv := h.val (ofP m p) e
    have hw : IntKind.i64.wrap ((c (ofP m p) e).getD 0 + 1) = (c (ofP m p) e).getD 0 + 1 := IntWalk.i64_in _ (by omega)
    rw [hw]
    exact h.bump _ _ (ofP_wf m p hp) he
theorem bump_len (ms : List I3) (o e : Int) : (bumpR ms o e).length ≤ ms.length + 1 := by
  unfold bumpR; split <;> simp
theorem step_len (ms : List I3) (o e : Int) (b : Bool) : (if b then bumpR ms o e else ms).length ≤ ms.length + 1 := by
  cases b
  · simp
  · exact bump_len ms o e
theorem Rep.bnd0 {c : Int → Int → Option Int} {ms : List I3} {N : Nat} (h : Rep c ms N) (hN : N ≤ 1000) : ∀ r ∈ ms, 0 ≤ r.2.2 ∧ r.2.2 ≤ 1000 := fun r hr => by have := h.bnd r hr; omega
/-- A row does not lie in a map's block. -/
theorem Row.neMap {w : World} {e size n : Nat} {v : Value} {xs : List Value} (h : Row w e size v n xs) {b : Nat} {es : Array MapEntry} {cl : Nat} (hb : w.heap[b]? = some (.map es cl)) : b ∉ v.ownBlock := by
  rcases h.2 with ⟨rfl, rfl⟩ | ⟨g, off, cap, cur, rfl, hh, _⟩
  · simp [Value.ownBlock]
  · simp only [Value.ownBlock, Option.mem_def, Option.some.injEq]
    rintro rfl
    rw [hh] at hb
    simp at hb
theorem MapAt.isMap {P : Program} {k e : TypeId} {w : World} {b n : Nat} {f : Int → Int → Option Int} (h : MapAt P k e w b n f) : ∃ es cl, w.heap[b]? = some (.map es cl) := by
  obtain ⟨D, ⟨es, cl, h1, _⟩, _⟩ := h
  exact ⟨es, cl, h1⟩
end Go.Proofs.Ytlghbnoiakeibaa
