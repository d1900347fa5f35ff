/-
  A slice of structs of three (four) whole numbers: its cells, and how it reads as an argument.
-/
import Derived.Test.YtlghbnoiakeibaaI
set_option linter.unusedVariables false
set_option linter.unusedSimpArgs false
namespace Go.Proofs.Ytlghbnoiakeibaa
open Go.ChangeShapes Go.WideShapes Go.ChangeAt Go.RowKit
/-- The cells of structs that are told by a function, one behind the other. -/
theorem flat_len {α : Type} (f : α → List Value) (s : Nat) (hf : ∀ a, (f a).length = s) : ∀ l : List α, (l.flatMap f).length = l.length * s
  | [] => by simp
  | a :: l => by rw [List.flatMap_cons, List.length_append, hf, flat_len f s hf l, List.length_cons, Nat.add_mul]; omega
theorem flat_at {α : Type} (f : α → List Value) (s : Nat) (hf : ∀ a, (f a).length = s) : ∀ (l : List α) (k : Nat) (h : k < l.length) (j : Nat), j < s → (l.flatMap f)[k * s + j]? = (f l[k])[j]?
  | [], k, h, _, _ => by simp at h
  | a :: l, 0, h, j, hj => by rw [List.flatMap_cons, List.getElem?_append_left (by rw [hf]; omega)]; simp
  | a :: l, k + 1, h, j, hj => by
    rw [List.flatMap_cons, List.getElem?_append_right (by rw [hf, Nat.add_mul]; omega), hf, show (k + 1) * s + j - s = k * s + j by rw [Nat.add_mul]; omega, flat_at f s hf l k (by simpa using h) j hj]
    simp
theorem flat_snoc {α : Type} (f : α → List Value) (l : List α) (a : α) : (l ++ [a]).flatMap f = l.flatMap f ++ f a := by simp
theorem flat_inv {α : Type} (f : α → List Value) (s : Nat) (hf : ∀ a, (f a).length = s) (l : List α) (j : Nat) (u : Value) (h : (l.flatMap f)[j]? = some u) : ∃ k r, ∃ hk : k < l.length, j = k * s + r ∧ r < s ∧ (f l[k])[r]? = some u := by
  have hl := (List.getElem?_eq_some_iff.1 h).1
  rw [flat_len f s hf] at hl
  have hs : 0 < s := Nat.pos_of_ne_zero (by rintro rfl; simp at hl)
  have h1 : j / s < l.length := Nat.div_lt_of_lt_mul (by rw [Nat.mul_comm]; exact hl)
  have h2 : j = j / s * s + j % s := by have := Nat.div_add_mod j s; rw [Nat.mul_comm] at this; omega
  refine ⟨j / s, j % s, h1, h2, Nat.mod_lt _ hs, ?_⟩
  rw [h2, flat_at f s hf l _ h1 _ (Nat.mod_lt _ hs)] at h
  exact h
abbrev I3 := Int × Int × Int
def rec3 (k0 k1 k2 : IntKind) (x : I3) : List Value := [.int k0 x.1, .int k1 x.2.1, .int k2 x.2.2]
def recs3 (k0 k1 k2 : IntKind) (l : List I3) : List Value := l.flatMap (rec3 k0 k1 k2)
theorem recs3_len (k0 k1 k2 : IntKind) (l : List I3) : (recs3 k0 k1 k2 l).length = l.length * 3 := flat_len _ 3 (fun _ => rfl) l
theorem recs3_at (k0 k1 k2 : IntKind) (l : List I3) (k : Nat) (h : k < l.length) : (recs3 k0 k1 k2 l)[k * 3]? = some (.int k0 l[k].1) ∧ (recs3 k0 k1 k2 l)[k * 3 + 1]? = some (.int k1 l[k].2.1) ∧ (recs3 k0 k1 k2 l)[k * 3 + 2]? = some (.int k2 l[k].2.2) :=
  ⟨flat_at (rec3 k0 k1 k2) 3 (fun _ => rfl) l k h 0 (by omega), flat_at (rec3 k0 k1 k2) 3 (fun _ => rfl) l k h 1 (by omega), flat_at (rec3 k0 k1 k2) 3 (fun _ => rfl) l k h 2 (by omega)⟩
/-- A slice of structs of three whole numbers came in. -/
def In3 (k0 k1 k2 : IntKind) (w : World) (v : Value) : Prop := ∃ l : List I3, Sees w 3 v l.length (recs3 k0 k1 k2 l) ∧ ∀ x ∈ l, (Lit.int k0 x.1).wf = true ∧ (Lit.int k1 x.2.1).wf = true ∧ (Lit.int k2 x.2.2).wf = true
section
variable {H : Type} {enc : TypeId × Value → H} {P : Program} {W : World} {base : Nat}
/-- Out of element reads, a list. -/
theorem sees_of_str {α : Type} {s : Nat} {v : Value} {n : Nat} {C : Nat → List Value} (f : α → List Value) (hf : ∀ a, (f a).length = s) (g : Nat → α) (h : InStr W s v n C) (hg : ∀ i, i < n → C i = f (g i)) : Sees W s v n (((List.range n).map g).flatMap f) := by
  refine ⟨by rw [flat_len f s hf]; simp, h.1, ?_⟩
  rcases h.2 with h0 | ⟨ad, c, hv, h1, h2, hc⟩
  · exact .inl h0
  · refine .inr ⟨ad, c, hv, h1, h2, fun hn => (hc 0 hn).1, fun j u hj => ?_⟩
    obtain ⟨k, r, hk, rfl, hr, hu⟩ := flat_inv f s hf _ j u hj
    simp at hk
    simp only [List.getElem_map, List.getElem_range] at hu
    have := (hc k hk).2 r u (by rw [hg k hk]; exact hu)
    rw [Nat.add_assoc] at this
    exact this
theorem in3_of {t e : TypeId} {k0 k1 k2 : IntKind} {f0 f1 f2 : Field} (ht : P.underlying t = some (.slice e)) (hc : P.cellsOf e = 3) (he : P.underlying e = some (.struct #[f0, f1, f2]))
    (hu : P.underlying f0.type = some (.int k0) ∧ P.underlying f1.type = some (.int k1) ∧ P.underlying f2.type = some (.int k2)) (ho : f0.offset = 0 ∧ f1.offset = 1 ∧ f2.offset = 2) (hcs : P.cellsOf f0.type = 1 ∧ P.cellsOf f1.type = 1 ∧ P.cellsOf f2.type = 1)
    {v : Value} {d : DataW H} {p : List MemPlace} (hv : Value.okWide P W .any base t v) (h : DataW.Trod enc P W 0 (fun _ => true) true t v d p) : In3 k0 k1 k2 W v := by
  obtain ⟨n, C, h1, h2⟩ := inStr_of ht (by rw [hc]; decide) hv h
  rw [hc] at h1
  have h3 : ∀ i, ∃ x : I3, i < n → C i = rec3 k0 k1 k2 x ∧ (Lit.int k0 x.1).wf = true ∧ (Lit.int k1 x.2.1).wf = true ∧ (Lit.int k2 x.2.2).wf = true := by
    intro i
    by_cases hi : i < n
    · obtain ⟨f, x, hx⟩ := h2 i hi
      obtain ⟨y0, y1, y2, f', _, hl, e0, e1, e2⟩ := Go.Deep.trod_struct3 he hx
      rw [hc] at hl
      match hC : C i, hl with
      | [u0, u1, u2], _ =>
        rw [hC] at e0 e1 e2
        simp only [hcs.1, hcs.2.1, hcs.2.2, ho.1, ho.2.1, ho.2.2, List.drop_zero, List.drop_succ_cons, List.take_succ_cons, List.take_zero] at e0 e1 e2
        obtain ⟨a0, z0, _, g0⟩ := DataW.trod_int hu.1 e0
        obtain ⟨a1, z1, _, g1⟩ := DataW.trod_int hu.2.1 e1
        obtain ⟨a2, z2, _, g2⟩ := DataW.trod_int hu.2.2 e2
        simp at z0 z1 z2
        subst z0 z1 z2
        exact ⟨(a0, a1, a2), fun _ => ⟨rfl, g0, g1, g2⟩⟩
    · exact ⟨(0, 0, 0), fun h => absurd h hi⟩
  refine ⟨(List.range n).map fun i => (h3 i).choose, ?_, fun x hx => ?_⟩
  · have := sees_of_str (rec3 k0 k1 k2) (fun _ => rfl) (fun i => (h3 i).choose) h1 (fun i hi => ((h3 i).choose_spec hi).1)
    rw [List.length_map, List.length_range]
    exact this
  · obtain ⟨i, hi, rfl⟩ := List.mem_map.1 hx
    exact ((h3 i).choose_spec (by simpa using hi)).2
end
end Go.Proofs.Ytlghbnoiakeibaa
