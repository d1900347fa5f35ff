/-
  How an argument reads: whole numbers, rows of them, as this seat's walks take them.
-/
import Derived.Test.YtlghbnoiakeibaaR
import Derived.ProofKit
import Derived.OpenShut
import Derived.Deep.Slices
import Derived.Deep.Strs
import Derived.Lib.SmallJoins
set_option linter.unusedVariables false
set_option linter.unusedSimpArgs false
namespace Go.Proofs.Ytlghbnoiakeibaa
open Go.ChangeShapes Go.WideShapes Go.ChangeAt Go.RowKit
section
variable {H : Type} {enc : TypeId × Value → H} {P : Program} {W : World} {base : Nat}
/-- A whole number came in. -/
def InInt (k : IntKind) (v : Value) : Prop := ∃ n, v = .int k n ∧ (Lit.int k n).wf = true
theorem inInt_of {t : TypeId} {k : IntKind} (ht : P.underlying t = some (.int k)) {v : Value} {d : DataW H} {p : List MemPlace} (hv : Value.okWide P W .any base t v) (h : DataW.Trod enc P W 0 (fun _ => true) true t v d p) : InInt k v := by
  obtain ⟨a, rfl, _, _, w0⟩ := open_int ht hv h
  exact ⟨a, rfl, w0⟩
def InBool (v : Value) : Prop := ∃ b, v = .bool b
theorem inBool_of {t : TypeId} (ht : P.underlying t = some .bool) {v : Value} {d : DataW H} {p : List MemPlace} (hv : Value.okWide P W .any base t v) (h : DataW.Trod enc P W 0 (fun _ => true) true t v d p) : InBool v := by
  obtain ⟨b, rfl, _, _⟩ := open_bool ht hv h
  exact ⟨b, rfl⟩
theorem add_some (a : Addr) (j : Nat) (hs : a.spot = none) : a.add j = ⟨a.block, a.off + j, none⟩ := by
  obtain ⟨b, o, s⟩ := a
  simp only at hs
  subst hs
  exact add_at b o j
theorem spot_of_cell {w : World} {a : Addr} {v : Value} (h : w.cell? a = some v) : a.spot = none := by
  cases hs : a.spot with
  | none => rfl
  | some s => simp [World.cell?, hs] at h; split at h <;> simp at h
/-- A row of whole numbers came in. -/
def InInts (k : IntKind) (w : World) (v : Value) : Prop := ∃ n xs, Sees w 1 v n (nums k xs) ∧ ∀ x ∈ xs, (Lit.int k x).wf = true
theorem inInts_cs {t e : TypeId} {k : IntKind} (ht : P.underlying t = some (.slice e)) (he : P.underlying e = some (.int k)) (hc : P.cellsOf e = 1) {fuel : Nat} {v : Value} {x : DataW H × List MemPlace}
    (h : DataW.trod enc P W 0 (fun _ => true) true fuel t [v] = some x) : InInts k W v := by
  rcases open_ints ht he hc h with ⟨hcs, _⟩ | ⟨a, l, c, zs, hcs, _, hl, hm, hz, _, hcell, hwz⟩
  · simp at hcs
    subst hcs
    exact ⟨0, [], ⟨rfl, by decide, .inl ⟨rfl, rfl⟩⟩, by simp⟩
  · simp at hcs
    subst hcs
    simp at hz
    have hsp : 0 < l → a.spot = none := fun h0 => by
      have := spot_of_cell (hcell 0 (by omega))
      simpa [Addr.add] using this
    refine ⟨l, zs.take l, ⟨by simp [nums]; omega, by omega, .inr ⟨a, c, rfl, hl, hm, hsp, fun j u hj => ?_⟩⟩, fun x hx => hwz x (List.mem_of_mem_take hx)⟩
    have hjl : j < l := by
      have := (List.getElem?_eq_some_iff.1 hj).1
      simp [nums] at this
      omega
    have := hcell j (by omega)
    rw [add_some a j (hsp (by omega))] at this
    rw [this, ← hj, nums_at _ _ _ (by simp; omega)]
    congr 2
    simp [List.getD_eq_getElem?_getD, List.getElem?_take_of_lt hjl]
theorem inInts_of {t e : TypeId} {k : IntKind} (ht : P.underlying t = some (.slice e)) (he : P.underlying e = some (.int k)) (hc : P.cellsOf e = 1) {v : Value} {d : DataW H} {p : List MemPlace} (hv : Value.okWide P W .any base t v)
    (h : DataW.Trod enc P W 0 (fun _ => true) true t v d p) : InInts k W v := by
  obtain ⟨fuel, hf⟩ := h
  obtain ⟨a, l, c, rfl⟩ := okWide_slice ht hv
  exact inInts_cs ht he hc (by simpa [Value.cells] using hf)
theorem InInts.keep {k : IntKind} {w w' : World} {v : Value} (h : InInts k w v) (hk : Kp [] w w') : InInts k w' v := by
  obtain ⟨n, xs, hs, hw⟩ := h
  exact ⟨n, xs, hs.keep hk (by simp), hw⟩
/-- A slice of slices of whole numbers came in. -/
def InRows (k : IntKind) (w : World) (v : Value) : Prop := ∃ n V, Sees w 1 v n ((List.range n).map V) ∧ ∀ i, i < n → InInts k w (V i)
theorem inRows_of {t e e' : TypeId} {k : IntKind} (ht : P.underlying t = some (.slice e)) (hc : P.cellsOf e = 1) (he : P.underlying e = some (.slice e')) (he' : P.underlying e' = some (.int k)) (hc' : P.cellsOf e' = 1) {v : Value} {d : DataW H} {p : List MemPlace}
    (hv : Value.okWide P W .any base t v) (h : DataW.Trod enc P W 0 (fun _ => true) true t v d p) : InRows k W v := by
  obtain ⟨fuel, hf⟩ := h
  obtain ⟨a0, l0, c0, rfl⟩ := okWide_slice ht hv
  rcases Go.Deep.open_slice1 ht hc (by simpa [Value.cells] using hf) with ⟨hcs, _⟩ | ⟨a, l, c, m, n, V, D, Pl, hcs, _, hl, hm, hmm, _, hx⟩
  · simp at hcs
    obtain ⟨rfl, rfl, rfl⟩ := hcs
    exact ⟨0, fun _ => .nilIface, ⟨rfl, by decide, .inl ⟨rfl, rfl⟩⟩, fun i h => absurd h (by omega)⟩
  · simp at hcs
    obtain ⟨rfl, rfl, rfl⟩ := hcs
    simp at hmm
    subst hmm
    have hsp : 0 < l0 → a.spot = none := fun h0 => by
      have := spot_of_cell (hx 0 (by omega)).1
      simpa [Addr.add] using this
    refine ⟨l0, V, ⟨by simp, by omega, .inr ⟨a, _, rfl, hl, hm, hsp, fun j u hj => ?_⟩⟩, fun i hi => inInts_cs he he' hc' (hx i (by omega)).2⟩
    have hjl : j < l0 := by
      have := (List.getElem?_eq_some_iff.1 hj).1
      simpa using this
    have := (hx j (by omega)).1
    rw [add_some a j (hsp (by omega))] at this
    rw [this, ← hj]
    simp [hjl]
/-- A slice of structs of s cells each came in: element i holds the cells C i. -/
def InStr (w : World) (s : Nat) (v : Value) (n : Nat) (C : Nat → List Value) : Prop :=
  n ≤ maxLen ∧ ((v = .slice none 0 0 ∧ n = 0) ∨ ∃ ad c, v = .slice (some ad) n c ∧ n ≤ c ∧ c ≤ maxLen ∧ ∀ i, i < n → ad.spot = none ∧ ∀ j u, (C i)[j]? = some u → w.cell? ⟨ad.block, ad.off + i * s + j, none⟩ = some u)
theorem InStr.shape {w : World} {s n : Nat} {v : Value} {C : Nat → List Value} (h : InStr w s v n C) : ∃ A c, v = .slice A n c := by
  rcases h.2 with ⟨rfl, rfl⟩ | ⟨ad, c, rfl, _⟩
  · exact ⟨none, 0, rfl⟩
  · exact ⟨_, c, rfl⟩
theorem InStr.place {w : World} {s n c : Nat} {A : Option Addr} {C : Nat → List Value} (h : InStr w s (.slice A n c) n C) (i : Nat) (hi : i < n) : ∃ g o, A = some ⟨g, o, none⟩ ∧ ∀ j u, (C i)[j]? = some u → w.cell? ⟨g, o + i * s + j, none⟩ = some u := by
  rcases h.2 with ⟨_, h0⟩ | ⟨ad, c', he, _, _, hc⟩
  · omega
  · simp only [Value.slice.injEq] at he
    obtain ⟨rfl, _, rfl⟩ := he
    obtain ⟨g, o, p⟩ := ad
    have := hc i hi
    obtain ⟨h1, h2⟩ := this
    simp only at h1
    subst h1
    exact ⟨g, o, rfl, h2⟩
theorem inStr_of {t e : TypeId} (ht : P.underlying t = some (.slice e)) (h0 : 0 < P.cellsOf e) {v : Value} {d : DataW H} {p : List MemPlace} (hv : Value.okWide P W .any base t v) (h : DataW.Trod enc P W 0 (fun _ => true) true t v d p) :
    ∃ n C, InStr W (P.cellsOf e) v n C ∧ ∀ i, i < n → ∃ m x, DataW.trod enc P W 0 (fun _ => true) true m e (C i) = some x := by
  obtain ⟨fuel, hf⟩ := h
  obtain ⟨a0, l0, c0, rfl⟩ := okWide_slice ht hv
  rcases Go.Deep.open_slice ht (by simpa [Value.cells] using hf) with ⟨hcs, _⟩ | ⟨a, l, c, m, n, D, Pl, hcs, _, hl, hm, hmm, _, hx⟩
  · simp at hcs
    obtain ⟨rfl, rfl, rfl⟩ := hcs
    exact ⟨0, fun _ => [], ⟨by decide, .inl ⟨rfl, rfl⟩⟩, fun i h => absurd h (by omega)⟩
  · simp at hcs
    obtain ⟨rfl, rfl, rfl⟩ := hcs
    simp at hmm
    subst hmm
    have hx' : ∀ i, ∃ cs', i < m → W.cells? 0 (a.add (i * P.cellsOf e)) (P.cellsOf e) = some cs' ∧ DataW.trod enc P W 0 (fun _ => true) true n e cs' = some (D i, Pl i) := fun i => by
      by_cases hi : i < m
      · obtain ⟨cs', h1, h2⟩ := hx i hi
        exact ⟨cs', fun _ => ⟨h1, h2⟩⟩
      · exact ⟨[], fun h => absurd h hi⟩
    have hsp : 0 < l0 → a.spot = none := fun h0' => by
      obtain ⟨cs', h1, _⟩ := hx 0 (by omega)
      have h2 := World.cells?_some h1
      have h3 := h2.2.2 0 h0
      have h4 : 0 < cs'.length := by rw [h2.2.1]; exact h0
      rw [List.getElem?_eq_getElem h4] at h3
      have := spot_of_cell h3
      simpa [Addr.add] using this
    refine ⟨l0, fun i => (hx' i).choose, ⟨by omega, .inr ⟨a, _, rfl, hl, hm, fun i hi => ⟨hsp (by omega), fun j u hj => ?_⟩⟩⟩, fun i hi => ⟨n, _, ((hx' i).choose_spec (by omega)).2⟩⟩
    have h1 := ((hx' i).choose_spec (by omega)).1
    have h2 := World.cells?_some h1
    have hjl : j < P.cellsOf e := by rw [← h2.2.1]; exact (List.getElem?_eq_some_iff.1 hj).1
    have h3 := h2.2.2 j hjl
    rw [hj, add_some a _ (hsp (by omega)), add_at] at h3
    exact h3
end
end Go.Proofs.Ytlghbnoiakeibaa
