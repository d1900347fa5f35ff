/-
  How an argument reads: whole numbers, rows of them, as this seat's walks take them.
-/
import Derived.Test.YtfehjkhbjbcliaaR
import Derived.ProofKit
import Derived.OpenShut
namespace Go.Proofs.Ytfehjkhbjbcliaa
open Go.ChangeShapes Go.WideShapes Go.ChangeAt Go.RowKit
section
variable {H : Type} {enc : TypeId × Value → H} {P : Program} {W : World} {base : Nat}
/-- A whole number came in. -/
def InInt (k : IntKind) (v : Value) : Prop := ∃ n, v = .int k n ∧ (Lit.int k n).wf = true
theorem inInt_of {t : TypeId} {k : IntKind} (ht : P.underlying t = some (.int k)) {v : Value} {d : DataW H} {p : List MemPlace} (hv : Value.okWide P W .any base t v) (h : DataW.Trod enc P W 0 (fun _ => true) true t v d p) : InInt k v := by
  obtain ⟨a, rfl, _, _, w0⟩ := open_int ht hv h
  exact ⟨a, rfl, w0⟩
def InBool (v : Value) : Prop := ∃ b, v = .bool b
theorem inBool_of {t : TypeId} (ht : P.underlying t = some .bool) {v : Value} {d : DataW H} {p : List MemPlace} (hv : Value.okWide P W .any base t v) (h : DataW.Trod enc P W 0 (fun _ => true) true t v d p) : InBool v := by
  obtain ⟨b, rfl, _, _⟩ := open_bool ht hv h
  exact ⟨b, rfl⟩
theorem add_some (a : Addr) (j : Nat) (hs : a.spot = none) : a.add j = ⟨a.block, a.off + j, none⟩ := by
  obtain ⟨b, o, s⟩ := a
  simp only at hs
  subst hs
  exact add_at b o j
theorem spot_of_cell {w : World} {a : Addr} {v : Value} (h : w.cell? a = some v) : a.spot = none := by
  cases hs : a.spot with
  | none => rfl
  | some s => simp [World.cell?, hs] at h; split at h <;> simp at h
/-- A row of whole numbers came in. -/
def InInts (k : IntKind) (w : World) (v : Value) : Prop := ∃ n xs, Sees w 1 v n (nums k xs) ∧ ∀ x ∈ xs, (Lit.int k x).wf = true
theorem inInts_cs {t e : TypeId} {k : IntKind} (ht : P.underlying t = some (.slice e)) (he : P.underlying e = some (.int k)) (hc : P.cellsOf e = 1) {fuel : Nat} {v : Value} {x : DataW H × List MemPlace}
    (h : DataW.trod enc P W 0 (fun _ => true) true fuel t [v] = some x) : InInts k W v := by
  rcases open_ints ht he hc h with ⟨hcs, _⟩ | ⟨a, l, c, zs, hcs, _, hl, hm, hz, _, hcell, hwz⟩
  · simp at hcs
    subst hcs
    exact ⟨0, [], ⟨rfl, by decide, .inl ⟨rfl, rfl⟩⟩, by simp⟩
  · simp at hcs
    subst hcs
    simp at hz
    have hsp : 0 < l → a.spot = none := fun h0 => by
      have := spot_of_cell (hcell 0 (by omega))
      simpa [Addr.add] using this
    refine ⟨l, zs.take l, ⟨by simp [nums]; omega, by omega, .inr ⟨a, c, rfl, hl, hm, hsp, fun j u hj => ?_⟩⟩, fun x hx => hwz x (List.mem_of_mem_take hx)⟩
    have hjl : j < l := by
      have := (List.getElem?_eq_some_iff.1 hj).1
      simp [nums] at this
      omega
    have := hcell j (by omega)
    rw [add_some a j (hsp (by omega))] at this
    rw [this, ← hj, nums_at _ _ _ (by simp; omega)]
    congr 2
    simp [List.getD_eq_getElem?_getD, List.getElem?_take_of_lt hjl]
theorem inInts_of {t e : TypeId} {k : IntKind} (ht : P.underlying t = some (.slice e)) (he : P.underlying e = some (.int k)) (hc : P.cellsOf e = 1) {v : Value} {d : DataW H} {p : List MemPlace} (hv : Value.okWide P W .any base t v)
    (h : DataW.Trod enc P W 0 (fun _ => true) true t v d p) : InInts k W v := by
  obtain ⟨fuel, hf⟩ := h
  obtain ⟨a, l, c, rfl⟩ := okWide_slice ht hv
  exact inInts_cs ht he hc (by simpa [Value.cells] using hf)
end
end Go.Proofs.Ytfehjkhbjbcliaa
