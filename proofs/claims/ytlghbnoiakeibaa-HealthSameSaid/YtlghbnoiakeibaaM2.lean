/-
  A map from pairs of whole numbers to pairs of whole numbers.
-/
import Derived.Test.YtlghbnoiakeibaaM
set_option linter.unusedVariables false
set_option linter.unusedSimpArgs false
namespace Go.Proofs.Ytlghbnoiakeibaa
open Go.ChangeShapes Go.WideShapes Go.WideElems Go.WideMaps Go.Maps
open Go.ChangeMaps (setBlock heap_setBlock_same heap_setBlock_other modify_eq_set)
/-- How an element that is a pair reads. -/
def pairElem (v : Value) : Option (DataW Unit × List MemPlace) :=
  match v with
  | .agg ⟨[.int .i64 a, .int .i64 b]⟩ => some (.agg [.lit (.int .i64 a), .lit (.int .i64 b)], [])
  | _ => none
theorem pairElem_inv {v : Value} {a b : Int} {ps : List MemPlace} (h : pairElem v = some (.agg [.lit (.int .i64 a), .lit (.int .i64 b)], ps)) : v = .agg #[.int .i64 a, .int .i64 b] := by
  unfold pairElem at h
  split at h
  · simp at h
    obtain ⟨⟨rfl, rfl⟩, _⟩ := h
    rfl
  · simp at h
def pd (x : Int × Int) : DataW Unit := .agg [.lit (.int .i64 x.1), .lit (.int .i64 x.2)]
structure PairMap2 (P : Program) (t k e : TypeId) : Prop where
  law : KeyLaw P k
  map : P.underlying t = some (.map k e)
  zero : ∀ w : World, (zeroValue e).run P w = .ok (.agg #[.int .i64 0, .int .i64 0]) w
  lit : ∀ x y : Int, (Lit.int .i64 x).wf = true → (Lit.int .i64 y).wf = true → ∃ l, keyOf P k (.agg #[.int .i64 x, .int .i64 y]) = some l
def bump2 (f : Int → Int → Option (Int × Int)) (x y : Int) (v : Int × Int) : Int → Int → Option (Int × Int) := fun a b => if a = x ∧ b = y then some v else f a b
def Map2At (P : Program) (k : TypeId) (w : World) (b n : Nat) (f : Int → Int → Option (Int × Int)) : Prop :=
  ∃ D : DataW Unit, w.ownsMap P k pairElem b n D ∧ ∀ x y l, keyOf P k (.agg #[.int .i64 x, .int .i64 y]) = some l → Maps.has D l = (f x y).isSome ∧ D.atKey l (pd (0, 0)) = pd ((f x y).getD (0, 0))
section
variable {P : Program} {t k e : TypeId} {w w' : World} {b n : Nat} {f : Int → Int → Option (Int × Int)}
theorem Map2At.ofEmpty (h : w.heap[b]? = some (.map #[] 0)) : Map2At P k w b 0 fun _ _ => none :=
  ⟨.map [], ⟨#[], 0, h, ⟨by simp, MapKept.stamped_empty 0, by simp⟩, Nat.le_refl _, rfl⟩, fun x y l h => by simp [Maps.has, DataW.atKey]⟩
theorem Map2At.keep {S : List Nat} (h : Map2At P k w b n f) (hk : Kp S w w') (hb : b ∉ S) : Map2At P k w' b n f := by
  obtain ⟨D, ⟨es, clock, h1, h2⟩, h3⟩ := h
  exact ⟨D, ⟨es, clock, hk.heap h1 hb, h2⟩, h3⟩
theorem Map2At.lt (h : Map2At P k w b n f) : b < w.heap.size := by
  obtain ⟨D, h1, _⟩ := h
  exact h1.lt
theorem Map2At.lookOk (M : PairMap2 P t k e) (h : Map2At P k w b n f) {x y : Int} (hx : (Lit.int .i64 x).wf = true) (hy : (Lit.int .i64 y).wf = true) :
    (Instr.lookup t (.map (some b)) (.agg #[.int .i64 x, .int .i64 y]) true).run P w = .ok (.tuple #[.agg #[.int .i64 ((f x y).getD (0, 0)).1, .int .i64 ((f x y).getD (0, 0)).2], .bool (f x y).isSome]) w := by
  obtain ⟨D, h1, h2⟩ := h
  obtain ⟨l, hl⟩ := M.lit x y hx hy
  obtain ⟨v, ps, hr, hv⟩ := h1.look_ok (Keyed.of_law M.law) M.map (M.zero w) (show pairElem _ = some (pd (0, 0), []) from rfl) hl
  rw [(h2 x y l hl).2] at hv
  obtain rfl := pairElem_inv hv
  rw [hr, (h2 x y l hl).1]
theorem Map2At.put (M : PairMap2 P t k e) (h : Map2At P k w b n f) (hn : n < maxLen) {x y : Int} {v : Int × Int} (hx : (Lit.int .i64 x).wf = true) (hy : (Lit.int .i64 y).wf = true) :
    ∃ w', (Instr.mapUpdate t (.map (some b)) (.agg #[.int .i64 x, .int .i64 y]) (.agg #[.int .i64 v.1, .int .i64 v.2])).run P w = .ok () w' ∧ Map2At P k w' b (n + 1) (bump2 f x y v) ∧ Kp [b] w w' := by
  obtain ⟨D, h1, h2⟩ := h
  obtain ⟨l, hl⟩ := M.lit x y hx hy
  obtain ⟨w', hr, ho, ht⟩ := h1.store (Keyed.of_law M.law) M.map hn hl (show pairElem (.agg #[.int .i64 v.1, .int .i64 v.2]) = some (pd v, []) from rfl)
  obtain ⟨es, cl, es', cl', hb, rfl⟩ := ht
  refine ⟨_, hr, ⟨_, ho, ?_⟩, Kp.ofBlock _ hb⟩
  intro x' y' l' hl'
  have hk := (Keyed.of_law M.law).key hl
  by_cases hxy : x' = x ∧ y' = y
  · obtain ⟨rfl, rfl⟩ := hxy
    obtain rfl : l' = l := by rw [hl] at hl'; simpa using hl'.symm
    exact ⟨by rw [has_put_same h1.isMap hk]; simp [bump2], by rw [atKey_put_same h1.isMap hk]; simp [bump2]⟩
  · have hne : l' ≠ l := fun he => by
      subst he
      have := M.law.inj hl' hl
      simp at this
      exact hxy this
    rw [has_put_other hne, atKey_put_other hne]
    simpa [bump2, hxy] using h2 x' y' l' hl'
end
theorem key_lit2 {P : Program} {k e : TypeId} (hk : P.underlying k = some (.array 2 e)) (h1 : P.keyType k = true) (h2 : P.cellsOf k = 2) (hc : P.cellsOf e = 1)
    (ha : P.underlying e = some (.int .i64)) (hz : ∃ m, P.types.size = m + 1) (x y : Int) (hx : (Lit.int .i64 x).wf = true) (hy : (Lit.int .i64 y).wf = true) : ∃ l, keyOf P k (.agg #[.int .i64 x, .int .i64 y]) = some l := by
  obtain ⟨m, hm⟩ := hz
  unfold keyOf
  rw [hk]
  simp [h1, Value.formed, hk, h2, hm, Program.keyLits, Value.cells, hc, ha, hx, hy, List.range_succ]
end Go.Proofs.Ytlghbnoiakeibaa
