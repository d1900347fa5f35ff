/-
  A map from pairs of whole numbers (a struct key) to whole numbers, as a function of the two numbers.
-/
import Derived.Test.YtlghbnoiakeibaaR
import Derived.ProofKit
import Derived.OpenShut
import Derived.Maps.OwnSet
import Derived.WideKeyEntry
import Derived.DeepKeys4
set_option linter.unusedVariables false
set_option linter.unusedSimpArgs false
namespace Go.Proofs.Ytlghbnoiakeibaa
open Go.ChangeShapes Go.WideShapes Go.WideElems Go.WideMaps Go.Maps
open Go.ChangeMaps (setBlock heap_setBlock_same heap_setBlock_other modify_eq_set)
/-- What the laws need of a key type: a struct of two whole numbers; and of the map's. -/
structure PairMap (P : Program) (t k e : TypeId) : Prop where
  law : KeyLaw P k
  map : P.underlying t = some (.map k e)
  elem : P.underlying e = some (.int .i64)
  zero : ∀ w : World, (zeroValue e).run P w = .ok (.int .i64 0) w
  lit : ∀ x y : Int, (Lit.int .i64 x).wf = true → (Lit.int .i64 y).wf = true → ∃ l, keyOf P k (.agg #[.int .i64 x, .int .i64 y]) = some l
def bump (f : Int → Int → Option Int) (x y v : Int) : Int → Int → Option Int := fun a b => if a = x ∧ b = y then some v else f a b
/-- Block b is a map of at most n entries that holds f. -/
def MapAt (P : Program) (k e : TypeId) (w : World) (b n : Nat) (f : Int → Int → Option Int) : Prop :=
  ∃ D : DataW Unit, w.ownsMap P k (plainElem P e) b n D ∧ ∀ x y l, keyOf P k (.agg #[.int .i64 x, .int .i64 y]) = some l → Maps.has D l = (f x y).isSome ∧ D.atKey l (.lit (.int .i64 0)) = .lit (.int .i64 ((f x y).getD 0))
section
variable {P : Program} {t k e : TypeId} {w w' : World} {b n : Nat} {f : Int → Int → Option Int}
theorem MapAt.made (w : World) : MapAt P k e (w.alloc (.map #[] 0)) w.heap.size 0 fun _ _ => none :=
  ⟨.map [], World.ownsMap_made _ _ _ _, fun x y l h => by simp [Maps.has, DataW.atKey]⟩
theorem MapAt.ofEmpty (h : w.heap[b]? = some (.map #[] 0)) : MapAt P k e w b 0 fun _ _ => none :=
  ⟨.map [], ⟨#[], 0, h, ⟨by simp, MapKept.stamped_empty 0, by simp⟩, Nat.le_refl _, rfl⟩, fun x y l h => by simp [Maps.has, DataW.atKey]⟩
theorem MapAt.ofEmptyC {cl : Nat} (h : w.heap[b]? = some (.map #[] cl)) : MapAt P k e w b 0 fun _ _ => none :=
  ⟨.map [], ⟨#[], cl, h, ⟨by simp, MapKept.stamped_empty cl, by simp⟩, Nat.le_refl _, rfl⟩, fun x y l h => by simp [Maps.has, DataW.atKey]⟩
theorem MapAt.keep {S : List Nat} (h : MapAt P k e w b n f) (hk : Kp S w w') (hb : b ∉ S) : MapAt P k e w' b n f := by
  obtain ⟨D, ⟨es, clock, h1, h2⟩, h3⟩ := h
  exact ⟨D, ⟨es, clock, hk.heap h1 hb, h2⟩, h3⟩
theorem MapAt.more {n' : Nat} (h : MapAt P k e w b n f) (hn : n ≤ n') : MapAt P k e w b n' f := by
  obtain ⟨D, ⟨es, clock, h1, h2, h4, h5⟩, h3⟩ := h
  exact ⟨D, ⟨es, clock, h1, h2, Nat.le_trans h4 hn, h5⟩, h3⟩
theorem MapAt.lt (h : MapAt P k e w b n f) : b < w.heap.size := by
  obtain ⟨D, h1, _⟩ := h
  exact h1.lt
theorem MapAt.look (M : PairMap P t k e) (h : MapAt P k e w b n f) {x y : Int} (hx : (Lit.int .i64 x).wf = true) (hy : (Lit.int .i64 y).wf = true) :
    (Instr.lookup t (.map (some b)) (.agg #[.int .i64 x, .int .i64 y]) false).run P w = .ok (.int .i64 ((f x y).getD 0)) w := by
  obtain ⟨D, h1, h2⟩ := h
  obtain ⟨l, hl⟩ := M.lit x y hx hy
  obtain ⟨c, hr, hc, _⟩ := h1.lookup_int (Keyed.of_law M.law) M.map M.elem (M.zero w) hl
  rw [(h2 x y l hl).2] at hc
  simp at hc
  rw [hr, ← hc]
theorem MapAt.lookOk (M : PairMap P t k e) (h : MapAt P k e w b n f) {x y : Int} (hx : (Lit.int .i64 x).wf = true) (hy : (Lit.int .i64 y).wf = true) :
    (Instr.lookup t (.map (some b)) (.agg #[.int .i64 x, .int .i64 y]) true).run P w = .ok (.tuple #[.int .i64 ((f x y).getD 0), .bool (f x y).isSome]) w := by
  obtain ⟨D, h1, h2⟩ := h
  obtain ⟨l, hl⟩ := M.lit x y hx hy
  obtain ⟨v, ps, hr, hv⟩ := h1.look_ok (Keyed.of_law M.law) M.map (M.zero w) (plainElem_int (H := Unit) M.elem (by decide)) hl
  rw [(h2 x y l hl).2] at hv
  obtain ⟨a, rfl, ha, _⟩ := plainElem_int_inv M.elem hv
  simp at ha
  rw [hr, ha.1, (h2 x y l hl).1]
theorem Kp.ofBlock {w : World} {b : Nat} {es : Array MapEntry} {cl : Nat} (o : Obj) (hb : w.heap[b]? = some (.map es cl)) : Kp [b] w (setBlock w b o) :=
  ⟨rfl, rfl, rfl, by simp [setBlock], fun i hi hn => heap_setBlock_other hb _ (fun h => hn (by simp [h]))⟩
theorem bumped {D : DataW Unit} (M : PairMap P t k e) (hD : IsMap D) (h2 : ∀ x y l, keyOf P k (.agg #[.int .i64 x, .int .i64 y]) = some l → Maps.has D l = (f x y).isSome ∧ D.atKey l (.lit (.int .i64 0)) = .lit (.int .i64 ((f x y).getD 0)))
    {x y v : Int} {l : Lit} (hl : keyOf P k (.agg #[.int .i64 x, .int .i64 y]) = some l) :
    ∀ x' y' l', keyOf P k (.agg #[.int .i64 x', .int .i64 y']) = some l' → Maps.has (D.put l (.lit (.int .i64 v))) l' = (bump f x y v x' y').isSome ∧ (D.put l (.lit (.int .i64 v))).atKey l' (.lit (.int .i64 0)) = .lit (.int .i64 ((bump f x y v x' y').getD 0)) := by
  intro x' y' l' hl'
  have hk := (Keyed.of_law M.law).key hl
  by_cases hxy : x' = x ∧ y' = y
  · obtain ⟨rfl, rfl⟩ := hxy
    obtain rfl : l' = l := by rw [hl] at hl'; simpa using hl'.symm
    exact ⟨by rw [has_put_same hD hk]; simp [bump], by rw [atKey_put_same hD hk]; simp [bump]⟩
  · have hne : l' ≠ l := fun he => by
      subst he
      have := M.law.inj hl' hl
      simp at this
      exact hxy this
    rw [has_put_other hne, atKey_put_other hne]
    simpa [bump, hxy] using h2 x' y' l' hl'
theorem MapAt.put (M : PairMap P t k e) (h : MapAt P k e w b n f) (hn : n < maxLen) {x y v : Int} (hx : (Lit.int .i64 x).wf = true) (hy : (Lit.int .i64 y).wf = true) (hv : (Lit.int .i64 v).wf = true) :
    ∃ w', (Instr.mapUpdate t (.map (some b)) (.agg #[.int .i64 x, .int .i64 y]) (.int .i64 v)).run P w = .ok () w' ∧ MapAt P k e w' b (n + 1) (bump f x y v) ∧ Kp [b] w w' := by
  obtain ⟨D, h1, h2⟩ := h
  obtain ⟨l, hl⟩ := M.lit x y hx hy
  obtain ⟨w', hr, ho, ht⟩ := h1.store (Keyed.of_law M.law) M.map hn hl (plainElem_int (H := Unit) M.elem hv)
  obtain ⟨es, cl, es', cl', hb, rfl⟩ := ht
  exact ⟨_, hr, ⟨_, ho, bumped M h1.isMap h2 hl⟩, Kp.ofBlock _ hb⟩
theorem entry_look {H : Type} {R : Value → Option (DataW H × List MemPlace)} {es : Array MapEntry} {clock : Nat} (K : KeyLaw P k) (ht : P.underlying t = some (.map k e)) {z : Value} (hz : ∀ u : World, (zeroValue e).run P u = .ok z u) (hb : w.heap[b]? = some (.map es clock)) (F : Fit P k R es clock)
    {key : Value} {kl : Lit} (hkey : keyOf P k key = some kl) :
    ∃ (v0 : Value) (es1 : Array MapEntry) (clock1 st : Nat), (Instr.mapEntry t (.map (some b)) key).run P w = .ok (.tuple #[v0, goInt st]) (setBlock w b (.map es1 clock1)) ∧
      (Instr.lookup t (.map (some b)) key false).run P w = .ok v0 w ∧ (Instr.mapUpdate t (.map (some b)) key v0).run P w = .ok () (setBlock w b (.map es1 clock1)) := by
  rcases K.find w hkey es.toList F.keys with ⟨h1, h2⟩ | ⟨j, e0, h1, h2, h3⟩
  · refine ⟨z, es.push ⟨key, z, clock⟩, clock + 1, clock, ?_, ?_, ?_⟩
    · simp [Instr.mapEntry, run_underlying ht, MapKept.run_getObj_map hb, K.check w false hkey, h1, hz, MapKept.run_setObj_map _ hb, Result.andThen, setBlock]
    · simp [Instr.lookup, run_underlying ht, MapKept.run_getObj_map hb, K.check w _ hkey, h1, hz, Result.andThen]
    · simp [Instr.mapUpdate, run_underlying ht, MapKept.run_getObj_map hb, K.check w false hkey, h1, MapKept.run_setObj_map _ hb, Result.andThen, setBlock]
  · have hj : es[j]? = some e0 := by simpa using h2
    have hsame : es.modify j (fun e => { e with key := key }) = es := by
      apply Array.ext'
      rw [Array.toList_modify, modify_eq_set _ _ _ _ h2]
      have : ({ e0 with key := key } : MapEntry) = e0 := by rw [← h3]
      rw [this]
      exact set_self _ _ _ h2
    have hsame2 : es.modify j (fun e => { e with key := key, val := e0.val }) = es := by
      apply Array.ext'
      rw [Array.toList_modify, modify_eq_set _ _ _ _ h2]
      have : ({ e0 with key := key, val := e0.val } : MapEntry) = e0 := by rw [← h3]
      rw [this]
      exact set_self _ _ _ h2
    refine ⟨e0.val, es, clock, e0.born, ?_, ?_, ?_⟩
    · simp [Instr.mapEntry, run_underlying ht, MapKept.run_getObj_map hb, K.check w false hkey, h1, hj, h3, K.stays w hkey, hsame, MapKept.run_setObj_map _ hb, Result.andThen, setBlock]
    · simp [Instr.lookup, run_underlying ht, MapKept.run_getObj_map hb, K.check w _ hkey, h1, Result.andThen]
    · simp [Instr.mapUpdate, run_underlying ht, MapKept.run_getObj_map hb, K.check w false hkey, h1, hj, h3, K.stays w hkey, hsame2, MapKept.run_setObj_map _ hb, Result.andThen, setBlock]
theorem MapAt.entry (M : PairMap P t k e) (h : MapAt P k e w b n f) (hn : n < maxLen) {x y : Int} (hx : (Lit.int .i64 x).wf = true) (hy : (Lit.int .i64 y).wf = true) :
    ∃ st w1, (Instr.mapEntry t (.map (some b)) (.agg #[.int .i64 x, .int .i64 y])).run P w = .ok (.tuple #[.int .i64 ((f x y).getD 0), goInt st]) w1 ∧ Kp [b] w w1 ∧ MapAt P k e w1 b (n + 1) (bump f x y ((f x y).getD 0)) ∧
      ∀ w2 v, w2.heap[b]? = w1.heap[b]? → (Lit.int .i64 v).wf = true → ∃ w', (Instr.entryStore t (.map (some b)) (goInt st) (.int .i64 v)).run P w2 = .ok () w' ∧ MapAt P k e w' b (n + 1) (bump f x y v) ∧ Kp [b] w2 w' := by
  have hlook := h.look M hx hy
  have h0 := h
  obtain ⟨D, h1, h2⟩ := h
  obtain ⟨l, hl⟩ := M.lit x y hx hy
  obtain ⟨c, hrc, hcc, hwf⟩ := h1.lookup_int (Keyed.of_law M.law) M.map M.elem (M.zero w) hl
  have h1' := h1
  obtain ⟨es, cl, hb, F, hs, hD⟩ := h1'
  obtain ⟨v0, st, es1, cl1, hr, _, hst⟩ := entry_then_store M.law M.map M.zero hb F hl
  obtain ⟨v1, es2, cl2, st2, hr2, hl2, hu2⟩ := entry_look M.law M.map M.zero hb F hl
  rw [hr] at hr2
  simp only [Result.ok.injEq, Value.tuple.injEq, Array.mk.injEq, List.cons.injEq, and_true] at hr2
  obtain ⟨⟨rfl, hst2⟩, hw12⟩ := hr2
  rw [hlook] at hl2
  simp only [Result.ok.injEq, and_true] at hl2
  subst hl2
  rw [hlook] at hrc
  simp only [Result.ok.injEq, Value.int.injEq, true_and, and_true] at hrc
  obtain ⟨w1', hr1, ho1, ht1⟩ := h1.store (Keyed.of_law M.law) M.map hn hl (plainElem_int (H := Unit) M.elem (show (Lit.int .i64 ((f x y).getD 0)).wf = true by rw [hrc]; exact hwf))
  rw [hu2] at hr1
  simp only [Result.ok.injEq, true_and] at hr1
  rw [← hw12] at hr1
  refine ⟨st, _, hr, Kp.ofBlock _ hb, ?_, fun w2 v hw hv => ?_⟩
  · rw [hr1]
    exact ⟨_, ho1, bumped M h1.isMap h2 hl⟩
  rw [heap_setBlock_same hb] at hw
  obtain ⟨es', cl', hr2, hu⟩ := hst w2 (.int .i64 v) hw
  obtain ⟨w', hr3, ho, _⟩ := h1.store (Keyed.of_law M.law) M.map hn hl (plainElem_int (H := Unit) M.elem hv)
  rw [hu] at hr3
  simp at hr3
  subst hr3
  refine ⟨_, hr2, ⟨_, ?_, bumped M h1.isMap h2 hl⟩, Kp.ofBlock _ hw⟩
  obtain ⟨es2, cl2, hb2, h4⟩ := ho
  rw [heap_setBlock_same hb] at hb2
  exact ⟨es2, cl2, (heap_setBlock_same hw _).trans hb2, h4⟩
end
theorem MapAt.clear {P : Program} {t k e ty : TypeId} {w : World} {b n : Nat} {f : Int → Int → Option Int} (M : PairMap P t k e) (h : MapAt P k e w b n f) :
    ∃ w', (Builtin.clear_ #[t] ty #[.map (some b)]).run P w = .ok (.tuple #[]) w' ∧ MapAt P k e w' b 0 (fun _ _ => none) ∧ Kp [b] w w' := by
  obtain ⟨D, ⟨es, cl, hb, _⟩, _⟩ := h
  refine ⟨setBlock w b (.map #[] cl), ?_, MapAt.ofEmptyC (heap_setBlock_same hb _), Kp.ofBlock _ hb⟩
  simp [Builtin.clear_, run_underlying M.map, MapKept.run_getObj_map hb, MapKept.run_setObj_map _ hb, Result.andThen, setBlock]
theorem key_lit {P : Program} {k : TypeId} {fa fb : Field} (hk : P.underlying k = some (.struct #[fa, fb])) (h1 : P.keyType k = true) (h2 : P.cellsOf k = 2) (hn : (fa.name != "_") = true ∧ (fb.name != "_") = true) (ho : fa.offset = 0 ∧ fb.offset = 1) (hc : P.cellsOf fa.type = 1 ∧ P.cellsOf fb.type = 1)
    (ha : P.underlying fa.type = some (.int .i64)) (hb : P.underlying fb.type = some (.int .i64)) (hz : ∃ m, P.types.size = m + 1) (x y : Int) (hx : (Lit.int .i64 x).wf = true) (hy : (Lit.int .i64 y).wf = true) : ∃ l, keyOf P k (.agg #[.int .i64 x, .int .i64 y]) = some l := by
  obtain ⟨m, hm⟩ := hz
  unfold keyOf
  rw [hk]
  simp [h1, Value.formed, hk, h2, hm, Program.keyLits, Value.cells, hn.1, hn.2, ho.1, ho.2, hc.1, hc.2, ha, hb, hx, hy]
end Go.Proofs.Ytlghbnoiakeibaa
