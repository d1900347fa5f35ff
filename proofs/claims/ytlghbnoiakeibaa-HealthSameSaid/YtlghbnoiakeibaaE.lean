/-
  When two maps keyed by pairs of whole numbers are held equal.
-/
import Derived.Test.YtlghbnoiakeibaaM
import Derived.Lib.SlMapEqual
import Derived.Lib.SlMapMerge
import Derived.Maps.RangeWalk
import Derived.Laws.IdiomRangeMap
set_option linter.unusedVariables false
set_option linter.unusedSimpArgs false
namespace Go.Proofs.Ytlghbnoiakeibaa
open Go.ChangeShapes Go.WideShapes Go.WideElems Go.WideMaps Go.Maps
/-- Whatever is a key is a pair of whole numbers. -/
def PairInv (P : Program) (k : TypeId) : Prop := ∀ v l, keyOf P k v = some l → ∃ x y, v = .agg #[.int .i64 x, .int .i64 y] ∧ (Lit.int .i64 x).wf = true ∧ (Lit.int .i64 y).wf = true
theorem keyLits_i64 {P : Program} {t : TypeId} (ht : P.underlying t = some (.int .i64)) {d : Nat} {a : Value} {ls : List Lit} (h : P.keyLits (d + 1) t [a] = some ls) : ∃ x, a = .int .i64 x ∧ (Lit.int .i64 x).wf = true := by
  unfold Program.keyLits at h
  rw [ht] at h
  cases a <;> simp at h
  rename_i q n
  exact ⟨n, by rw [h.1.1], h.1.2⟩
theorem keyLits_two {P : Program} {k : TypeId} {fa fb : Field} (hk : P.underlying k = some (.struct #[fa, fb])) (ho : fa.offset = 0 ∧ fb.offset = 1) (hc : P.cellsOf fa.type = 1 ∧ P.cellsOf fb.type = 1) {d : Nat} {a b : Value} {ls : List Lit} (h : P.keyLits (d + 1) k [a, b] = some ls) :
    ∃ l1 l2, P.keyLits d fa.type [a] = some l1 ∧ P.keyLits d fb.type [b] = some l2 := by
  unfold Program.keyLits at h
  rw [hk] at h
  simp only at h
  split at h
  · simp only [List.mapM_cons, List.mapM_nil, ho.1, ho.2, hc.1, hc.2, List.drop_zero, List.drop_succ_cons, List.take_succ_cons, List.take_zero] at h
    cases e1 : P.keyLits d fa.type [a] with
    | none => simp [e1] at h
    | some l1 =>
      cases e2 : P.keyLits d fb.type [b] with
      | none => simp [e1, e2] at h
      | some l2 => exact ⟨l1, l2, rfl, rfl⟩
  · simp at h
theorem key_inv {P : Program} {k : TypeId} {fa fb : Field} (hk : P.underlying k = some (.struct #[fa, fb])) (h2 : P.cellsOf k = 2) (ho : fa.offset = 0 ∧ fb.offset = 1) (hc : P.cellsOf fa.type = 1 ∧ P.cellsOf fb.type = 1)
    (ha : P.underlying fa.type = some (.int .i64)) (hb : P.underlying fb.type = some (.int .i64)) (hz : ∃ m, P.types.size = m + 1) : PairInv P k := by
  obtain ⟨m, hm⟩ := hz
  intro v l h
  unfold keyOf at h
  rw [hk] at h
  simp only at h
  split at h
  · rename_i hf
    simp only [Bool.and_eq_true] at hf
    replace hf := hf.2
    cases v <;> simp [Value.formed, hk] at hf
    rename_i cs
    obtain ⟨cs⟩ := cs
    rw [h2] at hf
    match cs, hf with
    | [a, b], _ =>
      rw [hm, show (Value.agg ⟨[a, b]⟩).cells.toList = [a, b] from rfl] at h
      cases e0 : P.keyLits (m + 1 + 1) k [a, b] with
      | none => rw [e0] at h; simp at h
      | some ls =>
        obtain ⟨l1, l2, e1, e2⟩ := keyLits_two hk ho hc e0
        obtain ⟨x, rfl, hx⟩ := keyLits_i64 ha e1
        obtain ⟨y, rfl, hy⟩ := keyLits_i64 hb e2
        exact ⟨x, y, rfl, hx, hy⟩
  · simp at h
def eqI (a b : DataW Unit) : Bool := match a, b with | .lit (.int .i64 a), .lit (.int .i64 b) => a == b | _, _ => false
theorem pigeon {α : Type} [DecidableEq α] : ∀ (l1 l2 : List α), l1.Nodup → (∀ a ∈ l1, a ∈ l2) → l2.length ≤ l1.length → ∀ a ∈ l2, a ∈ l1
  | [], l2, _, _, hl, a, ha => by
    have : l2 = [] := List.eq_nil_of_length_eq_zero (by simpa using hl)
    subst this; simp at ha
  | b :: t, l2, hn, hs, hl, a, ha => by
    by_cases hab : a = b
    · simp [hab]
    · have hb := hs b (by simp)
      have h1 := pigeon t (l2.erase b) (List.nodup_cons.1 hn).2 (fun c hc => (List.mem_erase_of_ne (by rintro rfl; exact (List.nodup_cons.1 hn).1 hc)).2 (hs c (by simp [hc])))
        (by rw [List.length_erase_of_mem hb]; simp at hl; omega) a ((List.mem_erase_of_ne hab).2 ha)
      simp [h1]
section
variable {P : Program} {t k e : TypeId} {w : World} {b1 b2 n1 n2 : Nat} {f1 f2 : Int → Int → Option Int} {D1 D2 : DataW Unit}
/-- f is what D holds. -/
def Holds (P : Program) (k : TypeId) (D : DataW Unit) (f : Int → Int → Option Int) : Prop :=
  ∀ x y l, keyOf P k (.agg #[.int .i64 x, .int .i64 y]) = some l → Maps.has D l = (f x y).isSome ∧ D.atKey l (.lit (.int .i64 0)) = .lit (.int .i64 ((f x y).getD 0))
def SameF (f g : Int → Int → Option Int) : Prop := ∀ x y, (Lit.int .i64 x).wf = true → (Lit.int .i64 y).wf = true → f x y = g x y
theorem eqD_iff (M : PairMap P t k e) (I : PairInv P k) (c1 : CanonK (KeysOf P k) D1) (c2 : CanonK (KeysOf P k) D2) (h1 : Holds P k D1 f1) (h2 : Holds P k D2 f2) :
    Lib.equalFuncD eqI D1 D2 = true ↔ SameF f1 f2 := by
  have O := (Keyed.of_law M.law).one
  have k1 := c1.canon O
  have k2 := c2.canon O
  obtain ⟨es1, rfl, r1, q1⟩ := c1
  obtain ⟨es2, rfl, r2, q2⟩ := c2
  have ap1 := apart_of_rising r1
  have ap2 := apart_of_rising r2
  have kl : ∀ {l : Lit}, KeysOf P k l → WideAt.IsKeyLit l := fun ⟨v, h⟩ => (Keyed.of_law M.law).key h
  have mem_has : ∀ {es : List (Lit × DataW Unit)} {p : Lit × DataW Unit}, KeysOf P k p.1 → p ∈ es → Maps.has (.map es) p.1 = true := fun hp hm => List.any_eq_true.2 ⟨_, hm, WideAt.sameKey_self (kl hp)⟩
  have has_mem : ∀ {es : List (Lit × DataW Unit)} {l : Lit}, Maps.has (.map es) l = true → ∃ d, (l, d) ∈ es := fun {es l} h => by
    obtain ⟨p, hp, hs⟩ := List.any_eq_true.1 (show es.any (fun p => p.1.sameKey l) = true from h)
    exact ⟨p.2, by rw [← WideAt.sameKey_eq hs]; exact hp⟩
  constructor
  · intro h x y hx hy
    unfold Lib.equalFuncD at h
    simp only [Bool.and_eq_true, decide_eq_true_eq, Lib.entriesD, Maps.size_eq] at h
    obtain ⟨hsz, hall⟩ := h
    have hall := List.all_eq_true.1 hall
    obtain ⟨l, hl⟩ := M.lit x y hx hy
    obtain ⟨a1, a2⟩ := h1 x y l hl
    obtain ⟨a3, a4⟩ := h2 x y l hl
    cases hh : Maps.has (.map es1 : DataW Unit) l
    · rw [hh] at a1
      have hf1 : f1 x y = none := by cases hf : f1 x y <;> simp [hf] at a1 ⊢
      rw [hf1]
      cases hf2 : f2 x y with
      | none => rfl
      | some z =>
        exfalso
        rw [hf2] at a3
        obtain ⟨d, hd⟩ := has_mem a3
        have hk1 : ((es1.map (·.1)).Nodup) := by
          rw [List.nodup_iff_pairwise_ne, List.pairwise_map]
          exact ap1
        letI : DecidableEq Lit := fun a b => Classical.propDecidable (a = b)
        have hsz' : es1.length = es2.length := of_decide_eq_true hsz
        have := pigeon (es1.map (·.1)) (es2.map (·.1)) hk1 (fun a ha => by
          obtain ⟨p, hp, rfl⟩ := List.mem_map.1 ha
          have hg := hall p hp
          unfold Lib.goodD at hg
          simp only [Bool.and_eq_true] at hg
          obtain ⟨d', hd'⟩ := has_mem hg.1
          exact List.mem_map.2 ⟨_, hd', rfl⟩) (by simp; omega) l (List.mem_map.2 ⟨_, hd, rfl⟩)
        obtain ⟨p, hp, hpl⟩ := List.mem_map.1 this
        have := mem_has (q1 p hp) hp
        rw [hpl, hh] at this
        cases this
    · rw [hh] at a1
      obtain ⟨d, hd⟩ := has_mem hh
      have hg := hall _ hd
      unfold Lib.goodD at hg
      simp only [Bool.and_eq_true] at hg
      obtain ⟨g1, g2⟩ := hg
      rw [g1] at a3
      have hdl := WideAt.atKey_mem (.lit (.int .i64 0)) (kl (q1 _ hd)) ap1 hd
      rw [a2] at hdl
      rw [← hdl, atKey_indep g1 .nil (.lit (.int .i64 0)), a4] at g2
      cases hf1 : f1 x y <;> cases hf2 : f2 x y <;> simp [hf1, hf2, eqI] at a1 a3 g2 ⊢
      exact g2
  · intro hs
    have hD : (.map es1 : DataW Unit) = .map es2 := by
      have key : ∀ l, Maps.has (.map es1 : DataW Unit) l = true ∨ Maps.has (.map es2 : DataW Unit) l = true → ∃ x y, keyOf P k (.agg #[.int .i64 x, .int .i64 y]) = some l ∧ f1 x y = f2 x y := fun l h => by
        have : KeysOf P k l := by
          rcases h with h | h
          · obtain ⟨d, hd⟩ := has_mem h; exact q1 _ hd
          · obtain ⟨d, hd⟩ := has_mem h; exact q2 _ hd
        obtain ⟨v, hv⟩ := this
        obtain ⟨x, y, rfl, hx, hy⟩ := I v l hv
        exact ⟨x, y, hv, hs x y hx hy⟩
      refine Maps.ext k1 k2 (fun l => ?_) (fun l z hl => ?_)
      · cases e1 : Maps.has (.map es1 : DataW Unit) l <;> cases e2 : Maps.has (.map es2 : DataW Unit) l <;> try rfl
        all_goals
          obtain ⟨x, y, hk, hf⟩ := key l (by simp [e1, e2])
          have a1 := (h1 x y l hk).1
          have a2 := (h2 x y l hk).1
          rw [e1] at a1
          rw [e2, ← hf, ← a1] at a2
          cases a2
      · obtain ⟨x, y, hk, hf⟩ := key l (.inl hl)
        have a1 := h1 x y l hk
        have a2 := h2 x y l hk
        have hl2 : Maps.has (.map es2 : DataW Unit) l = true := by rw [a2.1, ← hf, ← a1.1]; exact hl
        rw [atKey_indep hl z (.lit (.int .i64 0)), atKey_indep hl2 z (.lit (.int .i64 0)), a1.2, a2.2, hf]
    rw [← hD]
    unfold Lib.equalFuncD
    simp only [decide_true, Bool.true_and, Lib.entriesD]
    refine List.all_eq_true.2 fun p hp => ?_
    have hh := mem_has (q1 p hp) hp
    obtain ⟨v, hv⟩ := q1 p hp
    obtain ⟨x, y, rfl, hx, hy⟩ := I v _ hv
    have hd := WideAt.atKey_mem (.lit (.int .i64 0)) (kl (q1 _ hp)) ap1 (show (p.1, p.2) ∈ es1 from hp)
    rw [(h1 x y _ hv).2] at hd
    unfold Lib.goodD
    rw [hh, atKey_indep hh .nil (.lit (.int .i64 0)), (h1 x y _ hv).2, ← hd]
    simp [eqI]
open Classical in
noncomputable def sameFB (f g : Int → Int → Option Int) : Bool := decide (SameF f g)
theorem sameFB_iff {f g : Int → Int → Option Int} : sameFB f g = true ↔ SameF f g := by unfold sameFB; simp
theorem sameFB_refl (f : Int → Int → Option Int) : sameFB f f = true := sameFB_iff.2 fun _ _ _ _ => rfl
theorem eqD_B (M : PairMap P t k e) (I : PairInv P k) (c1 : CanonK (KeysOf P k) D1) (c2 : CanonK (KeysOf P k) D2) (h1 : Holds P k D1 f1) (h2 : Holds P k D2 f2) : Lib.equalFuncD eqI D1 D2 = sameFB f1 f2 := by
  rw [Bool.eq_iff_iff, eqD_iff M I c1 c2 h1 h2, sameFB_iff]
end
end Go.Proofs.Ytlghbnoiakeibaa
