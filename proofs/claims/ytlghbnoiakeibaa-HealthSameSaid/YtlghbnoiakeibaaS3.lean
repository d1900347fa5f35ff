import Derived.Test.YtlghbnoiakeibaaS2
set_option linter.unusedVariables false
set_option linter.unusedSimpArgs false
namespace Go.Proofs.Ytlghbnoiakeibaa
open Go.RowKit
theorem MonAt.keep {S : List Nat} {w w' : World} {b n k : Nat} {m : Bool} {f c : Int → Int → Option Int} (h : MonAt w b m f c n k) (hk : Kp S w w') (hS : ∀ x ∈ S, w.heap.size ≤ x) : MonAt w' b m f c n k := by
  obtain ⟨r, q, hb, h1, h2, h3⟩ := h
  have lb := blk_lt hb
  have l1 := h1.lt
  have l2 := h2.lt
  exact ⟨r, q, hk.heap hb (fun h => by have := hS _ h; omega), h1.keep hk (fun h => by have := hS _ h; omega), h2.keep hk (fun h => by have := hS _ h; omega), h3⟩
theorem rule_calls (w : World) (b : Nat) (m : Bool) (f c : Int → Int → Option Int) (n k : Nat) (h : MonAt w b m f c n k) (e l : Int) (he : (Lit.int .i64 e).wf = true) (hl : (Lit.int .i64 l).wf = true) :
    Calls Try.prog 34 #[.pointer (some ⟨b, 0, none⟩), .int .i64 e, .int .i64 l] w fun r w' => r = .returned (.tuple #[.agg #[.int .i64 l, .int .i64 ((f e l).getD 0)], .bool (f e l).isSome]) ∧ Kp [] w w' := by
  obtain ⟨r, q, hb, h1, h2, h3⟩ := h
  have c0 := blk_cell hb
  have lb := blk_lt hb
  have hr := fun (o : Obj) => (h1.keep ((Kp.refl [] w).alloc o) (by simp)).lookOk rules he hl
  generalize (f e l).getD 0 = d at *
  generalize (f e l).isSome = s at *
  go_enter Try.func34, Try.ntmps34
  go_wp2
  have cF := blk_cell (blk_new w (.cells #[.int .i64 l, .int .i64 d] 36))
  refine bodyPost_ret (v := .tuple #[.agg #[.int .i64 l, .int .i64 d], .bool s]) ?_ rfl ⟨rfl, (Kp.refl _ _).alloc _⟩
  simp [results, Try.results34, go_sem, cF]
/-- What the rules f say about an error of a process (-1: of none). -/
def doneB (m : Bool) (f : Int → Int → Option Int) (p e : Int) : Int × Int :=
  if m then (2, (f e 2).getD 1)
  else if p = -1 then (1, (f e 1).getD 6)
  else if (f e 0).isSome then (0, (f e 0).getD 0)
  else if (f e 1).isSome then (1, (f e 1).getD 0)
  else (0, 2)
end Go.Proofs.Ytlghbnoiakeibaa
