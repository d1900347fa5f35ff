/-
  New blocks under one name, and whole blocks seen from a later world.
-/
import Derived.Test.YtlghbnoiakeibaaK
set_option linter.unusedVariables false
set_option linter.unusedSimpArgs false
namespace Go.Proofs.Ytlghbnoiakeibaa
open Go.RowKit
theorem Kp.look {S : List Nat} {w w' : World} {b : Nat} {cs : Array Value} {t : TypeId} (hk : Kp S w w') (hb : w.heap[b]? = some (.cells cs t)) (hS : b ∉ S) :
    w'.heap[b]? = some (.cells cs t) ∧ (∀ i, w'.cell? ⟨b, i, none⟩ = cs[i]?) ∧ (∀ i, w'.frozen? ⟨b, i, none⟩ = false) ∧ b < w'.heap.size :=
  have h := hk.heap hb hS
  ⟨h, blk_cell h, blk_free h, blk_lt h⟩
theorem new1 (w : World) (o : Obj) : ∃ V, V = w.alloc o ∧ Kp [] w V ∧ V.heap[w.heap.size]? = some o ∧ V.heap.size = w.heap.size + 1 :=
  ⟨_, rfl, (Kp.refl [] w).alloc _, blk_new w o, by simp⟩
theorem new2 (w : World) (o1 o2 : Obj) : ∃ V, V = (w.alloc o1).alloc o2 ∧ Kp [] w V ∧ V.heap[w.heap.size]? = some o1 ∧ V.heap[w.heap.size + 1]? = some o2 ∧ V.heap.size = w.heap.size + 2 :=
  ⟨_, rfl, ((Kp.refl [] w).alloc _).alloc _, blk_alloc (blk_new w o1) _, by simpa using blk_new (w.alloc o1) o2, by simp⟩
theorem new3 (w : World) (o1 o2 o3 : Obj) : ∃ V, V = ((w.alloc o1).alloc o2).alloc o3 ∧ Kp [] w V ∧ V.heap[w.heap.size]? = some o1 ∧ V.heap[w.heap.size + 1]? = some o2 ∧ V.heap[w.heap.size + 1 + 1]? = some o3 ∧ V.heap.size = w.heap.size + 3 :=
  ⟨_, rfl, (((Kp.refl [] w).alloc _).alloc _).alloc _, blk_alloc (blk_alloc (blk_new w o1) _) _, blk_alloc (by simpa using blk_new (w.alloc o1) o2) _, by simpa using blk_new ((w.alloc o1).alloc o2) o3, by simp⟩
theorem new4 (w : World) (o1 o2 o3 o4 : Obj) : ∃ V, V = (((w.alloc o1).alloc o2).alloc o3).alloc o4 ∧ Kp [] w V ∧ V.heap[w.heap.size]? = some o1 ∧ V.heap[w.heap.size + 1]? = some o2 ∧ V.heap[w.heap.size + 1 + 1]? = some o3 ∧ V.heap[w.heap.size + 1 + 1 + 1]? = some o4 ∧ V.heap.size = w.heap.size + 4 :=
  ⟨_, rfl, ((((Kp.refl [] w).alloc _).alloc _).alloc _).alloc _, blk_alloc (blk_alloc (blk_alloc (blk_new w o1) _) _) _, blk_alloc (blk_alloc (by simpa using blk_new (w.alloc o1) o2) _) _, blk_alloc (by simpa using blk_new ((w.alloc o1).alloc o2) o3) _, by simpa using blk_new (((w.alloc o1).alloc o2).alloc o3) o4, by simp⟩
/-- What is kept is seen through whatever is drawn. -/
theorem Kp.drewL {S : List Nat} {w w' : World} (h : Kp S w.drew w') : Kp S w w' := ((Kp.refl S w).drew).trans h
end Go.Proofs.Ytlghbnoiakeibaa
