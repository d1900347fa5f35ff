/-
  Small words on memory that the walks of this seat share: what a call leaves as it was, whole blocks, rows of whole numbers that are read.
-/
import Derived.Test.YtlghbnoiakeibaaProg
import Derived.WalkKit
import Derived.WalkSpells
import Derived.WalkLawsBesides
import Derived.Lib.Hide
import Derived.BigQuiet
import Derived.Deep.QuietTactic
import Derived.Deep.LoopGhost
import Derived.Deep.DeepCutAuto
set_option linter.unusedVariables false
set_option linter.unusedSimpArgs false
namespace Go.Proofs.Ytlghbnoiakeibaa
open Go.RowKit

/-- All blocks that were there, but those of S, stand as they were. -/
structure Kp (S : List Nat) (w w' : World) : Prop where
  os : w'.os = w.os
  tape : w'.tape = w.tape
  output : w'.output = w.output
  size : w.heap.size ≤ w'.heap.size
  block : ∀ k, k < w.heap.size → k ∉ S → w'.heap[k]? = w.heap[k]?

namespace Kp
theorem refl (S : List Nat) (w : World) : Kp S w w := ⟨rfl, rfl, rfl, Nat.le_refl _, fun _ _ _ => rfl⟩
theorem trans {S : List Nat} {a b c : World} (h : Kp S a b) (k : Kp S b c) : Kp S a c :=
  ⟨k.os.trans h.os, k.tape.trans h.tape, k.output.trans h.output, Nat.le_trans h.size k.size,
    fun i hi hS => (k.block i (Nat.lt_of_lt_of_le hi h.size) hS).trans (h.block i hi hS)⟩
theorem next {S S' : List Nat} {a b c : World} (h : Kp S a b) (k : Kp S' b c) (hs : ∀ i ∈ S', i ∈ S ∨ a.heap.size ≤ i) : Kp S a c :=
  ⟨k.os.trans h.os, k.tape.trans h.tape, k.output.trans h.output, Nat.le_trans h.size k.size,
    fun i hi hS => (k.block i (Nat.lt_of_lt_of_le hi h.size) (fun hm => (hs i hm).elim hS (fun hge => by omega))).trans (h.block i hi hS)⟩
theorem mono {S S' : List Nat} {a b : World} (h : Kp S a b) (hs : ∀ i ∈ S, i ∈ S' ∨ a.heap.size ≤ i) : Kp S' a b :=
  (refl S' a).next h hs
theorem nil_to {S : List Nat} {a b : World} (h : Kp [] a b) : Kp S a b := h.mono (by simp)
theorem alloc {S : List Nat} {a b : World} (h : Kp S a b) (o : Obj) : Kp S a (b.alloc o) :=
  ⟨h.os, h.tape, h.output, by have := h.size; simp; omega, fun i hi hS => (Below.heap_alloc b o i (Nat.lt_of_lt_of_le hi h.size)).trans (h.block i hi hS)⟩
theorem drew {S : List Nat} {a b : World} (h : Kp S a b) : Kp S a b.drew := ⟨h.os, h.tape, h.output, h.size, h.block⟩
theorem drewN {S : List Nat} {a b : World} (h : Kp S a b) (n : Nat) : Kp S a (b.drewN n) := ⟨h.os, h.tape, h.output, h.size, h.block⟩
theorem setCell {S : List Nat} {a b : World} (h : Kp S a b) {p : Addr} (hp : p.block ∈ S ∨ a.heap.size ≤ p.block) (u : Value) : Kp S a (b.setCell p u) :=
  ⟨h.os, h.tape, h.output, by simpa using h.size, fun i hi hS => (Below.heap_setCell b p u i (by rintro rfl; rcases hp with hp | hp; exact hS hp; omega)).trans (h.block i hi hS)⟩
theorem of_below {w w' : World} (h : Below w.heap.size w w') : Kp [] w w' := ⟨h.os, h.tape, h.output, h.size, fun i hi _ => h.block i hi⟩
theorem below {w w' : World} (h : Kp [] w w') : Below w.heap.size w w' := ⟨h.os, h.tape, h.output, h.size, fun i hi => h.block i hi (by simp)⟩
theorem of_grown {w w' : World} {row : Option Nat} (h : w.grownBy w' row) : Kp row.toList w w' :=
  ⟨h.os, h.tape, h.output, h.size, fun i hi hS => h.block i hi (by rintro rfl; simp at hS)⟩
theorem heap {S : List Nat} {w w' : World} (h : Kp S w w') {k : Nat} {o : Obj} (hk : w.heap[k]? = some o) (hS : k ∉ S) : w'.heap[k]? = some o :=
  (h.block k (Array.getElem?_eq_some_iff.1 hk).1 hS).trans hk
theorem cell {S : List Nat} {w w' : World} (h : Kp S w w') {a : Addr} {v : Value} (hk : w.cell? a = some v) (hS : a.block ∉ S) : w'.cell? a = some v :=
  (World.cell?_of_block (w := w) (h.block a.block (World.block_lt_of_cell? w a hk) hS)).trans hk
theorem own {S : List Nat} {w w' : World} (h : Kp S w w') {base : Nat} {e : TypeId} {size n : Nat} {v : Value} {xs : List Value} (ho : w.ownsRow base e size v n xs) (hS : ∀ b ∈ v.ownBlock, b ∉ S) : w'.ownsRow base e size v n xs := by
  refine ⟨ho.1, ?_⟩
  rcases ho.2 with h0 | ⟨g, cap, cur, rfl, hb, hh, hr⟩
  · exact .inl h0
  · exact .inr ⟨g, cap, cur, rfl, hb, h.heap hh (hS g (by simp [Value.ownBlock])), hr⟩
end Kp

/-! Whole blocks. -/
theorem blk_lt {w : World} {b : Nat} {o : Obj} (h : w.heap[b]? = some o) : b < w.heap.size := (Array.getElem?_eq_some_iff.1 h).1
theorem blk_cell {w : World} {b : Nat} {cs : Array Value} {t : TypeId} (h : w.heap[b]? = some (.cells cs t)) (i : Nat) : w.cell? ⟨b, i, none⟩ = cs[i]? := by
  simp [World.cell?, h]
theorem blk_free {w : World} {b : Nat} {cs : Array Value} {t : TypeId} (h : w.heap[b]? = some (.cells cs t)) (i : Nat) : w.frozen? ⟨b, i, none⟩ = false := by
  simp [World.frozen?, h]
theorem blk_set {w : World} {b : Nat} {cs : Array Value} {t : TypeId} (h : w.heap[b]? = some (.cells cs t)) (i : Nat) (v : Value) :
    (w.setCell ⟨b, i, none⟩ v).heap[b]? = some (.cells (cs.setIfInBounds i v) t) := by
  simp only [World.setCell, Array.getElem?_modify, if_true, h]; rfl
theorem blk_set_other {w : World} {b : Nat} {o : Obj} (h : w.heap[b]? = some o) (a : Addr) (hne : a.block ≠ b) (v : Value) :
    (w.setCell a v).heap[b]? = some o := by
  rw [Below.heap_setCell w a v b (Ne.symm hne)]; exact h
theorem blk_alloc {w : World} {b : Nat} {o : Obj} (h : w.heap[b]? = some o) (o' : Obj) : (w.alloc o').heap[b]? = some o :=
  (Below.heap_alloc w o' b (blk_lt h)).trans h
theorem blk_new (w : World) (o : Obj) : (w.alloc o).heap[w.heap.size]? = some o := by
  show (w.heap.push o)[w.heap.size]? = some o
  simp
theorem blk_drew {w : World} {b : Nat} {o : Obj} (h : w.heap[b]? = some o) : w.drew.heap[b]? = some o := h
theorem blk_drewN {w : World} {b : Nat} {o : Obj} (h : w.heap[b]? = some o) (n : Nat) : (w.drewN n).heap[b]? = some o := h

/-! Rows of whole numbers that are read. -/
def nums (k : IntKind) (xs : List Int) : List Value := xs.map fun x => .int k x
theorem nums_length (k : IntKind) (xs : List Int) : (nums k xs).length = xs.length := by simp [nums]

/-- A slice value's place and length read as whole numbers. -/
def RI (w : World) (k : IntKind) (A : Option Addr) (n : Nat) (xs : List Int) : Prop :=
  xs.length = n ∧ n ≤ 9223372036854775807 ∧ (0 < n → ∃ b off, A = some ⟨b, off, none⟩ ∧ ∀ j, j < n → w.cell? ⟨b, off + j, none⟩ = some (.int k (xs.getD j 0)))
theorem RI.keep {S : List Nat} {w w' : World} {k : IntKind} {A : Option Addr} {n : Nat} {xs : List Int} (h : RI w k A n xs) (hk : Kp S w w') (hS : ∀ a ∈ A, a.block ∉ S) : RI w' k A n xs := by
  refine ⟨h.1, h.2.1, fun hn => ?_⟩
  obtain ⟨b, off, rfl, hc⟩ := h.2.2 hn
  exact ⟨b, off, rfl, fun j hj => hk.cell (hc j hj) (hS ⟨b, off, none⟩ rfl)⟩
theorem RI.nil (w : World) (k : IntKind) (A : Option Addr) : RI w k A 0 [] := ⟨rfl, by omega, fun h => absurd h (by omega)⟩
/-- An owned row is read. -/
theorem RI.of_own {w : World} {base n : Nat} {e : TypeId} {k : IntKind} {A : Option Addr} {c : Nat} {xs : List Int} (h : w.ownsRow base e 1 (.slice A n c) n (nums k xs)) : RI w k A n xs := by
  have hl : xs.length = n := by have := h.1; simpa [nums] using this
  refine ⟨hl, ?_, fun hn => ?_⟩
  · rcases h.2 with ⟨_, h1⟩ | ⟨g', cap', cur, he, _, _, h1, h2, _⟩
    · omega
    · simp only [maxLen] at h2; omega
  · rcases h.2 with ⟨_, h1⟩ | ⟨g, cap', cur, he, _, hh, h1, h2, h3, h4⟩
    · omega
    · simp only [Value.slice.injEq] at he
      obtain ⟨rfl, _, rfl⟩ := he
      refine ⟨g, 0, rfl, fun j hj => ?_⟩
      rw [blk_cell hh, ← Array.getElem?_toList]
      have : (cur.toList.take (n * 1))[j]? = some (.int k (xs.getD j 0)) := by
        rw [h4]; simp [nums, List.getElem?_eq_getElem (show j < xs.length by omega)]
      rw [List.getElem?_take_of_lt (by omega)] at this
      simpa using this
/-- The shape of whatever is owned. -/
theorem own_slice {w : World} {base n : Nat} {e : TypeId} {size : Nat} {v : Value} {xs : List Value} (h : w.ownsRow base e size v n xs) : ∃ A c, v = .slice A n c := by
  rcases h.2 with ⟨rfl, rfl⟩ | ⟨g, cap, cur, rfl, _⟩
  · exact ⟨none, 0, rfl⟩
  · exact ⟨_, cap, rfl⟩
theorem own_mem_lt {w : World} {base n : Nat} {e : TypeId} {size : Nat} {v : Value} {xs : List Value} (h : w.ownsRow base e size v n xs) : ∀ b ∈ v.ownBlock, base ≤ b ∧ b < w.heap.size :=
  fun b hb => h.lt b (by simpa using hb)
theorem own_base {w : World} {base base' n : Nat} {e : TypeId} {size : Nat} {v : Value} {xs : List Value} (h : w.ownsRow base e size v n xs) (hb : base' ≤ base) : w.ownsRow base' e size v n xs := by
  refine ⟨h.1, ?_⟩
  rcases h.2 with h0 | ⟨g, cap, cur, hv, hb', hr⟩
  · exact .inl h0
  · exact .inr ⟨g, cap, cur, hv, Nat.le_trans hb hb', hr⟩
end Go.Proofs.Ytlghbnoiakeibaa
