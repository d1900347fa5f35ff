/-
  Rows of cells that a slice value leads to (from whichever place of its block on), what append, a cut and a store make of them.
-/
import Derived.Test.YtlghbnoiakeibaaK
set_option linter.unusedVariables false
set_option linter.unusedSimpArgs false
namespace Go.Proofs.Ytlghbnoiakeibaa
open Go.RowKit

/-- The place j cells behind a. -/
theorem add_at (g o j : Nat) : (⟨g, o, none⟩ : Addr).add j = ⟨g, o + j, none⟩ := by unfold Addr.add; split <;> simp_all

/-- What a slice value reads as: n elements of 'size' cells each. -/
def Sees (w : World) (size : Nat) (v : Value) (n : Nat) (xs : List Value) : Prop :=
  xs.length = n * size ∧ n ≤ maxLen ∧ ((v = .slice none 0 0 ∧ n = 0) ∨ ∃ ad c, v = .slice (some ad) n c ∧ n ≤ c ∧ c ≤ maxLen ∧ (0 < n → ad.spot = none) ∧ ∀ j u, xs[j]? = some u → w.cell? ⟨ad.block, ad.off + j, none⟩ = some u)
/-- A slice value that leads into a plain block: the elements, and room for more behind them up to its capacity. -/
def Row (w : World) (e : TypeId) (size : Nat) (v : Value) (n : Nat) (xs : List Value) : Prop :=
  xs.length = n * size ∧ ((v = .slice none 0 0 ∧ n = 0) ∨
   ∃ g off cap cur, v = .slice (some ⟨g, off, none⟩) n cap ∧ w.heap[g]? = some (.cells cur e (0, 0)) ∧ n ≤ cap ∧ cap ≤ maxLen ∧ cur.size = off + cap * size ∧ (cur.toList.drop off).take (n * size) = xs)

theorem Row.len {w : World} {e size n : Nat} {v : Value} {xs : List Value} (h : Row w e size v n xs) : n ≤ maxLen := by
  rcases h.2 with ⟨_, rfl⟩ | ⟨g, off, cap, cur, _, _, h1, h2, _⟩
  · exact Nat.zero_le _
  · omega
theorem Row.nil (w : World) (e size : Nat) : Row w e size (.slice none 0 0) 0 [] := ⟨by simp, .inl ⟨rfl, rfl⟩⟩
theorem Row.cells {w : World} {e size g off n c : Nat} {xs : List Value} (h : Row w e size (.slice (some ⟨g, off, none⟩) n c) n xs) (j : Nat) (u : Value) (hj : xs[j]? = some u) : w.cell? ⟨g, off + j, none⟩ = some u := by
  rcases h.2 with ⟨h0, _⟩ | ⟨g', off', cap', cur, he, hh, h1, h2, h3, h4⟩
  · simp at h0
  · simp only [Value.slice.injEq, Option.some.injEq, Addr.mk.injEq] at he
    obtain ⟨⟨rfl, rfl, _⟩, _, rfl⟩ := he
    rw [blk_cell hh, ← Array.getElem?_toList]
    have hl : j < n * size := by rw [← h.1]; exact (List.getElem?_eq_some_iff.1 hj).1
    rw [← h4, List.getElem?_take_of_lt hl, List.getElem?_drop] at hj
    exact hj
theorem Row.sees {w : World} {e size n : Nat} {v : Value} {xs : List Value} (h : Row w e size v n xs) : Sees w size v n xs := by
  refine ⟨h.1, h.len, ?_⟩
  rcases h.2 with ⟨rfl, rfl⟩ | ⟨g, off, cap, cur, rfl, hh, h1, h2, h3, h4⟩
  · exact .inl ⟨rfl, rfl⟩
  · exact .inr ⟨⟨g, off, none⟩, cap, rfl, h1, h2, fun _ => rfl, fun j u hj => Row.cells h j u hj⟩
theorem Row.shape {w : World} {e size n : Nat} {v : Value} {xs : List Value} (h : Row w e size v n xs) : ∃ A c, v = .slice A n c := by
  rcases h.2 with ⟨rfl, rfl⟩ | ⟨g, off, cap, cur, rfl, _⟩
  · exact ⟨none, 0, rfl⟩
  · exact ⟨_, cap, rfl⟩
theorem Row.lt {w : World} {e size n : Nat} {v : Value} {xs : List Value} (h : Row w e size v n xs) : ∀ b ∈ v.ownBlock, b < w.heap.size := by
  rcases h.2 with ⟨rfl, rfl⟩ | ⟨g, off, cap, cur, rfl, hh, _⟩
  · simp [Value.ownBlock]
  · simp only [Value.ownBlock, Option.mem_def, Option.some.injEq, forall_eq']; exact blk_lt hh
/-- A row does not lie in a block of another element type. -/
theorem Row.ne {w : World} {e size n : Nat} {v : Value} {xs : List Value} (h : Row w e size v n xs) {b : Nat} {cs : Array Value} {t : TypeId} {fr : Nat × Nat} (hb : w.heap[b]? = some (.cells cs t fr)) (hne : t ≠ e) : b ∉ v.ownBlock := by
  rcases h.2 with ⟨rfl, rfl⟩ | ⟨g, off, cap, cur, rfl, hh, _⟩
  · simp [Value.ownBlock]
  · simp only [Value.ownBlock, Option.mem_def, Option.some.injEq]
    rintro rfl
    rw [hh] at hb
    simp only [Option.some.injEq, Obj.cells.injEq] at hb
    exact hne hb.2.1.symm
theorem Row.keep {S : List Nat} {w w' : World} {e size n : Nat} {v : Value} {xs : List Value} (h : Row w e size v n xs) (hk : Kp S w w') (hS : ∀ b ∈ v.ownBlock, b ∉ S) : Row w' e size v n xs := by
  refine ⟨h.1, ?_⟩
  rcases h.2 with h0 | ⟨g, off, cap, cur, rfl, hh, hr⟩
  · exact .inl h0
  · exact .inr ⟨g, off, cap, cur, rfl, hk.heap hh (hS g (by simp [Value.ownBlock])), hr⟩
theorem Sees.keep {S : List Nat} {w w' : World} {size n : Nat} {v : Value} {xs : List Value} (h : Sees w size v n xs) (hk : Kp S w w') (hS : ∀ b ∈ v.ownBlock, b ∉ S) : Sees w' size v n xs := by
  refine ⟨h.1, h.2.1, ?_⟩
  rcases h.2.2 with h0 | ⟨ad, c, rfl, h1, h2, h3, hc⟩
  · exact .inl h0
  · exact .inr ⟨ad, c, rfl, h1, h2, h3, fun j u hj => hk.cell (hc j u hj) (hS ad.block (by simp [Value.ownBlock]))⟩
/-- What is seen stands where all that is written is new. -/
theorem Sees.old {S : List Nat} {w w' : World} {size n : Nat} {v : Value} {xs : List Value} (h : Sees w size v n xs) (hk : Kp S w w') (hS : ∀ b ∈ S, w.heap.size ≤ b) : Sees w' size v n xs := by
  refine ⟨h.1, h.2.1, ?_⟩
  rcases h.2.2 with h0 | ⟨ad, c, rfl, h1, h2, h3, hc⟩
  · exact .inl h0
  · refine .inr ⟨ad, c, rfl, h1, h2, h3, fun j u hj => hk.cell (hc j u hj) fun hb => ?_⟩
    have h4 := World.block_lt_of_cell? w _ (hc j u hj)
    have h5 := hS _ hb
    simp only at h4 h5
    omega
/-- A row stands where what is written is new, or of another element type. -/
theorem Row.off {S : List Nat} {w w' : World} {e size n : Nat} {v : Value} {xs : List Value} (h : Row w e size v n xs) (hk : Kp S w w') (hS : ∀ b ∈ S, w.heap.size ≤ b ∨ ∃ cs t fr, w.heap[b]? = some (.cells cs t fr) ∧ t ≠ e) : Row w' e size v n xs :=
  h.keep hk fun b hb hbS => by
    rcases hS b hbS with h' | ⟨cs, t, fr, h', hne⟩
    · have := h.lt b hb; omega
    · exact h.ne h' hne hb
theorem Row.put {w : World} {e size n : Nat} {v : Value} {xs : List Value} (h : Row w e size v n xs) {a : Addr} (hne : a.block ∉ v.ownBlock) (u : Value) : Row (w.setCell a u) e size v n xs :=
  h.keep ((Kp.refl [a.block] w).setCell (.inl (by simp)) u) (by rintro b hb; simp; rintro rfl; exact hne hb)
theorem Row.drewN {w : World} {e size n : Nat} {v : Value} {xs : List Value} (h : Row w e size v n xs) (k : Nat) : Row (w.drewN k) e size v n xs := h
theorem Row.alloc {w : World} {e size n : Nat} {v : Value} {xs : List Value} (h : Row w e size v n xs) (o : Obj) : Row (w.alloc o) e size v n xs := h.keep ((Kp.refl [] w).alloc o) (by simp)
theorem Sees.alloc {w : World} {size n : Nat} {v : Value} {xs : List Value} (h : Sees w size v n xs) (o : Obj) : Sees (w.alloc o) size v n xs := h.keep ((Kp.refl [] w).alloc o) (by simp)
theorem Sees.shape {w : World} {size n : Nat} {v : Value} {xs : List Value} (h : Sees w size v n xs) : ∃ A c, v = .slice A n c := by
  rcases h.2.2 with ⟨rfl, rfl⟩ | ⟨ad, c, rfl, _⟩
  · exact ⟨none, 0, rfl⟩
  · exact ⟨_, c, rfl⟩
theorem Row.of_own {w : World} {base e size n : Nat} {v : Value} {xs : List Value} (h : w.ownsRow base e size v n xs) : Row w e size v n xs := by
  refine ⟨h.1, ?_⟩
  rcases h.2 with h0 | ⟨g, cap, cur, rfl, _, hh, h1, h2, h3, h4⟩
  · exact .inl h0
  · exact .inr ⟨g, 0, cap, cur, rfl, hh, h1, h2, by omega, by simpa using h4⟩
/-- A new block, as a row. -/
theorem Row.made {w : World} {e size : Nat} (cs : Array Value) (n : Nat) (hs : cs.size = n * size) (hm : n ≤ maxLen) : Row (w.alloc (.cells cs e)) e size (.slice (some ⟨w.heap.size, 0, none⟩) n n) n cs.toList :=
  ⟨by simpa using hs, .inr ⟨_, 0, n, cs, rfl, blk_new w _, Nat.le_refl _, hm, by omega, by rw [List.drop_zero, ← hs, ← Array.length_toList, List.take_length]⟩⟩

theorem Row.made' {w : World} {e size : Nat} (cs : Array Value) (n : Nat) {g : Nat} (hg : w.heap.size = g) (hs : cs.size = n * size) (hm : n ≤ maxLen) : Row (w.alloc (.cells cs e)) e size (.slice (some ⟨g, 0, none⟩) n n) n cs.toList := by
  subst hg; exact Row.made cs n hs hm
theorem blk_new' (w : World) (o : Obj) {g : Nat} (hg : w.heap.size = g) : (w.alloc o).heap[g]? = some o := by
  subst hg; exact blk_new w o

theorem drop_put (l : List Value) (o k : Nat) (news rest : List Value) (h : o + k ≤ l.length) : (l.take (o + k) ++ news ++ rest).drop o = (l.drop o).take k ++ news ++ rest := by
  have hl0 : (l.take o).length = o := by simp; omega
  rw [List.take_add, List.append_assoc, List.append_assoc, List.drop_append_of_le_length (by omega), List.drop_of_length_le (by omega), List.nil_append, List.append_assoc]
/-- Five stores over a block of five cells; likewise a row elsewhere. -/
theorem blk_set5 {w : World} {b : Nat} {c0 c1 c2 c3 c4 : Value} {t : TypeId} (h : w.heap[b]? = some (.cells #[c0, c1, c2, c3, c4] t)) (v0 v1 v2 v3 v4 : Value) :
    (((((w.setCell ⟨b, 0, none⟩ v0).setCell ⟨b, 1, none⟩ v1).setCell ⟨b, 2, none⟩ v2).setCell ⟨b, 3, none⟩ v3).setCell ⟨b, 4, none⟩ v4).heap[b]? = some (.cells #[v0, v1, v2, v3, v4] t) :=
  blk_set (blk_set (blk_set (blk_set (blk_set h 0 v0) 1 v1) 2 v2) 3 v3) 4 v4
theorem Row.put5 {w : World} {e size n : Nat} {v : Value} {xs : List Value} (h : Row w e size v n xs) {b : Nat} (hne : b ∉ v.ownBlock) (v0 v1 v2 v3 v4 : Value) :
    Row (((((w.setCell ⟨b, 0, none⟩ v0).setCell ⟨b, 1, none⟩ v1).setCell ⟨b, 2, none⟩ v2).setCell ⟨b, 3, none⟩ v3).setCell ⟨b, 4, none⟩ v4) e size v n xs :=
  ((((h.put (a := ⟨b, 0, none⟩) hne v0).put (a := ⟨b, 1, none⟩) hne v1).put (a := ⟨b, 2, none⟩) hne v2).put (a := ⟨b, 3, none⟩) hne v3).put (a := ⟨b, 4, none⟩) hne v4
theorem Kp.set5 {S : List Nat} {a w : World} (h : Kp S a w) {b : Nat} (hb : b ∈ S ∨ a.heap.size ≤ b) (v0 v1 v2 v3 v4 : Value) :
    Kp S a (((((w.setCell ⟨b, 0, none⟩ v0).setCell ⟨b, 1, none⟩ v1).setCell ⟨b, 2, none⟩ v2).setCell ⟨b, 3, none⟩ v3).setCell ⟨b, 4, none⟩ v4) :=
  ((((h.setCell (p := ⟨b, 0, none⟩) hb v0).setCell (p := ⟨b, 1, none⟩) hb v1).setCell (p := ⟨b, 2, none⟩) hb v2).setCell (p := ⟨b, 3, none⟩) hb v3).setCell (p := ⟨b, 4, none⟩) hb v4

/-- append: what is appended is read, then the row goes on in its block or in a new one. -/
theorem run_app {P : Program} {w : World} {t ty e : TypeId} {z : Value} {size bytes : Nat} (ht : P.underlying t = some (.slice e)) (hinfo : (P.info? e).map (fun i => (i.zero, i.size, i.bytes)) = some (some z, size, bytes))
    (hzs : z.cells.size = size) (hsz : 0 < size) {v : Value} {n : Nat} {xs : List Value} (hrow : Row w e size v n xs) {x : Value} {m : Nat} {news : List Value} (hx : Sees w size x m news) (h1 : ∀ u ∈ news, u.oneCell' = true)
    (hbytes : (n + m) * bytes ≤ 140737488355328) (h63 : n + m ≤ maxLen) :
    ∃ v' w', (Builtin.append_ #[t, t] ty #[v, x]).run P w = .ok v' w' ∧ Row w' e size v' (n + m) (xs ++ news) ∧ Kp v.ownBlock.toList w w' ∧ (∀ b ∈ v'.ownBlock, b ∈ v.ownBlock ∨ w.heap.size ≤ b) := by
  obtain ⟨i, hi, hz, hsize, hby⟩ := info_parts hinfo
  subst hsize
  subst hby
  have hsmall : n + m ≤ 9223372036854775807 := by simp only [maxLen] at h63; omega
  have hlen : (xs ++ news).length = (n + m) * i.size := by rw [List.length_append, hrow.1, hx.1, Nat.add_mul]
  have grown : ∀ (old : Nat), old < n + m →
      Row (w.drew.alloc (.cells (xs.toArray ++ news.toArray ++ Builtin.zeroCells z.cells (grownCap w (n + m) old e - (n + m))) e)) e i.size
        (.slice (some ⟨w.heap.size, 0, none⟩) (n + m) (grownCap w (n + m) old e)) (n + m) (xs ++ news) := by
    intro old ho
    have hge := grownCap_ge w (n + m) old e
    have hcm : grownCap w (n + m) old e ≤ maxLen := grownCap_le_maxLen w (n + m) old e h63
    refine ⟨hlen, .inr ⟨w.heap.size, 0, _, _, rfl, blk_new w.drew _, hge, hcm, ?_, ?_⟩⟩
    · simp only [Array.size_append, List.size_toArray, size_zeroCells, hzs, hrow.1, hx.1, ← Nat.add_mul]
      rw [Nat.zero_add]
      congr 1
      omega
    · simp only [Array.toList_append, List.append_assoc, List.drop_zero]
      rw [← List.append_assoc, ← hlen]
      exact List.take_left
  rcases hx.2.2 with ⟨rfl, rfl⟩ | ⟨xa, xc, rfl, _, _, hxs, hxc⟩
  · -- nothing is appended
    have hn : news = [] := List.eq_nil_of_length_eq_zero (by simpa using hx.1)
    subst hn
    refine ⟨v, w, ?_, by simpa using hrow, Kp.refl _ _, fun b hb => .inl hb⟩
    rcases hrow.2 with ⟨rfl, rfl⟩ | ⟨g, off, cap, cur, rfl, hh, h2, _⟩
    · simp [Builtin.append_, run_underlying ht, sizeOf, typeInfo, hi, Builtin.lenOf, Builtin.firstCells]
    · simp [Builtin.append_, run_underlying ht, sizeOf, typeInfo, hi, Builtin.lenOf, Builtin.firstCells, h2, storeCells]
  · have hnews : ∀ j u, news[j]? = some u → w.cell? (xa.add j) = some u := fun j u hj => by
      have hm0 : 0 < m := by
        have := (List.getElem?_eq_some_iff.1 hj).1
        rw [hx.1] at this
        exact Nat.pos_of_ne_zero (by rintro rfl; simp at this)
      have := hxs hm0
      obtain ⟨xg, xo, xp⟩ := xa
      simp only at this
      subst this
      rw [add_at]; exact hxc j u hj
    rcases hrow.2 with ⟨rfl, rfl⟩ | ⟨g, off, cap, cur, rfl, hh, hnc, hcm, hcs, htake⟩
    · have hxs : xs = [] := List.eq_nil_of_length_eq_zero (by simpa using hrow.1)
      subst hxs
      by_cases hm : m = 0
      · subst hm
        have hn : news = [] := List.eq_nil_of_length_eq_zero (by simpa using hx.1)
        subst hn
        refine ⟨.slice none 0 0, w, ?_, Row.nil w e i.size, Kp.refl _ _, fun b hb => .inl hb⟩
        simp [Builtin.append_, run_underlying ht, sizeOf, typeInfo, hi, Builtin.lenOf, Builtin.firstCells, loadCells, loadCellsFrom]
      · have hr := run_append_nil (P := P) w t ty e i z ht hi hz xa m xc news hx.1 hnews (by omega) (by omega) (by have hb := hbytes; simp only [Nat.zero_add] at hb; omega)
        have hgr := grown 0 (by omega)
        simp only [Nat.zero_add, List.nil_append, Array.empty_append] at hgr ⊢
        exact ⟨_, _, hr, hgr, ((Kp.refl _ w).drew).alloc _, fun b hb => .inr (by simp [Value.ownBlock] at hb; omega)⟩
    · by_cases hroom : n + m ≤ cap
      · have hfit : off + n * i.size + news.length ≤ cur.size := by
          rw [hx.1, hcs, Nat.add_assoc, ← Nat.add_mul]; exact Nat.add_le_add_left (Nat.mul_le_mul_right _ hroom) _
        have hst := run_storeCells_at P g (off + n * i.size) e news 0 cur w hh (by simpa using hfit) h1
        have hf := run_firstCells_some (P := P) w i.size m xa m xc news hx.1 hnews
        simp only [Nat.add_zero] at hst
        refine ⟨.slice (some ⟨g, off, none⟩) (n + m) cap, w.setRow g (cur.toList.take (off + n * i.size) ++ news ++ cur.toList.drop (off + n * i.size + news.length)).toArray, ?_,
          ⟨hlen, .inr ⟨g, off, cap, _, rfl, setRow_heap w g cur _ e _ hh, hroom, hcm, ?_, ?_⟩⟩, ?_, fun b hb => .inl hb⟩
        · simp [Builtin.append_, run_underlying ht, sizeOf, typeInfo, hi, Builtin.lenOf, hroom, hf, add_at, hst]
        · simp only [List.size_toArray, List.length_append, List.length_take, List.length_drop, Array.length_toList]
          omega
        · rw [← hlen, ← htake]
          show List.take _ (List.drop off (List.take (off + n * i.size) cur.toList ++ news ++ List.drop (off + n * i.size + news.length) cur.toList)) = _
          rw [drop_put _ _ _ _ _ (by rw [Array.length_toList]; omega)]
          exact List.take_left
        · refine ⟨rfl, rfl, rfl, by simp, fun k _ hk => setRow_other w g k _ (fun e => hk (by simp [Value.ownBlock, e]))⟩
      · have holds : ∀ j u, xs[j]? = some u → w.cell? ((⟨g, off, none⟩ : Addr).add j) = some u := fun j u hj => by rw [add_at]; exact Row.cells hrow j u hj
        have hr := run_append_grow (P := P) w t ty e i z ht hi hz ⟨g, off, none⟩ n cap xs hrow.1 holds xa m xc news hx.1 hnews (by omega) (by omega) (growslice_fits (by omega) hbytes)
        exact ⟨_, _, hr, grown cap (by omega), ((Kp.refl _ w).drew).alloc _, fun b hb => .inr (by simp [Value.ownBlock] at hb; omega)⟩

/-- append, as a law of the walk. -/
theorem wpl_app {P : Program} {w : World} {ops : Array Oper} {rest : List Oper} {o : Oper} {a : Act} {Q : Exit → Act → World → Prop} {t e : TypeId} {z : Value} {size bytes : Nat} {s x : Operand} {v : Value} {n : Nat} {xs : List Value} {xv : Value} {m : Nat} {news : List Value}
    (hgd : o.guard = none) (ho : o.op = .call { callee := .builtin .append, args := #[s, x], argTypes := #[t, t] })
    (ht : P.underlying t = some (.slice e)) (hinfo : (P.info? e).map (fun i => (i.zero, i.size, i.bytes)) = some (some z, size, bytes)) (hzs : z.cells.size = size) (hsz : 0 < size)
    (hs : a.eval s = v) (hx : a.eval x = xv) (hrow : Row w e size v n xs) (hxs : Sees w size xv m news) (h1 : ∀ u ∈ news, u.oneCell' = true)
    (hbytes : (n + m) * bytes ≤ 140737488355328) (h63 : n + m ≤ maxLen)
    (h : ∀ v' w', Row w' e size v' (n + m) (xs ++ news) → Kp v.ownBlock.toList w w' → (∀ b ∈ v'.ownBlock, b ∈ v.ownBlock ∨ w.heap.size ≤ b) → wpList P ops Q rest (a.put o.dst v') w') : wpList P ops Q (o :: rest) a w := by
  refine wpList_plain hgd fun K hK => ?_
  obtain ⟨v', w', hr, h2, h3, h4⟩ := run_app (P := P) (w := w) (ty := o.type) ht hinfo hzs hsz hrow hxs h1 hbytes h63
  unfold Oper.wp execOp
  simp only [ho, resolve, invoke, builtin, Sem.run_bind, Sem.run_pure, Result.andThen_ok, List.map_toArray, List.map_cons, List.map_nil, hs, hx, hr]
  exact hK _ _ (h v' w' h2 h3 h4)

/-- append, as a step of a region that draws its order. -/
theorem step_app {P : Program} {w : World} {ops : Array Oper} {o : Oper} {a : Act} {K : Act → World → Prop} {Q : Exit → Act → World → Prop} {E : Prop} {t e : TypeId} {z : Value} {size bytes : Nat} {s x : Operand} {v : Value} {n : Nat} {xs : List Value} {xv : Value} {m : Nat} {news : List Value}
    (hgd : o.guard = none) (ho : o.op = .call { callee := .builtin .append, args := #[s, x], argTypes := #[t, t] })
    (ht : P.underlying t = some (.slice e)) (hinfo : (P.info? e).map (fun i => (i.zero, i.size, i.bytes)) = some (some z, size, bytes)) (hzs : z.cells.size = size) (hsz : 0 < size)
    (hs : a.eval s = v) (hx : a.eval x = xv) (hrow : Row w e size v n xs) (hxs : Sees w size xv m news) (h1 : ∀ u ∈ news, u.oneCell' = true)
    (hbytes : (n + m) * bytes ≤ 140737488355328) (h63 : n + m ≤ maxLen)
    (hK : ∀ v' w', Row w' e size v' (n + m) (xs ++ news) → Kp v.ownBlock.toList w w' → (∀ b ∈ v'.ownBlock, b ∈ v.ownBlock ∨ w.heap.size ≤ b) → K (a.put o.dst v') w') :
    if Region.wanted o (yielded ops a.tmps) = true then Oper.wp P o a w K Q else E := by
  have hw : Region.wanted o (yielded ops a.tmps) = true := by simp [Region.wanted, hgd]
  rw [if_pos hw]
  obtain ⟨v', w', hr, h2, h3, h4⟩ := run_app (P := P) (w := w) (ty := o.type) ht hinfo hzs hsz hrow hxs h1 hbytes h63
  unfold Oper.wp execOp
  simp only [ho, resolve, invoke, builtin, Sem.run_bind, Sem.run_pure, Result.andThen_ok, List.map_toArray, List.map_cons, List.map_nil, hs, hx, hr]
  exact hK v' w' h2 h3 h4

theorem nums_one (k : IntKind) (xs : List Int) : ∀ u ∈ nums k xs, u.oneCell' = true := by
  intro u hu
  simp only [nums, List.mem_map] at hu
  obtain ⟨x, _, rfl⟩ := hu
  rfl
theorem nums_at (k : IntKind) (xs : List Int) (j : Nat) (h : j < xs.length) : (nums k xs)[j]? = some (.int k (xs.getD j 0)) := by
  simp [nums, List.getElem?_eq_getElem h]
/-- An element of a row of whole numbers. -/
theorem Sees.int {w : World} {k : IntKind} {g off n c : Nat} {xs : List Int} (h : Sees w 1 (.slice (some ⟨g, off, none⟩) n c) n (nums k xs)) (j : Nat) (hj : j < n) : w.cell? ⟨g, off + j, none⟩ = some (.int k (xs.getD j 0)) := by
  have hl : xs.length = n := by have := h.1; simpa [nums] using this
  rcases h.2.2 with ⟨h0, _⟩ | ⟨ad', c', he, _, _, _, hc⟩
  · simp at h0
  · simp only [Value.slice.injEq, Option.some.injEq] at he
    obtain ⟨rfl, _, rfl⟩ := he
    exact hc j _ (nums_at k xs j (by omega))
/-- Where a slice value of some length leads. -/
theorem Sees.place {w : World} {size n c : Nat} {A : Option Addr} {xs : List Value} (h : Sees w size (.slice A n c) n xs) (hn : 0 < n) : ∃ g o, A = some ⟨g, o, none⟩ := by
  rcases h.2.2 with ⟨_, h0⟩ | ⟨ad, c, he, _, _, hs, _⟩
  · omega
  · simp only [Value.slice.injEq] at he
    obtain ⟨rfl, _, rfl⟩ := he
    have := hs hn
    obtain ⟨g, o, p⟩ := ad
    simp only at this
    subst this
    exact ⟨g, o, rfl⟩
theorem Sees.ilen {w : World} {k : IntKind} {n : Nat} {v : Value} {xs : List Int} (h : Sees w 1 v n (nums k xs)) : xs.length = n := by have := h.1; simpa [nums] using this
end Go.Proofs.Ytlghbnoiakeibaa
