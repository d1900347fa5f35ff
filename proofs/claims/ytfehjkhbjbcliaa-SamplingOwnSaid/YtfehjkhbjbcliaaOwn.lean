import Derived.Test.YtfehjkhbjbcliaaQ
set_option linter.unusedVariables false
set_option linter.unusedSimpArgs false
namespace Go.Proofs.Ytfehjkhbjbcliaa
open Go.RowKit
set_option maxHeartbeats 1000000
/-- A port whose message lies in blocks from B on. -/
def PortFr (w : World) (b : Nat) (s : PS) (B : Nat) : Prop :=
  ∃ v, w.heap[b]? = some (.cells #[.int .i64 s.words, .int .i64 s.refresh, v, .int .i64 s.stamp, .bool s.has] 63) ∧ Row w 37 1 v s.m.length (nums .u32 s.m) ∧ s.m.length ≤ 1000000 ∧ ∀ x ∈ v.ownBlock, B ≤ x
theorem PortFr.at {w : World} {b : Nat} {s : PS} {B : Nat} (h : PortFr w b s B) : PortAt w b s := by obtain ⟨v, h1, h2, h3, _⟩ := h; exact ⟨v, h1, h2, h3⟩
theorem PortFr.keep {S : List Nat} {w w' : World} {b B : Nat} {s : PS} (h : PortFr w b s B) (hk : Kp S w w') (hb : b ∉ S) (hS : ∀ x ∈ S, x < B ∨ w.heap.size ≤ x) : PortFr w' b s B := by
  obtain ⟨v, h1, h2, h3, h4⟩ := h
  exact ⟨v, hk.heap h1 hb, h2.keep hk fun x hx hxS => by have := h4 x hx; have := h2.lt x hx; rcases hS x hxS with h | h <;> omega, h3, h4⟩
theorem Row.first {w : World} {n c : Nat} {A : Option Addr} {x : Int} {xs : List Int} (h : Row w 37 1 (.slice A n c) n (nums .u32 (x :: xs))) : ∃ g o cs, A = some ⟨g, o, none⟩ ∧ w.heap[g]? = some (.cells cs 37) ∧ w.cell? ⟨g, o, none⟩ = some (.int .u32 x) := by
  have hn : 0 < n := by have := h.sees.ilen; simp at this; omega
  obtain ⟨g, o, rfl⟩ := h.sees.place hn
  have hc := h.sees.int 0 hn
  rcases h.2 with ⟨h0, _⟩ | ⟨g', off', cap', cur, he, hh, _⟩
  · simp at h0
  · simp only [Value.slice.injEq, Option.some.injEq, Addr.mk.injEq] at he
    obtain ⟨⟨rfl, rfl, _⟩, _, rfl⟩ := he
    exact ⟨g, o, cur, rfl, hh, hc⟩
theorem write_fresh (w : World) (b : Nat) (s : PS) (now : Int) (v : Value) (n : Nat) (xs : List Int) (hp : PortAt w b s) (hs : Sees w 1 v n (nums .u32 xs)) (hn : n ≤ 1000000) (ht : tickB now = true) (hw : ¬ s.words < (n : Int)) :
    Calls Try.prog 11 #[.pointer (some ⟨b, 0, none⟩), .int .i64 now, v] w fun e w' => e = .returned (.int .i64 0) ∧ PortFr w' b { s with m := xs, stamp := now, has := true } w.heap.size ∧ Kp [b] w w' := by
  obtain ⟨pv, hb, hrow, hm⟩ := hp
  obtain ⟨A, c, rfl⟩ := hs.shape
  have hl := hs.ilen
  have h0 : w.cell? ⟨b, 0, none⟩ = some (.int .i64 s.words) := blk_cell hb 0
  have Hl := Lib.hid hl
  clear hl
  have h1 := nums_one .u32 xs
  go_enter Try.func11, Try.ntmps11
  go_wp2_with (go_at_call 25; refine (tick_calls _ _).mono ?_; rintro e w' ⟨rfl, rfl⟩)
  refine (clone_calls _ _ _ _ hs h1 hn).mono ?_
  rintro e w1 ⟨v1, rfl, hr1, hk1, hf1⟩
  have hb1 := hk1.heap hb (by simp)
  have f0 := blk_free hb1
  have c0 := blk_cell hb1
  obtain ⟨A1, c1, rfl⟩ := hr1.shape
  go_wp2
  go_ret
  have hn1 : b ∉ (Value.slice A1 n c1).ownBlock := fun h => by have := hf1 b h; have := blk_lt hb; omega
  refine ⟨rfl, ⟨_, blk_set (blk_set (blk_set hb1 2 _) 3 _) 4 _, ?_, by show xs.length ≤ _; rw [Hl.out]; exact hn, hf1⟩, ((((hk1.nil_to).setCell (by simp) _).setCell (by simp) _).setCell (by simp) _)⟩
  show Row _ _ _ _ xs.length _
  rw [Hl.out]
  exact ((hr1.put hn1 _).put hn1 _).put hn1 _
theorem own_calls (vm : Value) (y : Int) (W : World) (hvm : InInts .u32 W vm) :
    Calls Try.prog 4 #[vm, .int .u32 y] W fun e w' => e = .returned (.bool true) ∧ Kp [] W w' := by
  obtain ⟨nm, xm, hsm, _⟩ := hvm
  obtain ⟨Am, cm, rfl⟩ := hsm.shape
  have hnm := hsm.2.1
  unfold maxLen at hnm
  obtain ⟨hc1, hc2⟩ := hsm.cap
  have hcut := hsm.cut 31
  obtain ⟨m31, hm31⟩ : ∃ m31, m31 = min nm 31 := ⟨_, rfl⟩
  have hm31' : m31 ≤ 31 := by omega
  have hcv : cutTo 31 (.slice Am nm cm) = .slice Am m31 cm := by rw [hm31]; rfl
  rw [hcv, ← hm31] at hcut
  have hmin : Hid (m31 = min nm 31) := Lib.hid hm31
  clear hcv hm31
  generalize hx0 : xm.take 31 = x0 at *
  clear hx0
  have h1 := nums_one .u32 x0
  have hb : (1 + m31) * 4 ≤ 140737488355328 := by omega
  have hmx : 1 + m31 ≤ maxLen := by unfold maxLen; omega
  have hr0 : Row (W.alloc (.cells #[.int .u32 1] 37)) 37 1 (.slice (some ⟨W.heap.size, 0, none⟩) 1 1) 1 (nums .u32 [1]) := Row.made #[.int .u32 1] 1 rfl (by decide)
  have hsl : Sees (W.alloc (.cells #[.int .u32 1] 37)) 1 (.slice Am m31 cm) m31 (nums .u32 x0) := hcut.alloc _
  by_cases h31 : nm ≤ 31
  · have hnn : nm = m31 := by have := hmin.out; omega
    subst hnn
    go_enter Try.func4, Try.ntmps4
    go_wp2_with (at_builtin; refine wpl_app (v := .slice (some ⟨W.heap.size, 0, none⟩) 1 1) (xs := nums .u32 [1]) rfl rfl Try.underlying24 info37 rfl (by decide) rfl rfl hr0 hsl h1 hb hmx ?_)
    intro v5 w1 hr1 hk1 hf1
    have hr1 : Row w1 37 1 v5 (1 + nm) (nums .u32 (1 :: x0)) := hr1
    have hK1 : Kp [] W w1 := ((Kp.refl [] W).alloc _).next hk1 (by simp [Value.ownBlock])
    have hB5 : ∀ b ∈ v5.ownBlock, W.heap.size ≤ b := by
      intro b hb
      rcases hf1 b hb with h | h
      · simp [Value.ownBlock] at h; omega
      · exact Nat.le_trans (by simp) h
    obtain ⟨A5, c5, rfl⟩ := hr1.shape
    have hlL := hr1.sees.ilen
    have h1L := nums_one .u32 (1 :: x0)
    have hbL : (0 + (1 + nm)) * 4 ≤ 140737488355328 := by omega
    have hmL : 0 + (1 + nm) ≤ maxLen := by unfold maxLen; omega
    have hsL : Sees (w1.alloc (.cells #[] 37)) 1 (.slice A5 (1 + nm) c5) (1 + nm) (nums .u32 (1 :: x0)) := hr1.sees.alloc _
    have HL := Lib.hid hlL
    clear hlL h1 hb hmx hr0 hsl hcut hk1 hf1
    go_wp2_with (at_builtin; refine wpl_app (v := .slice (some ⟨w1.heap.size, 0, none⟩) 0 0) (xs := []) rfl rfl Try.underlying24 info37 rfl (by decide) rfl rfl (Row.made' #[] 0 rfl rfl (by decide)) hsL h1L hbL hmL ?_)
    intro v6 w2 hr2 hk2 hf2
    have hr2 : Row w2 37 1 v6 (1 + nm) (nums .u32 (1 :: x0)) := by simpa using hr2
    have hK2 : Kp [] w1 w2 := ((Kp.refl [] w1).alloc _).next hk2 (by simp [Value.ownBlock])
    have hB6 : ∀ b ∈ v6.ownBlock, w1.heap.size ≤ b := by
      intro b hb
      rcases hf2 b hb with h | h
      · simp [Value.ownBlock] at h; omega
      · exact Nat.le_trans (by simp) h
    clear h1L hbL hmL hsL hk2 hf2
    go_wp2_with fail
    refine (new_ok 32 1 _ (by decide) (by decide) (by decide) (by decide)).mono ?_
    rintro e w3 ⟨g, rfl, hp3, hg3, hk3⟩
    go_wp2_with fail
    refine (told_calls _).mono ?_
    rintro e w4 ⟨rfl, hk4⟩
    have hK24 := hk3.trans hk4
    have hK14 := hK2.trans hK24
    have hp4 := hp3.keep hk4 (by simp) (by simp)
    have hgl := hp3.lt
    go_wp2_with fail
    refine (write_fresh w4 g _ 1 _ _ (1 :: x0) hp4 (hr1.sees.keep hK14 (by simp)) (by omega) (by decide) (by show ¬ (32 : Int) < _; omega)).mono ?_
    rintro e w5 ⟨rfl, hp5, hk5⟩
    have hs1 : PSok ⟨32, 1, 1 :: x0, 1, true⟩ := ⟨by simp, by simp, by simp, by simp, by simp, by simp, by simp⟩
    have hty := hp4.ty
    have hr1' := (hr1.keep hK14 (by simp)).off hk5 (by intro x hx; simp only [List.mem_singleton] at hx; subst hx; exact hty)
    have hr2' := (hr2.keep hK24 (by simp)).off hk5 (by intro x hx; simp only [List.mem_singleton] at hx; subst hx; exact hty)
    go_wp2_with fail
    refine (rwords_calls w5 _ _ (1 :: x0) v6 _ (1 :: x0) hr1'.sees hr2'.sees (by omega) (by omega)).mono ?_
    rintro e w' ⟨he, k5, rfl⟩
    rw [decide_eq_true rfl] at he
    subst he
    obtain ⟨g5, o5, cs5, rfl, hb5, hc5⟩ := hr1'.first
    have hf5 := blk_free hb5 o5
    have hB5' := hB5 g5 (by simp [Value.ownBlock])
    have hg5 : g5 < w1.heap.size := hr1.lt g5 (by simp [Value.ownBlock])
    have hl4 := hK14.size
    have hn0 : (0 : Int) < ((1 + nm : Nat) : Int) := by omega
    go_wp2_with fail
    have hK6 : Kp [g5] w5 ((w5.drewN k5).setCell ⟨g5, o5, none⟩ (.int .u32 ((1 + y) % 4294967296))) := ((Kp.refl _ _).drewN _).setCell (by simp) _
    have hp6 := hp5.keep hK6 (by simp; rintro rfl; have := hp5.at.ty; obtain ⟨v, h1, _⟩ := hp5.at; rw [h1] at hb5; simp at hb5) (by intro x hx; simp at hx; subst hx; left; omega)
    have hr6 := hr2'.keep hK6 (by intro b hb; simp; rintro rfl; have := hB6 _ hb; omega)
    generalize hW6 : (w5.drewN k5).setCell ⟨g5, o5, none⟩ (.int .u32 ((1 + y) % 4294967296)) = w6 at *
    have hKW6 : Kp [] W w6 := ((hK1.trans hK14).nil_to (S := [g, g5])).next ((hk5.mono (by simp)).trans (hK6.mono (S' := [g, g5]) (by simp))) (by simp) |>.mono (by intro x hx; simp at hx; rcases hx with rfl | rfl <;> right <;> have := hK1.size <;> have := hK2.size <;> omega)
    have HW6 := Lib.hid hW6
    clear hW6 hK6 hc5 hf5 hb5 hr1 hr1' hr2 hr2' hp5 hp3 hp4
    refine (read_calls w6 g _ 1 hp6.at hs1).mono ?_
    rintro e w7 ⟨v9, he, hr9, hk7, hf9⟩
    have he : e = .returned (.tuple #[v9, .bool true, .int .i64 0]) := he
    subst he
    have hr9 : Row w7 37 1 v9 (1 :: x0).length (nums .u32 (1 :: x0)) := hr9
    go_wp2_with fail
    refine (rwords_calls w7 v9 _ (1 :: x0) v6 _ (1 :: x0) hr9.sees (hr6.keep hk7 (by simp)).sees (by rw [HL.out]; omega) (by omega)).mono ?_
    rintro e w' ⟨he, k7, rfl⟩
    rw [decide_eq_true rfl] at he
    subst he
    rw [HL.out] at hr9
    obtain ⟨A9, c9, rfl⟩ := hr9.shape
    obtain ⟨g9, o9, cs9, rfl, hb9, hc9⟩ := hr9.first
    have hf9' := blk_free hb9 o9
    have hB9 := hf9 g9 (by simp [Value.ownBlock])
    go_wp2_with fail
    have hK9 : Kp [] w6 ((w7.drewN k7).setCell ⟨g9, o9, none⟩ (.int .u32 ((1 + y) % 4294967296))) := (hk7.drewN _).setCell (.inr hB9) _
    refine (read_calls _ g _ 1 (hp6.keep hK9 (by simp) (by simp)).at hs1).mono ?_
    rintro e w10 ⟨v11, he, hr11, hk10, hf11⟩
    have he : e = .returned (.tuple #[v11, .bool true, .int .i64 0]) := he
    subst he
    have hr11 : Row w10 37 1 v11 (1 :: x0).length (nums .u32 (1 :: x0)) := hr11
    go_wp2_with fail
    refine (rwords_calls w10 v11 _ (1 :: x0) v6 _ (1 :: x0) hr11.sees ((hr6.keep hK9 (by simp)).keep hk10 (by simp)).sees (by rw [HL.out]; omega) (by omega)).mono ?_
    rintro e w' ⟨he, k11, rfl⟩
    rw [decide_eq_true rfl] at he
    subst he
    go_wp2
    go_ret
    exact ⟨rfl, ((hKW6.trans hK9).trans hk10).drewN _⟩
  · have hnn : m31 = 31 := by have := hmin.out; omega
    subst hnn
    go_enter Try.func4, Try.ntmps4
    go_wp2_with (at_builtin; refine wpl_app (v := .slice (some ⟨W.heap.size, 0, none⟩) 1 1) (xs := nums .u32 [1]) rfl rfl Try.underlying24 info37 rfl (by decide) rfl rfl hr0 hsl h1 hb hmx ?_)
    intro v5 w1 hr1 hk1 hf1
    have hr1 : Row w1 37 1 v5 (1 + 31) (nums .u32 (1 :: x0)) := hr1
    have hK1 : Kp [] W w1 := ((Kp.refl [] W).alloc _).next hk1 (by simp [Value.ownBlock])
    have hB5 : ∀ b ∈ v5.ownBlock, W.heap.size ≤ b := by
      intro b hb
      rcases hf1 b hb with h | h
      · simp [Value.ownBlock] at h; omega
      · exact Nat.le_trans (by simp) h
    obtain ⟨A5, c5, rfl⟩ := hr1.shape
    have hlL := hr1.sees.ilen
    have h1L := nums_one .u32 (1 :: x0)
    have hbL : (0 + (1 + 31)) * 4 ≤ 140737488355328 := by omega
    have hmL : 0 + (1 + 31) ≤ maxLen := by unfold maxLen; omega
    have hsL : Sees (w1.alloc (.cells #[] 37)) 1 (.slice A5 (1 + 31) c5) (1 + 31) (nums .u32 (1 :: x0)) := hr1.sees.alloc _
    have HL := Lib.hid hlL
    clear hlL h1 hb hmx hr0 hsl hcut hk1 hf1
    go_wp2_with (at_builtin; refine wpl_app (v := .slice (some ⟨w1.heap.size, 0, none⟩) 0 0) (xs := []) rfl rfl Try.underlying24 info37 rfl (by decide) rfl rfl (Row.made' #[] 0 rfl rfl (by decide)) hsL h1L hbL hmL ?_)
    intro v6 w2 hr2 hk2 hf2
    have hr2 : Row w2 37 1 v6 (1 + 31) (nums .u32 (1 :: x0)) := by simpa using hr2
    have hK2 : Kp [] w1 w2 := ((Kp.refl [] w1).alloc _).next hk2 (by simp [Value.ownBlock])
    have hB6 : ∀ b ∈ v6.ownBlock, w1.heap.size ≤ b := by
      intro b hb
      rcases hf2 b hb with h | h
      · simp [Value.ownBlock] at h; omega
      · exact Nat.le_trans (by simp) h
    clear h1L hbL hmL hsL hk2 hf2
    go_wp2_with fail
    refine (new_ok 32 1 _ (by decide) (by decide) (by decide) (by decide)).mono ?_
    rintro e w3 ⟨g, rfl, hp3, hg3, hk3⟩
    go_wp2_with fail
    refine (told_calls _).mono ?_
    rintro e w4 ⟨rfl, hk4⟩
    have hK24 := hk3.trans hk4
    have hK14 := hK2.trans hK24
    have hp4 := hp3.keep hk4 (by simp) (by simp)
    have hgl := hp3.lt
    go_wp2_with fail
    refine (write_fresh w4 g _ 1 _ _ (1 :: x0) hp4 (hr1.sees.keep hK14 (by simp)) (by omega) (by decide) (by show ¬ (32 : Int) < _; omega)).mono ?_
    rintro e w5 ⟨rfl, hp5, hk5⟩
    have hs1 : PSok ⟨32, 1, 1 :: x0, 1, true⟩ := ⟨by simp, by simp, by simp, by simp, by simp, by simp, by simp⟩
    have hty := hp4.ty
    have hr1' := (hr1.keep hK14 (by simp)).off hk5 (by intro x hx; simp only [List.mem_singleton] at hx; subst hx; exact hty)
    have hr2' := (hr2.keep hK24 (by simp)).off hk5 (by intro x hx; simp only [List.mem_singleton] at hx; subst hx; exact hty)
    go_wp2_with fail
    refine (rwords_calls w5 _ _ (1 :: x0) v6 _ (1 :: x0) hr1'.sees hr2'.sees (by omega) (by omega)).mono ?_
    rintro e w' ⟨he, k5, rfl⟩
    rw [decide_eq_true rfl] at he
    subst he
    obtain ⟨g5, o5, cs5, rfl, hb5, hc5⟩ := hr1'.first
    have hf5 := blk_free hb5 o5
    have hB5' := hB5 g5 (by simp [Value.ownBlock])
    have hg5 : g5 < w1.heap.size := hr1.lt g5 (by simp [Value.ownBlock])
    have hl4 := hK14.size
    have hn0 : (0 : Int) < ((1 + 31 : Nat) : Int) := by omega
    go_wp2_with fail
    have hK6 : Kp [g5] w5 ((w5.drewN k5).setCell ⟨g5, o5, none⟩ (.int .u32 ((1 + y) % 4294967296))) := ((Kp.refl _ _).drewN _).setCell (by simp) _
    have hp6 := hp5.keep hK6 (by simp; rintro rfl; have := hp5.at.ty; obtain ⟨v, h1, _⟩ := hp5.at; rw [h1] at hb5; simp at hb5) (by intro x hx; simp at hx; subst hx; left; omega)
    have hr6 := hr2'.keep hK6 (by intro b hb; simp; rintro rfl; have := hB6 _ hb; omega)
    generalize hW6 : (w5.drewN k5).setCell ⟨g5, o5, none⟩ (.int .u32 ((1 + y) % 4294967296)) = w6 at *
    have hKW6 : Kp [] W w6 := ((hK1.trans hK14).nil_to (S := [g, g5])).next ((hk5.mono (by simp)).trans (hK6.mono (S' := [g, g5]) (by simp))) (by simp) |>.mono (by intro x hx; simp at hx; rcases hx with rfl | rfl <;> right <;> have := hK1.size <;> have := hK2.size <;> omega)
    have HW6 := Lib.hid hW6
    clear hW6 hK6 hc5 hf5 hb5 hr1 hr1' hr2 hr2' hp5 hp3 hp4
    refine (read_calls w6 g _ 1 hp6.at hs1).mono ?_
    rintro e w7 ⟨v9, he, hr9, hk7, hf9⟩
    have he : e = .returned (.tuple #[v9, .bool true, .int .i64 0]) := he
    subst he
    have hr9 : Row w7 37 1 v9 (1 :: x0).length (nums .u32 (1 :: x0)) := hr9
    go_wp2_with fail
    refine (rwords_calls w7 v9 _ (1 :: x0) v6 _ (1 :: x0) hr9.sees (hr6.keep hk7 (by simp)).sees (by rw [HL.out]; omega) (by omega)).mono ?_
    rintro e w' ⟨he, k7, rfl⟩
    rw [decide_eq_true rfl] at he
    subst he
    rw [HL.out] at hr9
    obtain ⟨A9, c9, rfl⟩ := hr9.shape
    obtain ⟨g9, o9, cs9, rfl, hb9, hc9⟩ := hr9.first
    have hf9' := blk_free hb9 o9
    have hB9 := hf9 g9 (by simp [Value.ownBlock])
    go_wp2_with fail
    have hK9 : Kp [] w6 ((w7.drewN k7).setCell ⟨g9, o9, none⟩ (.int .u32 ((1 + y) % 4294967296))) := (hk7.drewN _).setCell (.inr hB9) _
    refine (read_calls _ g _ 1 (hp6.keep hK9 (by simp) (by simp)).at hs1).mono ?_
    rintro e w10 ⟨v11, he, hr11, hk10, hf11⟩
    have he : e = .returned (.tuple #[v11, .bool true, .int .i64 0]) := he
    subst he
    have hr11 : Row w10 37 1 v11 (1 :: x0).length (nums .u32 (1 :: x0)) := hr11
    go_wp2_with fail
    refine (rwords_calls w10 v11 _ (1 :: x0) v6 _ (1 :: x0) hr11.sees ((hr6.keep hK9 (by simp)).keep hk10 (by simp)).sees (by rw [HL.out]; omega) (by omega)).mono ?_
    rintro e w' ⟨he, k11, rfl⟩
    rw [decide_eq_true rfl] at he
    subst he
    go_wp2
    go_ret
    exact ⟨rfl, ((hKW6.trans hK9).trans hk10).drewN _⟩
theorem own_law (v0 v1 : Value) (W : World) (h0 : InInts .u32 W v0) (h1 : InInt .u32 v1) : Calls Try.prog 4 #[v0, v1] W fun e w' => e = .returned (.bool true) ∧ Kp [] W w' := by
  obtain ⟨a, rfl, _⟩ := h1
  exact own_calls v0 a W h0
end Go.Proofs.Ytfehjkhbjbcliaa
