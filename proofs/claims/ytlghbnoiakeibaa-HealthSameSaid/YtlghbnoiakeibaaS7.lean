import Derived.Test.YtlghbnoiakeibaaS6
import Derived.Test.YtlghbnoiakeibaaR
set_option linter.unusedVariables false
set_option linter.unusedSimpArgs false
namespace Go.Proofs.Ytlghbnoiakeibaa
open Go.RowKit
abbrev Rule := Int × Int × Int
def Rule.wf (r : Rule) : Prop := (Lit.int .i64 r.1).wf = true ∧ (Lit.int .i64 r.2.1).wf = true ∧ (Lit.int .i64 r.2.2).wf = true
def cells3 (l : List Rule) : List Value := l.flatMap fun r => [.int .i64 r.1, .int .i64 r.2.1, .int .i64 r.2.2]
theorem cells3_len (l : List Rule) : (cells3 l).length = l.length * 3 := by
  induction l with
  | nil => rfl
  | cons a l ih => simp only [cells3, List.flatMap_cons, List.length_append, List.length_cons, List.length_nil] at ih ⊢; omega
theorem cells3_at (l : List Rule) (k : Nat) (h : k < l.length) : (cells3 l)[k * 3]? = some (.int .i64 l[k].1) ∧ (cells3 l)[k * 3 + 1]? = some (.int .i64 l[k].2.1) ∧ (cells3 l)[k * 3 + 2]? = some (.int .i64 l[k].2.2) := by
  induction l generalizing k with
  | nil => simp at h
  | cons a l ih =>
    cases k with
    | zero => simp [cells3]
    | succ k =>
      have := ih k (by simpa using h)
      have e : cells3 (a :: l) = [.int .i64 a.1, .int .i64 a.2.1, .int .i64 a.2.2] ++ cells3 l := by simp [cells3]
      rw [e]
      simp only [List.getElem_cons_succ]
      refine ⟨?_, ?_, ?_⟩
      · rw [List.getElem?_append_right (by simp; omega)]; simpa [show (k + 1) * 3 - 3 = k * 3 by omega] using this.1
      · rw [List.getElem?_append_right (by simp; omega)]; simpa [show (k + 1) * 3 + 1 - 3 = k * 3 + 1 by omega] using this.2.1
      · rw [List.getElem?_append_right (by simp; omega)]; simpa [show (k + 1) * 3 + 2 - 3 = k * 3 + 2 by omega] using this.2.2
/-- The first that is wrong (0: nothing), and the rules, where those of f are there. -/
def wrongs (m : Bool) (f : Int → Int → Option Int) : List Rule → Int
  | [] => 0
  | r :: l => if wrongI m f r.1 r.2.1 r.2.2 = 0 then wrongs m (bump f r.1 r.2.1 r.2.2) l else wrongI m f r.1 r.2.1 r.2.2
def rulesOf (f : Int → Int → Option Int) (l : List Rule) : Int → Int → Option Int := l.foldl (fun f r => bump f r.1 r.2.1 r.2.2) f
def newI (m : Bool) (l : List Rule) : Int := if 64 < l.length then 8 else wrongs m (fun _ _ => none) l
theorem wrongs_take (m : Bool) (l : List Rule) : ∀ (f : Int → Int → Option Int) (k : Nat) (h : k < l.length), wrongs m f (l.take k) = 0 → wrongs m f l = wrongs m (rulesOf f (l.take k)) (l.drop k) := by
  induction l with
  | nil => intro f k h; simp at h
  | cons a l ih =>
    intro f k h h0
    cases k with
    | zero => rfl
    | succ k =>
      simp only [List.take_succ_cons, wrongs] at h0
      by_cases hw : wrongI m f a.1 a.2.1 a.2.2 = 0
      · rw [if_pos hw] at h0
        simp only [List.take_succ_cons, List.drop_succ_cons, wrongs, if_pos hw, rulesOf, List.foldl_cons]
        exact ih _ k (by simpa using h) h0
      · rw [if_neg hw] at h0
        exact absurd h0 hw
theorem wrongs_next (m : Bool) (l : List Rule) : ∀ (f : Int → Int → Option Int) (k : Nat) (h : k < l.length), wrongs m f (l.take k) = 0 → wrongs m f (l.take (k + 1)) = wrongI m (rulesOf f (l.take k)) l[k].1 l[k].2.1 l[k].2.2 := by
  induction l with
  | nil => intro f k h; simp at h
  | cons a l ih =>
    intro f k h h0
    cases k with
    | zero => simp only [List.take_succ_cons, List.take_zero, wrongs, rulesOf, List.foldl_nil, List.getElem_cons_zero]; split <;> simp_all
    | succ k =>
      simp only [List.take_succ_cons, wrongs] at h0
      by_cases hw : wrongI m f a.1 a.2.1 a.2.2 = 0
      · rw [if_pos hw] at h0
        simp only [List.take_succ_cons, wrongs, if_pos hw, rulesOf, List.foldl_cons, List.getElem_cons_succ]
        exact ih _ k (by simpa using h) h0
      · rw [if_neg hw] at h0
        exact absurd h0 hw
theorem wrongs_stop (m : Bool) (l : List Rule) (f : Int → Int → Option Int) (k : Nat) (h : k < l.length) (h0 : wrongs m f (l.take k) = 0) (h1 : wrongI m (rulesOf f (l.take k)) l[k].1 l[k].2.1 l[k].2.2 ≠ 0) : wrongs m f l = wrongI m (rulesOf f (l.take k)) l[k].1 l[k].2.1 l[k].2.2 := by
  rw [wrongs_take m l f k h h0, List.drop_eq_getElem_cons h, wrongs, if_neg h1]
theorem rulesOf_next (l : List Rule) (f : Int → Int → Option Int) (k : Nat) (h : k < l.length) : rulesOf f (l.take (k + 1)) = bump (rulesOf f (l.take k)) l[k].1 l[k].2.1 l[k].2.2 := by
  unfold rulesOf
  rw [List.take_succ_eq_append_getElem h, List.foldl_append]
  rfl
def Made (w : World) (m : Bool) (l : List Rule) (e : Ending) (w' : World) : Prop :=
  Kp [] w w' ∧ (newI m l ≠ 0 → e = .returned (.tuple #[.pointer none, .int .i64 (newI m l)])) ∧
  (newI m l = 0 → ∃ b r q, e = .returned (.tuple #[.pointer (some ⟨b, 0, none⟩), .int .i64 0]) ∧ MonIn w' b r q m (rulesOf (fun _ _ => none) l) (fun _ _ => none) l.length 0 ∧ w.heap.size ≤ b ∧ w.heap.size ≤ r ∧ w.heap.size ≤ q)
theorem New_calls (w : World) (v : Value) (l : List Rule) (m : Bool) (hs : Sees w 3 v l.length (cells3 l)) (hw : ∀ r ∈ l, r.wf) :
    Calls Try.prog 10 #[v, .bool m] w (Made w m l) := by
  obtain ⟨A, c, rfl⟩ := hs.shape
  have hn := hs.2.1
  unfold maxLen at hn
  by_cases h64 : 64 < l.length
  · go_enter Try.func10, Try.ntmps10
    go_wp2
    go_ret2
    exact ⟨Kp.refl _ _, fun h => by simp [newI, h64], fun h => by simp [newI, h64] at h⟩
  · obtain ⟨W1, hW, hkk, hr, hq, hb, hz⟩ := new3 w (.map #[] 0) (.map #[] 0) (.cells #[.bool m, .map (some w.heap.size), .map (some (w.heap.size + 1))] 64)
    have HW := Lib.hid hW
    clear hW hz
    have hmm := @run_makeMap Try.prog
    go_enter Try.func10, Try.ntmps10
    go_wp2_with fail
    rw [← HW.out]
    go_loopw [20] (fun i wr => ∃ k : Nat, k ≤ l.length ∧ i = .int .i64 k ∧ MonIn wr (w.heap.size + 1 + 1) w.heap.size (w.heap.size + 1) m (rulesOf (fun _ _ => none) (l.take k)) (fun _ _ => none) k 0 ∧ Kp [w.heap.size] W1 wr ∧ wrongs m (fun _ _ => none) (l.take k) = 0) (fun i _ => l.length - (intOf i).toNat)
    case atStart =>
      exact ⟨0, Nat.zero_le _, rfl, ⟨hb, MapAt.ofEmpty hr, MapAt.ofEmpty hq, by omega, by omega, by omega⟩, Kp.refl _ _, rfl⟩
    case round =>
      obtain ⟨k, hk, rfl, hM, hkr, h0⟩ := hrel
      by_cases hlt : k < l.length
      · have hsr := hs.old (hkk.nil_to.trans hkr) (by simp)
        obtain ⟨hA, hB, hC⟩ := cells3_at l k hlt
        obtain ⟨w1, w2, w3⟩ := hw _ (List.getElem_mem hlt)
        rcases hsr.2.2 with ⟨_, h0'⟩ | ⟨ad, c', he, _, _, hsp, hcell⟩
        · omega
        obtain ⟨g, off, sp⟩ := ad
        obtain rfl : sp = none := hsp (by omega)
        simp only [Value.slice.injEq, true_and] at he
        obtain ⟨rfl, rfl⟩ := he
        have hA := hcell _ _ hA
        have hB := hcell _ _ hB
        have hC := hcell _ _ hC
        simp only [← Nat.add_assoc] at hA hB hC
        have hn1 := wrongs_next m l (fun _ _ => none) k hlt h0
        have hn2 := wrongs_stop m l (fun _ _ => none) k hlt h0
        have hn3 := rulesOf_next l (fun _ _ => none) k hlt
        have HN := Lib.hid (And.intro hn1 (And.intro hn2 hn3))
        have HM := Lib.hid hM
        have H0 := Lib.hid h0
        have hL := hM.lt
        clear hsr hcell hn1 hn2 hn3 hM h0
        generalize hx : l[k] = x at *
        have HX := Lib.hid hx
        clear hx
        obtain ⟨e, lv, d⟩ := x
        simp only at *
        generalize hF : rulesOf (fun _ _ => none) (l.take k) = F at *
        have HF := Lib.hid hF
        clear hF
        go_wp2_with fail
        refine (add_calls _ _ _ _ m F _ k 0 (HM.out.keep ((Kp.refl [] _).alloc _) (by simp) (by simp) (by simp)) (by unfold maxLen; omega) e lv d w1 w2 w3).mono ?_
        rintro e1 w4 ⟨rfl, hok, hk4⟩
        have hk4 := (((Kp.refl [] wr).alloc _).nil_to).trans hk4
        generalize hxx : wrongI m F e lv d = x at *
        have HXX := Lib.hid hxx
        clear hxx
        by_cases hx0 : x = 0
        · subst hx0
          have HOK := Lib.hid (hok rfl)
          clear hok
          go_wp2
          go_roundw
          case rel =>
            obtain ⟨a1, a2, a3⟩ := HN.out
            exact ⟨k + 1, by omega, by go_num, by rw [a3]; exact HOK.out, hkr.trans hk4, a1⟩
          case measure => simp [intOf]; omega
        · have hne : (x != 0) = true := by simpa using hx0
          have HN0 := Lib.hid hx0
          clear hx0 hok
          go_wp2
          go_ret2
          obtain ⟨a1, a2, a3⟩ := HN.out
          have a2 := a2 HN0.out
          have hnI : newI m l = x := by rw [newI, if_neg h64]; exact a2
          exact ⟨(hkk.nil_to.trans (hkr.trans hk4)).mono (by simp), fun _ => by rw [hnI]; rfl, fun h => absurd (hnI.symm.trans h) HN0.out⟩
      · obtain rfl : k = l.length := by omega
        rw [List.take_length] at h0 hM
        have hnI : newI m l = 0 := by rw [newI, if_neg h64]; exact h0
        have HN := Lib.hid hnI
        clear hnI h0
        go_wp2
        go_ret2
        refine ⟨(hkk.nil_to.trans hkr).mono (by simp), fun h => absurd HN.out h, fun _ => ⟨_, _, _, rfl, hM, by omega, by omega, by omega⟩⟩
end Go.Proofs.Ytlghbnoiakeibaa
