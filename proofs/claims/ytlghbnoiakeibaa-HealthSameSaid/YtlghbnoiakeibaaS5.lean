import Derived.Test.YtlghbnoiakeibaaS3
import Derived.Test.YtlghbnoiakeibaaN
import Derived.Deep.RegionHeld3
import Derived.IntWalk
import Derived.Laws.StructEq
set_option linter.unusedVariables false
set_option linter.unusedSimpArgs false
namespace Go.Proofs.Ytlghbnoiakeibaa
open Go.RowKit
/-- The monitor in block b, its rules in block r, its counts in block q. -/
structure MonIn (w : World) (b r q : Nat) (m : Bool) (f c : Int → Int → Option Int) (n k : Nat) : Prop where
  blk : w.heap[b]? = some (.cells #[.bool m, .map (some r), .map (some q)] 64)
  rules : MapAt Try.prog 75 3 w r n f
  counts : MapAt Try.prog 69 3 w q k c
  rq : r ≠ q
  rb : r ≠ b
  qb : q ≠ b
theorem MonIn.at {w : World} {b r q n k : Nat} {m : Bool} {f c : Int → Int → Option Int} (h : MonIn w b r q m f c n k) : MonAt w b m f c n k := ⟨r, q, h.blk, h.rules, h.counts, h.rq, h.rb, h.qb⟩
theorem MonIn.keep {S : List Nat} {w w' : World} {b r q n k : Nat} {m : Bool} {f c : Int → Int → Option Int} (h : MonIn w b r q m f c n k) (hk : Kp S w w') (hb : b ∉ S) (hr : r ∉ S) (hq : q ∉ S) : MonIn w' b r q m f c n k :=
  ⟨hk.heap h.blk hb, h.rules.keep hk hr, h.counts.keep hk hq, h.rq, h.rb, h.qb⟩
theorem MonIn.lt {w : World} {b r q n k : Nat} {m : Bool} {f c : Int → Int → Option Int} (h : MonIn w b r q m f c n k) : b < w.heap.size ∧ r < w.heap.size ∧ q < w.heap.size := ⟨blk_lt h.blk, h.rules.lt, h.counts.lt⟩
/-- What is wrong with a rule (0: nothing), where the rules f are there. -/
def wrongI (m : Bool) (f : Int → Int → Option Int) (e l d : Int) : Int :=
  if !(knownB e) || !(hasB m l) then 2 else if !((canL l).contains d) then 1 else if (f e l).isSome then 7 else 0
def Added (w : World) (b r q : Nat) (m : Bool) (f c : Int → Int → Option Int) (n k : Nat) (e l d : Int) (x : Ending) (w' : World) : Prop :=
  x = .returned (.int .i64 (wrongI m f e l d)) ∧ (wrongI m f e l d = 0 → MonIn w' b r q m (bump f e l d) c (n + 1) k) ∧ Kp [r] w w'
theorem add_calls (w : World) (b r q : Nat) (m : Bool) (f c : Int → Int → Option Int) (n k : Nat) (h : MonIn w b r q m f c n k) (hn : n < maxLen) (e l d : Int) (he : (Lit.int .i64 e).wf = true) (hl : (Lit.int .i64 l).wf = true) (hd : (Lit.int .i64 d).wf = true) :
    Calls Try.prog 21 #[.pointer (some ⟨b, 0, none⟩), .agg #[.int .i64 e, .int .i64 l, .int .i64 d]] w (Added w b r q m f c n k e l d) := by
  obtain ⟨lb, lr, lq⟩ := h.lt
  have c0 := blk_cell h.blk
  have lb1 : b < w.heap.size + 1 := by omega
  obtain ⟨W2, hW2, hkk, h3, h5, hz⟩ := new2 w (.cells #[.int .i64 e, .int .i64 l, .int .i64 d] 43) (.cells #[.int .i64 e, .int .i64 l] 75)
  have HW := Lib.hid hW2
  have HZ := Lib.hid hz
  clear hW2 hz
  have h2 := h.keep hkk (by simp) (by simp) (by simp)
  go_enter Try.func21, Try.ntmps21
  go_wp2_with fail
  rw [← HW.out]
  obtain ⟨-, c3, f3, l3⟩ := (Kp.refl [] W2).look h3 (by simp)
  obtain ⟨-, c5, f5, l5⟩ := (Kp.refl [] W2).look h5 (by simp)
  obtain ⟨-, c2, f2, l2⟩ := (Kp.refl [] W2).look h2.blk (by simp)
  refine (known_calls _ _).mono ?_
  rintro e1 w1 ⟨rfl, rfl⟩
  generalize hk : knownB e = kb at *
  have Hk := Lib.hid hk
  clear hk
  cases kb
  · go_wp2_with fail
    go_ret
    have hw : wrongI m f e l d = 2 := by simp [wrongI, Hk.out]
    exact ⟨by rw [hw]; rfl, fun h => by omega, hkk.nil_to⟩
  · go_wp2_with fail
    refine (has_calls _ b m f c n k h2.at l).mono ?_
    rintro e1 w1 ⟨rfl, rfl⟩
    generalize hh : hasB m l = hb2 at *
    have Hh := Lib.hid hh
    clear hh
    cases hb2
    · go_wp2_with fail
      go_ret
      have hw : wrongI m f e l d = 2 := by simp [wrongI, Hk.out, Hh.out]
      exact ⟨by rw [hw]; rfl, fun h => by omega, hkk.nil_to⟩
    · go_wp2_with fail
      have HC : Hid (∀ V, Kp [] W2 V → Calls Try.prog 33 #[.int .i64 l] V fun r w' => ∃ n c, r = .returned (.slice (some ⟨V.heap.size, 0, none⟩) n c) ∧ Sees w' 1 (.slice (some ⟨V.heap.size, 0, none⟩) n c) n (nums .i64 (canL l)) ∧ Kp [] W2 w') :=
        Lib.hid fun V hV => (can_calls V l).mono fun r w' ⟨n1, c1, a1, a2, a3⟩ => ⟨n1, c1, a1, a2, hV.trans a3⟩
      have HS : Hid (∀ V, Kp [] W2 V → Kp [] W2 V ∧ (∀ i, V.cell? ⟨w.heap.size, i, none⟩ = #[.int .i64 e, .int .i64 l, .int .i64 d][i]?)) := Lib.hid fun V hV => ⟨hV, blk_cell (hV.heap h3 (by simp))⟩
      clear c0 lb1 c3 f3 l3 c5 f5 l5 c2 f2 l2
      generalize hq : (canL l).contains d = cb at *
      have Hq := Lib.hid hq
      clear hq
      cases cb
      · skip
        go_region_held3 (fun V => Kp [] W2 V ∧ (∀ i, V.cell? ⟨w.heap.size, i, none⟩ = #[.int .i64 e, .int .i64 l, .int .i64 d][i]?)) ((refine HS.out _ ?_; repeat (with_reducible first | assumption | apply Kp.refl | apply Kp.drew))) (first | (go_at_call 33; with_reducible refine (HC.out _ ?_).mono ?_; exact (‹Kp [] W2 _ ∧ _›).1; rintro e1 V1 ⟨n1, c1, rfl, hs1, hkV⟩) | (go_at_call 32; refine (contains_calls _ _ _ _ d (hs1.keep (S := []) (by repeat (with_reducible first | assumption | apply Kp.refl | apply Kp.drew)) (by simp))).mono ?_; rintro e1 V2 ⟨he2, rfl⟩; rw [Hq.out] at he2; subst he2))
        all_goals
          go_wp2
          go_ret
          have hw : wrongI m f e l d = 1 := by simp only [wrongI, Hk.out, Hh.out, Hq.out]; rfl
          exact ⟨by rw [hw]; rfl, fun h => by omega, (hkk.trans hkV).nil_to⟩
      · skip
        go_region_held3 (fun V => Kp [] W2 V ∧ (∀ i, V.cell? ⟨w.heap.size, i, none⟩ = #[.int .i64 e, .int .i64 l, .int .i64 d][i]?)) ((refine HS.out _ ?_; repeat (with_reducible first | assumption | apply Kp.refl | apply Kp.drew))) (first | (go_at_call 33; with_reducible refine (HC.out _ ?_).mono ?_; exact (‹Kp [] W2 _ ∧ _›).1; rintro e1 V1 ⟨n1, c1, rfl, hs1, hkV⟩) | (go_at_call 32; refine (contains_calls _ _ _ _ d (hs1.keep (S := []) (by repeat (with_reducible first | assumption | apply Kp.refl | apply Kp.drew)) (by simp))).mono ?_; rintro e1 V2 ⟨he2, rfl⟩; rw [Hq.out] at he2; subst he2))
        have hV1 := hkk.trans hkV
        have h1 := h2.keep hkV (by simp) (by simp) (by simp)
        obtain ⟨-, cb, fb, lb1⟩ := (Kp.refl [] V1).look h1.blk (by simp)
        obtain ⟨-, c5, f5, l5⟩ := hkV.look h5 (by simp)
        have hlk2 := (h1.rules.keep (w' := V1.drew) (Kp.refl [] _).drew (by simp)).lookOk rules he hl
        obtain ⟨w5, hput, hm5, hk5⟩ := (h1.rules.keep (w' := V1.drew.drew) (Kp.refl [] _).drew.drew (by simp)).put rules hn he hl hd
        have hk6 := (Kp.refl [r] V1).drew.drew.trans hk5
        have HF : Hid (Added w b r q m f c n k e l d (.returned (.int .i64 (if (f e l).isSome then 7 else 0))) (if (f e l).isSome then V1.drew else w5)) := by
          refine Lib.hid ⟨by simp only [wrongI, Hk.out, Hh.out, Hq.out]; rfl, ?_, ?_⟩
          · intro hw
            have hw' : (if (f e l).isSome = true then (7 : Int) else 0) = 0 := by simpa only [wrongI, Hk.out, Hh.out, Hq.out, Bool.not_true, Bool.or_self, Bool.false_eq_true, if_false] using hw
            have h0 : (f e l).isSome = false := by
              cases hs : (f e l).isSome with
              | false => rfl
              | true => rw [hs] at hw'; simp at hw'
            rw [h0]
            exact ⟨hk6.heap h1.blk (by simp; exact fun e => h1.rb e.symm), hm5, h1.counts.keep hk6 (by simp; exact fun e => h1.rq e.symm), h1.rq, h1.rb, h1.qb⟩
          · split
            · exact hV1.nil_to.drew
            · exact hV1.nil_to.trans hk6
        generalize hsm : (f e l).isSome = sm at *
        generalize (f e l).getD 0 = gd at *
        have H1 : Hid (∀ V, Kp [r] V1 V → (∀ i, V.cell? ⟨b, i, none⟩ = #[.bool m, .map (some r), .map (some q)][i]?) ∧ (∀ i, V.cell? ⟨w.heap.size, i, none⟩ = #[.int .i64 e, .int .i64 l, .int .i64 d][i]?) ∧ (∀ i, V.cell? ⟨w.heap.size + 1, i, none⟩ = #[.int .i64 e, .int .i64 l][i]?)) :=
          Lib.hid fun V hV => ⟨blk_cell (hV.heap h1.blk (by simp; exact fun e => h1.rb e.symm)), blk_cell (hV.heap (hkV.heap h3 (by simp)) (by simp; omega)), blk_cell (hV.heap (hkV.heap h5 (by simp)) (by simp; omega))⟩
        have HK5 := Lib.hid hk6
        clear hsm hk5 hm5 hk6 h1 lb1
        go_wp2
        go_region_held3 (fun V => (∀ i, V.cell? ⟨b, i, none⟩ = #[.bool m, .map (some r), .map (some q)][i]?) ∧ (∀ i, V.cell? ⟨w.heap.size, i, none⟩ = #[.int .i64 e, .int .i64 l, .int .i64 d][i]?) ∧ (∀ i, V.cell? ⟨w.heap.size + 1, i, none⟩ = #[.int .i64 e, .int .i64 l][i]?)) ((refine H1.out _ ?_; first | exact HK5.out | (repeat (with_reducible first | assumption | apply Kp.refl | apply Kp.drew)))) (fail)
        cases sm
        · go_wp2_with fail
          go_region_held3 (fun V => (∀ i, V.cell? ⟨b, i, none⟩ = #[.bool m, .map (some r), .map (some q)][i]?) ∧ (∀ i, V.cell? ⟨w.heap.size, i, none⟩ = #[.int .i64 e, .int .i64 l, .int .i64 d][i]?) ∧ (∀ i, V.cell? ⟨w.heap.size + 1, i, none⟩ = #[.int .i64 e, .int .i64 l][i]?)) ((refine H1.out _ ?_; first | exact HK5.out | (repeat (with_reducible first | assumption | apply Kp.refl | apply Kp.drew)))) (fail)
          go_wp2
          go_ret
          exact HF.out
        · go_wp2
          go_ret
          exact HF.out
end Go.Proofs.Ytlghbnoiakeibaa
