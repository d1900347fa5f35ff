import Derived.Test.YtlghbnoiakeibaaS5
import Derived.Test.YtlghbnoiakeibaaS4
set_option linter.unusedVariables false
set_option linter.unusedSimpArgs false
namespace Go.Proofs.Ytlghbnoiakeibaa
open Go.RowKit
def ofP (m : Bool) (p : Int) : Int := if m then -1 else max p (-1)
/-- What Decide tells. -/
def toldB (m : Bool) (f : Int → Int → Option Int) (p e : Int) : Int × Int := if knownB e then doneB m f (ofP m p) e else (0, 0)
/-- The counts behind it. -/
def metB (m : Bool) (c : Int → Int → Option Int) (p e : Int) : Int → Int → Option Int :=
  if knownB e then bump c (ofP m p) e (IntKind.i64.wrap ((c (ofP m p) e).getD 0 + 1)) else c
def Decided (w : World) (b r q : Nat) (m : Bool) (f c : Int → Int → Option Int) (n k : Nat) (p e : Int) (x : Ending) (w' : World) : Prop :=
  x = .returned (.agg #[.int .i64 (toldB m f p e).1, .int .i64 (toldB m f p e).2]) ∧ MonIn w' b r q m f (metB m c p e) n (k + 1) ∧ Kp [q] w w'
theorem Decide_calls (w : World) (b r q : Nat) (m : Bool) (f c : Int → Int → Option Int) (n k : Nat) (h : MonIn w b r q m f c n k) (hk : k < maxLen) (p e : Int) (hp : (Lit.int .i64 p).wf = true) (he : (Lit.int .i64 e).wf = true) :
    Calls Try.prog 12 #[.pointer (some ⟨b, 0, none⟩), .int .i64 p, .int .i64 e] w (Decided w b r q m f c n k p e) := by
  obtain ⟨lb, lr, lq⟩ := h.lt
  obtain ⟨W1, hW, hkk, h6, hz⟩ := new1 w (.cells #[.int .i64 0, .int .i64 0] 36)
  have HW := Lib.hid hW
  clear hW hz
  have h1 := h.keep hkk (by simp) (by simp) (by simp)
  go_enter Try.func12, Try.ntmps12
  go_wp2_with fail
  rw [← HW.out]
  obtain ⟨-, c6, f6, l6⟩ := (Kp.refl [] W1).look h6 (by simp)
  obtain ⟨-, c1, f1, l1⟩ := (Kp.refl [] W1).look h1.blk (by simp)
  refine (known_calls _ _).mono ?_
  rintro e1 w1 ⟨rfl, rfl⟩
  cases hkn : knownB e
  · have HKN := Lib.hid hkn
    clear hkn
    go_wp2
    have cF := blk_cell (blk_set (blk_set h6 0 (.int .i64 0)) 1 (.int .i64 0))
    refine bodyPost_ret (v := .agg #[.int .i64 0, .int .i64 0]) ?_ rfl ?_
    · simp [results, Try.results12, go_sem, cF]
    · have hs := ((Kp.refl [w.heap.size] W1).setCell (p := ⟨w.heap.size, 0, none⟩) (.inl (by simp)) (.int .i64 0)).setCell (p := ⟨w.heap.size, 1, none⟩) (.inl (by simp)) (.int .i64 0)
      refine ⟨by simp [toldB, HKN.out], ?_, hkk.nil_to.next hs (by simp)⟩
      have h2 := h1.keep hs (by simp; omega) (by simp; omega) (by simp; omega)
      simp only [metB, HKN.out]
      exact ⟨h2.blk, h2.rules, h2.counts.more (Nat.le_succ k), h2.rq, h2.rb, h2.qb⟩
  · have HKN := Lib.hid hkn
    clear hkn
    go_wp2_with fail
    refine (of_calls _ b m f c n k h1.at p).mono ?_
    rintro e1 w1 ⟨rfl, rfl⟩
    have hwf : (Lit.int .i64 (ofP m p)).wf = true := by
      unfold ofP
      split
      · rfl
      · simp [Lit.wf] at hp ⊢; omega
    have hlk := (h1.counts.keep (w' := W1.drew) (Kp.refl [] _).drew (by simp)).look counts hwf he
    obtain ⟨st, w2, hent, hk2, hmid, hst⟩ := (h1.counts.keep (w' := W1.drew) (Kp.refl [] _).drew (by simp)).entry counts hk hwf he
    obtain ⟨w3, hst, hm3, hk3⟩ := hst w2 (IntKind.i64.wrap ((c (ofP m p) e).getD 0 + 1)) rfl (wf_wrap _ _)
    have hlk2 := hmid.look counts hwf he
    simp only [bump, and_self, if_true, Option.getD_some] at hlk2
    simp only [goInt] at hst hent
    clear hmid
    have hk13 := ((Kp.refl [q] W1).drew.trans hk2).trans hk3
    have hM := h1.keep hk13
    have hM3 : MonIn w3 b r q m f (metB m c p e) n (k + 1) := ⟨hk13.heap h1.blk (by simp; exact fun e => h1.qb e.symm), h1.rules.keep hk13 (by simp; exact h1.rq), by simp only [metB, HKN.out, if_true]; exact hm3, h1.rq, h1.rb, h1.qb⟩
    have HM3 := Lib.hid hM3
    have HK := Lib.hid hk13
    have H1 : Hid (∀ V, Kp [q] W1 V → (∀ i, V.cell? ⟨b, i, none⟩ = #[.bool m, .map (some r), .map (some q)][i]?)) :=
      Lib.hid fun V hV => blk_cell (hV.heap h1.blk (by simp; exact fun e => h1.qb e.symm))
    have HK2 := Lib.hid ((Kp.refl [q] W1).drew.trans hk2)
    clear hm3 hk3 hk2 hM3 hk13 hM
    have hof : (if m then -1 else max p (-1)) = ofP m p := rfl
    rw [hof]
    generalize ho : ofP m p = o at *
    have HO := Lib.hid ho
    clear ho
    generalize (c o e).getD 0 = cv at *
    go_wp2_with fail
    go_region_held3 (fun V => (∀ i, V.cell? ⟨b, i, none⟩ = #[.bool m, .map (some r), .map (some q)][i]?)) ((refine H1.out _ ?_; first | exact HK.out | exact HK2.out | (repeat (with_reducible first | assumption | apply Kp.refl | apply Kp.drew)))) (fail)
    all_goals
      go_wp2_with fail
      refine (decide_calls w3 b m f _ n (k + 1) HM3.out.at o e he).mono ?_
      rintro e1 w4 ⟨rfl, hk4⟩
      obtain ⟨h64, c64, f64, l64⟩ := (HK.out.trans hk4.nil_to).look h6 (by simp; omega)
      have hT : toldB m f p e = doneB m f o e := by simp only [toldB, HKN.out, HO.out]; rfl
      rw [← hT]
      generalize htt : toldB m f p e = tt at *
      have HTT := Lib.hid htt
      clear htt hT
      go_wp2
      have cF := blk_cell (blk_set (blk_set h64 0 (.int .i64 tt.1)) 1 (.int .i64 tt.2))
      have hs := ((Kp.refl [w.heap.size] w4).setCell (p := ⟨w.heap.size, 0, none⟩) (.inl (by simp)) (.int .i64 tt.1)).setCell (p := ⟨w.heap.size, 1, none⟩) (.inl (by simp)) (.int .i64 tt.2)
      refine bodyPost_ret (v := .agg #[.int .i64 tt.1, .int .i64 tt.2]) ?_ rfl ?_
      · simp [results, Try.results12, go_sem, cF]
      · refine ⟨by simp [HTT.out], ?_, (hkk.nil_to.trans (HK.out.trans hk4.nil_to)).next hs (by simp)⟩
        exact (HM3.out.keep hk4 (by simp) (by simp) (by simp)).keep hs (by simp; omega) (by simp; omega) (by simp; omega)
end Go.Proofs.Ytlghbnoiakeibaa
