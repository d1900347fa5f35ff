import Derived.Test.YtlghbnoiakeibaaQ2
import Derived.Shelf.SlMaps.Clone
set_option linter.unusedVariables false
set_option linter.unusedSimpArgs false
namespace Go.Proofs.Ytlghbnoiakeibaa
open Go.RowKit
theorem clone29_calls (w : World) (b n : Nat) (f : Int → Int → Option Int) (h : MapAt Try.prog 75 3 w b n f) :
    Calls Try.prog 29 #[.map (some b)] w fun e w' => e = .returned (.map (some w.heap.size)) ∧ MapAt Try.prog 75 3 w' w.heap.size n f ∧ Kp [] w w' := by
  obtain ⟨D, ⟨es, clock, hb, F, hs, hD⟩, hf⟩ := h
  have hq := fun w => run_eql_map_nil_sl (P := Try.prog) w 61 _ _ (some b) Try.underlying61
  go_enter Try.func29, Try.ntmps29
  go_wp2
  rw [run_callFunc_extern Try.func35 (by kernel_rfl) (by kernel_rfl) (by kernel_rfl) (e := Extern.MapsClone.clone) (by kernel_rfl), run_maps_clone_sl w 61 hb]
  simp only [Result.andThen]
  rw [Oper.upon_value]
  go_wp2
  rw [run_typeAssert_map_sl _ 61 20 _ _ _ Try.underlying61]
  simp only [Result.andThen]
  rw [Oper.upon_value]
  go_wp2
  go_ret
  exact ⟨rfl, ⟨D, ⟨es, clock, blk_new w _, F, hs, hD⟩, hf⟩, (Kp.refl _ _).alloc _⟩
theorem clone30_calls (w : World) (b n : Nat) (f : Int → Int → Option Int) (h : MapAt Try.prog 69 3 w b n f) :
    Calls Try.prog 30 #[.map (some b)] w fun e w' => e = .returned (.map (some w.heap.size)) ∧ MapAt Try.prog 69 3 w' w.heap.size n f ∧ Kp [] w w' := by
  obtain ⟨D, ⟨es, clock, hb, F, hs, hD⟩, hf⟩ := h
  have hq := fun w => run_eql_map_nil_sl (P := Try.prog) w 62 _ _ (some b) Try.underlying62
  go_enter Try.func30, Try.ntmps30
  go_wp2
  rw [run_callFunc_extern Try.func35 (by kernel_rfl) (by kernel_rfl) (by kernel_rfl) (e := Extern.MapsClone.clone) (by kernel_rfl), run_maps_clone_sl w 62 hb]
  simp only [Result.andThen]
  rw [Oper.upon_value]
  go_wp2
  rw [run_typeAssert_map_sl _ 62 20 _ _ _ Try.underlying62]
  simp only [Result.andThen]
  rw [Oper.upon_value]
  go_wp2
  go_ret
  exact ⟨rfl, ⟨D, ⟨es, clock, blk_new w _, F, hs, hD⟩, hf⟩, (Kp.refl _ _).alloc _⟩
def Cloned (w : World) (m : Bool) (f c : Int → Int → Option Int) (n k : Nat) (e : Ending) (w' : World) : Prop :=
  ∃ b r q, e = .returned (.pointer (some ⟨b, 0, none⟩)) ∧ MonIn w' b r q m f c n k ∧ w.heap.size ≤ b ∧ w.heap.size ≤ r ∧ w.heap.size ≤ q ∧ Kp [] w w'
theorem Clone_calls (w : World) (b r q : Nat) (m : Bool) (f c : Int → Int → Option Int) (n k : Nat) (h : MonIn w b r q m f c n k) :
    Calls Try.prog 18 #[.pointer (some ⟨b, 0, none⟩)] w (Cloned w m f c n k) := by
  have HS : Hid (∀ V, Kp [] w V → Kp [] w V ∧ ∀ i, V.cell? ⟨b, i, none⟩ = #[.bool m, .map (some r), .map (some q)][i]?) := Lib.hid fun V hV => ⟨hV, blk_cell (hV.heap h.blk (by simp))⟩
  have H1 : Hid (∀ V, Kp [] w V → Calls Try.prog 29 #[.map (some r)] V fun e w' => e = .returned (.map (some V.heap.size)) ∧ MapAt Try.prog 75 3 w' V.heap.size n f ∧ Kp [] V w') :=
    Lib.hid fun V hV => clone29_calls V r n f (h.rules.keep hV (by simp))
  have H2 : Hid (∀ V, Kp [] w V → Calls Try.prog 30 #[.map (some q)] V fun e w' => e = .returned (.map (some V.heap.size)) ∧ MapAt Try.prog 69 3 w' V.heap.size k c ∧ Kp [] V w') :=
    Lib.hid fun V hV => clone30_calls V q k c (h.counts.keep hV (by simp))
  clear h
  go_enter Try.func18, Try.ntmps18
  go_wp2_with fail
  go_region_held3 (fun V => Kp [] w V ∧ ∀ i, V.cell? ⟨b, i, none⟩ = #[.bool m, .map (some r), .map (some q)][i]?) ((refine HS.out _ ?_; first | exact hkB.alloc _ | exact hkA | exact hkB | (repeat (with_reducible first | assumption | apply Kp.refl | apply Kp.drew)))) (first | (go_at_call 29; (with_reducible refine (H1.out _ ?_).mono ?_); exact (‹Kp [] w _ ∧ _›).1; rintro x VA ⟨rfl, hmA, hkA1⟩; have hkA := (‹Kp [] w _ ∧ _›).1.trans hkA1; clear hkA1) | (go_at_call 30; (with_reducible refine (H2.out _ ?_).mono ?_); exact hkA; rintro x VB ⟨rfl, hmB, hkB1⟩; have hkB := hkA.trans hkB1))
  go_wp2
  go_ret
  have hs1 := hkA.size
  have hs2 := hkB.size
  refine ⟨_, _, _, rfl, ⟨blk_new _ _, (hmA.keep hkB1 (by simp)).keep ((Kp.refl [] _).alloc _) (by simp), hmB.keep ((Kp.refl [] _).alloc _) (by simp), ?_, ?_, ?_⟩, ?_, ?_, ?_, hkB.alloc _⟩
  all_goals
    have hlA := (hmA.keep hkB1 (by simp)).lt
    have hlB := hmB.lt
    have hlA0 := hmA.lt
    have hz1 := hkB1.size
    simp at hlA hlB hlA0 hz1 hs1 hs2 ⊢
    try omega
theorem Reset_calls (w : World) (b r q : Nat) (m : Bool) (f c : Int → Int → Option Int) (n k : Nat) (h : MonIn w b r q m f c n k) :
    Calls Try.prog 17 #[.pointer (some ⟨b, 0, none⟩)] w fun e w' => e = .returned (.tuple #[]) ∧ MonIn w' b r q m f (fun _ _ => none) n 0 ∧ Kp [q] w w' := by
  obtain ⟨w', hr, hm', hk⟩ := h.counts.clear (ty := 0) counts
  have c0 := blk_cell h.blk
  have HM := Lib.hid hm'
  have HK := Lib.hid hk
  clear hm' hk
  go_enter Try.func17, Try.ntmps17
  go_wp2
  go_end0
  exact ⟨rfl, ⟨HK.out.heap h.blk (by simp; exact fun e => h.qb e.symm), h.rules.keep HK.out (by simp; exact h.rq), HM.out, h.rq, h.rb, h.qb⟩, HK.out⟩
theorem Count_calls (w : World) (b r q : Nat) (m : Bool) (f c : Int → Int → Option Int) (n k : Nat) (h : MonIn w b r q m f c n k) (p e : Int) (hp : (Lit.int .i64 p).wf = true) (he : (Lit.int .i64 e).wf = true) :
    Calls Try.prog 19 #[.pointer (some ⟨b, 0, none⟩), .int .i64 p, .int .i64 e] w fun x w' => x = .returned (.int .i64 ((c (ofP m p) e).getD 0)) ∧ Kp [] w w' := by
  have hwf : (Lit.int .i64 (ofP m p)).wf = true := by
    unfold ofP
    split
    · rfl
    · simp [Lit.wf] at hp ⊢; omega
  obtain ⟨I, hI, F, hF, hG⟩ := fam [] w
  have c1 := fun n => blk_cell ((hF n).heap h.blk (by simp))
  have HO : Hid (∀ n, Calls Try.prog 23 #[.pointer (some ⟨b, 0, none⟩), .int .i64 p] (F n) fun x w' => x = .returned (.int .i64 (ofP m p)) ∧ ∃ m, w' = F m) :=
    Lib.hid fun n => (of_calls (F n) b m f c _ _ (h.keep (hF n) (by simp) (by simp) (by simp)).at p).mono fun x w' ⟨a1, a2⟩ => ⟨a1, n, a2.symm⟩
  have hlk := fun n => (h.counts.keep (hF n) (by simp)).look counts hwf he
  have HF := Lib.hid hF
  have h0 := Lib.hid (hG w.drew (Kp.refl _ _).drew)
  clear hF hG h
  generalize (c (ofP m p) e).getD 0 = d at *
  generalize ofP m p = o at *
  go_enter Try.func19, Try.ntmps19
  go_wp2_with fail
  refine wp_region_fam F h0.out (by kernel_rfl) (by kernel_rfl) ?_
  repeat (go_big_quiet_step (exact HO.out _))
  refine wpQuiet_nil ?_
  rintro _ ⟨nq, rfl⟩
  go_wp2
  go_ret
  exact ⟨rfl, HF.out _⟩
end Go.Proofs.Ytlghbnoiakeibaa
