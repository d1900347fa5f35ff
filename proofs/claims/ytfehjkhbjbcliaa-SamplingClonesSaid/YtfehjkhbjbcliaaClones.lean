import Derived.Test.YtfehjkhbjbcliaaQ
import Derived.Test.YtfehjkhbjbcliaaN
set_option linter.unusedVariables false
set_option linter.unusedSimpArgs false
namespace Go.Proofs.Ytfehjkhbjbcliaa
open Go.ChangeShapes Go.WideShapes Go.ChangeAt Go.RowKit
set_option maxHeartbeats 6000000
section
variable {H : Type} {enc : TypeId × Value → H} {P : Program} {W : World} {base : Nat}
/-- An array of two whole numbers came in. -/
def InTwo (k : IntKind) (v : Value) : Prop := ∃ a b, v = .agg #[.int k a, .int k b]
theorem inTwo_of {t e : TypeId} {k : IntKind} (ht : P.underlying t = some (.array 2 e)) (he : P.underlying e = some (.int k)) (hc : P.cellsOf e = 1) (hcc : P.cellsOf t = 2) {v : Value} {d : DataW H} {p : List MemPlace} (hv : Value.okWide P W .any base t v)
    (h : DataW.Trod enc P W 0 (fun _ => true) true t v d p) : InTwo k v := by
  simp only [Value.okWide, ht] at hv
  obtain ⟨cs, rfl, h2, _⟩ := hv
  rw [hcc] at h2
  obtain ⟨c0, c1, rfl⟩ : ∃ c0 c1, cs = #[c0, c1] := ⟨cs[0]'(by omega), cs[1]'(by omega), by apply Array.ext (by simp [h2]); intro i h3 h4; have : i = 0 ∨ i = 1 := (by omega); rcases this with rfl | rfl <;> simp⟩
  obtain ⟨fuel, hf⟩ := h
  simp only [Value.cells] at hf
  cases fuel with
  | zero => simp [DataW.trod] at hf
  | succ n =>
    unfold DataW.trod at hf
    rw [ht] at hf
    have r2 : List.range 2 = [0, 1] := rfl
    simp [r2, hc] at hf
    obtain ⟨_, hf⟩ := hf
    cases h0 : DataW.trod enc P W 0 (fun _ => true) true n e [c0] with
    | none => simp [h0] at hf
    | some y0 =>
      cases h1 : DataW.trod enc P W 0 (fun _ => true) true n e [c1] with
      | none => simp [h0, h1] at hf
      | some y1 =>
        obtain ⟨a, ea, _, _⟩ := DataW.trod_int he h0
        obtain ⟨b, eb, _, _⟩ := DataW.trod_int he h1
        simp at ea eb
        exact ⟨a, b, by rw [ea, eb]⟩
end
theorem eq_ptr (gc g : Nat) (w : World) {s t : PS} (hne : gc ≠ g) (ha : PortAt w gc s) (hb : PortAt w g t) : (binOp .eql 23 (.pointer (some ⟨gc, 0, none⟩)) (.pointer (some ⟨g, 0, none⟩))).run Try.prog w = .ok (.bool false) w := by
  obtain ⟨v, h1, _⟩ := ha
  obtain ⟨v', h2, _⟩ := hb
  have hz : (Try.prog.info? 63).any (fun j => j.size != 0) = true := by kernel_rfl
  cases hj : Try.prog.info? 63 with
  | none => simp [hj] at hz
  | some j => exact run_eql_ptr_other w Try.underlying23 hj (by simpa [hj] using hz) (fun h => hne (Addr.mk.inj h).1) h1 h2
theorem clones_calls (a b : Int) (v v2 : Value) (W : World) (hv : InOps W v) (hv2 : InOps W v2) :
    Calls Try.prog 8 #[.agg #[.int .i64 a, .int .i64 b], v, v2] W fun e w' => e = .returned (.bool true) ∧ Kp [] W w' := by
  obtain ⟨n, O, M, hs, hel⟩ := hv
  obtain ⟨A, c, rfl⟩ := hs.shape
  obtain ⟨n2, O2, M2, hs2, hel2⟩ := hv2
  obtain ⟨Ay, cy, rfl⟩ := hs2.shape
  have hn := hs.1
  have hn2 := hs2.1
  unfold maxLen at hn hn2
  have hpl := hs.place
  have hpl2 := hs2.place
  go_enter Try.func8, Try.ntmps8
  go_wp2_with fail
  refine (begin_calls a b _).mono ?_
  rintro e w1 ⟨g, av, rfl, hp, hra, hg, hk⟩
  have hk := ((Kp.refl [] W).alloc _).trans hk
  obtain ⟨v0, rfl, hbx⟩ := hra.box
  obtain ⟨A0, k0, rfl⟩ : ∃ A k, v0 = .slice A 0 k := by
    obtain ⟨u, h1, h2, h3⟩ := hbx
    rw [blk_new] at h1
    simp at h1
    subst h1
    exact h2.shape
  have hgl := hp.lt
  go_wp2_with fail
  refine (told_calls _).mono ?_
  rintro e w2 ⟨rfl, hk2⟩
  have hk12 := ((Kp.refl [] w1).alloc _).trans hk2
  have hp := hp.keep hk12 (by simp) (by simp)
  have hbx := hbx.keep hk2 (by simp) (by simp)
  have hkW := hk.trans hk12
  have hok := beg_ok a b
  have hgx := hp.ne hbx
  have hWx : W.heap.size ≤ w1.heap.size := hk.size
  have hg : W.heap.size ≤ g := by simp at hg; omega
  generalize w1.heap.size = bx at *
  clear hk2 hk12 hk hra
  generalize beg a b = s0 at *
  go_wp2
  go_loopw [9] (fun l9 wr => ∃ (k : Nat) (st : PS), k ≤ n ∧ k ≤ 50 ∧ l9 = .int .i64 k ∧ PortAt wr g st ∧ BoxAt wr bx st ∧ PSok st ∧ Kp [g, bx] w2 wr) (fun l9 _ => 50 - (intOf l9).toNat)
  case atStart => exact ⟨0, _, Nat.zero_le _, Nat.zero_le _, rfl, hp, hbx, hok, Kp.refl _ _⟩
  case round =>
    obtain ⟨k, st, hk1, hk100, rfl, hpr, hbr, hokr, hkr⟩ := hrel
    have hkr' : Kp [] W wr := hkW.next hkr (by simp; omega)
    by_cases hlt : k < n ∧ k < 50
    · obtain ⟨hlt1, hlt2⟩ := hlt
      obtain ⟨b, off, rfl, hcell⟩ := hpl k hlt1
      obtain ⟨n', hm'⟩ := hel k hlt1
      clear hel hpl hel2 hpl2
      have hbr0 := hbr
      obtain ⟨u, hub, hur, hum⟩ := hbr
      obtain ⟨A1, k1, rfl⟩ := hur.shape
      obtain ⟨A2, k2, hM⟩ := hm'.shape
      rw [hM] at hm' hcell
      have hx0 : wr.cell? ⟨b, off + k * 3, none⟩ = some (.int .i64 (O k).kind) := hkr'.cell (hcell 0 _ rfl) (by simp)
      have hx1 := hkr'.cell (hcell 1 _ rfl) (by simp)
      have hx2 := hkr'.cell (hcell 2 _ rfl) (by simp)
      have hbW : b < W.heap.size := World.block_lt_of_cell? W _ (hcell 0 _ rfl)
      have cb := blk_cell hub
      have HC := Lib.hid hcell
      have HM := Lib.hid hM
      clear hcell hM
      have hgr := hpr.lt
      have lxr := blk_lt hub
      have HS : Hid (∀ V, Kp [g, bx] wr V → Kp [g, bx] wr V ∧ V.cell? ⟨b, off + k * 3, none⟩ = some (.int .i64 (O k).kind) ∧ V.cell? ⟨b, off + k * 3 + 1, none⟩ = some (.int .i64 (O k).now) ∧ V.cell? ⟨b, off + k * 3 + 2, none⟩ = some (.slice A2 n' k2)) :=
        Lib.hid fun V hV => ⟨hV, hV.cell hx0 (by simp; omega), hV.cell hx1 (by simp; omega), hV.cell hx2 (by simp; omega)⟩
      have HD : Hid (∀ V, Kp [] wr V → Calls Try.prog 15 #[.pointer (some ⟨g, 0, none⟩), .agg #[.int .i64 st.words, .int .i64 st.refresh, .bool st.has, .slice A1 st.m.length k1, .int .i64 st.stamp], .agg #[.int .i64 (O k).kind, .int .i64 (O k).now, .slice A2 n' k2]] V fun e w' => ∃ av, e = .returned (.tuple #[av, .bool true]) ∧ PortAt w' g (opS st (O k)) ∧ RefAt w' av (opS st (O k)) ∧ Kp [g, bx] wr w' ∧ Kp [g] wr w') := by
        refine Lib.hid fun V hV => (do_calls V g _ st (O k) _ n' (hpr.keep hV (by simp) (by simp)) ⟨_, rfl, hur.keep hV (by simp), hum⟩ hokr (hm'.keep (hkr'.trans hV) (by simp))).mono ?_
        rintro e w' ⟨av, he, h1, h2, h3⟩
        exact ⟨av, he, h1, h2, ((hV.nil_to).trans h3).mono (by simp), (hV.nil_to).trans h3⟩
      have hok' := opS_ok st (O k) hokr
      have hw' := opS_words st (O k)
      generalize hst' : opS st (O k) = st' at *
      have Hst' := Lib.hid hst'
      have Hw' := Lib.hid hw'
      clear hst' hw'
      have hm0 : bx ∈ [g, bx] := by simp
      go_wp2
      go_region_with (first | (go_at_call 15; refine (HD.out _ ?_).mono ?_; (repeat (with_reducible first | apply Kp.refl | apply Kp.drew)); rintro e V1 ⟨av1, rfl, hp1, ⟨v2, rfl, hr2, hm2⟩, hk2, hkV⟩; obtain ⟨A3, k3, rfl⟩ := hr2.shape; have b8 := hkV.heap hub (by simp; omega); have c8 := blk_cell b8; have f8 := blk_free b8; have l8 := blk_lt b8))
      all_goals
        have hK : Kp [bx] V1 (((((V1.setCell ⟨bx, 0, none⟩ (.int .i64 st'.words)).setCell ⟨bx, 1, none⟩ (.int .i64 st'.refresh)).setCell ⟨bx, 2, none⟩ (.bool st'.has)).setCell ⟨bx, 3, none⟩ (.slice A3 st'.m.length k3)).setCell ⟨bx, 4, none⟩ (.int .i64 st'.stamp)) := (Kp.refl _ _).set5 (by simp) _ _ _ _ _
        have hty : ∀ x ∈ [bx], V1.heap.size ≤ x ∨ ∃ cs t fr, V1.heap[x]? = some (.cells cs t fr) ∧ t ≠ 37 := by
          intro x hx; simp only [List.mem_singleton] at hx; subst hx; exact .inr ⟨_, _, _, b8, by decide⟩
        go_wp2
        go_roundw
        case rel => exact ⟨k + 1, st', by omega, by omega, by go_num, hp1.keep hK (by simp; omega) hty, ⟨_, blk_set5 b8 _ _ _ _ _, hr2.off hK hty, hm2⟩, hok', (hkr.trans hk2).trans (hK.mono (by simp))⟩
        case measure => simp [intOf]; omega
    · have HT : Hid (∀ (V : World), Kp [] wr V → PortAt V g st ∧ Kp [] W V) := Lib.hid fun V hV => ⟨hpr.keep hV (by simp) (by simp), hkr'.trans hV⟩
      have hgr := hpr.lt
      obtain ⟨u, hub, hur, hum⟩ := hbr
      obtain ⟨A1, k1, rfl⟩ := hur.shape
      have lxr := blk_lt hub
      go_wp2_with fail
      all_goals
        refine (pclone_calls _ g st hpr).mono ?_
        rintro e w3 ⟨gc, rfl, hpc, hgc, hk3⟩
        have hgcl := hpc.lt
        have hp3 := (HT.out _ hk3).1
        have hkW3 := (HT.out _ hk3).2
        have hub3 := hk3.heap hub (by simp)
        have hur3 := hur.keep hk3 (by simp)
        have cb3 := blk_cell hub3
        have hgg : (gc == g) = false := by simp; omega
        go_wp2_with fail
        rw [eq_ptr gc g w3 (by omega) hpc hp3]
        go_wp2_with fail
        refine (same_calls w3 gc g st st hpc hp3).mono ?_
        rintro e w4 ⟨he, m4, rfl⟩
        rw [sameB_refl] at he
        subst he
        go_wp2_with fail
        refine (same_calls _ g gc st st (hp3.keep ((Kp.refl [] _).drewN _) (by simp) (by simp)) (hpc.keep ((Kp.refl [] _).drewN _) (by simp) (by simp))).mono ?_
        rintro e w5 ⟨he, m5, rfl⟩
        rw [sameB_refl] at he
        subst he
        go_wp2_with fail
        refine (same_some_nil _ g).mono ?_
        rintro e w6 ⟨rfl, h6⟩
        have hk36 : Kp [] w3 w6 := by rw [← h6]; exact (Kp.refl [] w3).drewN _
        clear h6
        have hp6 := hp3.keep hk36 (by simp) (by simp)
        have hpc6 := hpc.keep hk36 (by simp) (by simp)
        have hub6 := hk36.heap hub3 (by simp)
        have hur6 := hur3.keep hk36 (by simp)
        have hkW6 := hkW3.trans hk36
        have cb6 := blk_cell hub6
        have lx6 := blk_lt hub6
        have hgcl6 := hpc6.lt
        have hWgc : W.heap.size ≤ gc := Nat.le_trans hkr'.size hgc
        clear hub hur cb3 hub3 hur3 hp3 hpc HT hpr hkr hkr' hkW hkW3 hk3 hk36 hp hbx hs hpl hel hgg
        clear hlt
        go_wp2
        have hbc6 : BoxAt (w6.alloc (.cells #[.int .i64 st.words, .int .i64 st.refresh, .bool st.has, .slice A1 st.m.length k1, .int .i64 st.stamp] 26)) w6.heap.size st := ⟨_, blk_new _ _, hur6.alloc _, hum⟩
        have hbx6 : BoxAt (w6.alloc (.cells #[.int .i64 st.words, .int .i64 st.refresh, .bool st.has, .slice A1 st.m.length k1, .int .i64 st.stamp] 26)) bx st := ⟨_, ((Kp.refl [] w6).alloc _).heap hub6 (by simp), hur6.alloc _, hum⟩
        have hp7 := hp6.keep ((Kp.refl [] w6).alloc (.cells #[.int .i64 st.words, .int .i64 st.refresh, .bool st.has, .slice A1 st.m.length k1, .int .i64 st.stamp] 26)) (by simp) (by simp)
        have hpc7 := hpc6.keep ((Kp.refl [] w6).alloc (.cells #[.int .i64 st.words, .int .i64 st.refresh, .bool st.has, .slice A1 st.m.length k1, .int .i64 st.stamp] 26)) (by simp) (by simp)
        have hkW7 := hkW6.alloc (.cells #[.int .i64 st.words, .int .i64 st.refresh, .bool st.has, .slice A1 st.m.length k1, .int .i64 st.stamp] 26)
        have hne1 : g ≠ w6.heap.size := by have := hp6.lt; omega
        have hne2 : gc ≠ w6.heap.size := by omega
        have hne3 : bx ≠ w6.heap.size := by omega
        have hne4 : g ≠ gc := by omega
        have hne5 : bx ≠ gc := by omega
        have hWb : W.heap.size ≤ w6.heap.size := hkW6.size
        clear hp6 hpc6 hub6 hur6 hkW6 hgcl6 lx6 cb6
        generalize hw7 : w6.alloc (.cells #[.int .i64 st.words, .int .i64 st.refresh, .bool st.has, .slice A1 st.m.length k1, .int .i64 st.stamp] 26) = w7 at *
        clear hw7
        generalize w6.heap.size = bc at *
        have hty7 : ∀ x ∈ [gc, bc], w7.heap.size ≤ x ∨ ∃ cs t fr, w7.heap[x]? = some (.cells cs t fr) ∧ t ≠ 37 := by
          intro x hx; simp only [List.mem_cons, List.not_mem_nil, or_false] at hx; rcases hx with rfl | rfl; exact hpc7.ty; exact hbc6.ty
        have HX : Hid (∀ V, Kp [gc, bc] w7 V → PortAt V g st ∧ BoxAt V bx st) := Lib.hid fun V hV => ⟨hp7.keep hV (by simp; omega) hty7, hbx6.keep hV (by simp; omega) hty7⟩
        clear hp7 hbx6 hty7
        go_loopw [12] (fun l12 wr => ∃ (k : Nat) (sz : PS), k ≤ n2 ∧ k ≤ 50 ∧ l12 = .int .i64 k ∧ PortAt wr gc sz ∧ BoxAt wr bc sz ∧ PSok sz ∧ Kp [gc, bc] w7 wr) (fun l12 _ => 50 - (intOf l12).toNat)
        case atStart => exact ⟨0, _, Nat.zero_le _, Nat.zero_le _, rfl, hpc7, hbc6, hokr, Kp.refl _ _⟩
        case round =>
          obtain ⟨k, sz, hk1, hk100, rfl, hpr, hbr, hokz, hkr⟩ := hrel
          have hokr0 := hokr
          have hokr := hokz
          have hkr' : Kp [] W wr := hkW7.next hkr (by simp; omega)
          clear hpc7 hbc6
          by_cases hlt : k < n2 ∧ k < 50
          · obtain ⟨hlt1, hlt2⟩ := hlt
            obtain ⟨b, off, rfl, hcell⟩ := hpl2 k hlt1
            obtain ⟨n', hm'⟩ := hel2 k hlt1
            clear hel2 hpl2
            have hbr0 := hbr
            obtain ⟨u, hvb, hvr, hvm⟩ := hbr
            obtain ⟨B1, j1, rfl⟩ := hvr.shape
            obtain ⟨A2, k2, hM⟩ := hm'.shape
            rw [hM] at hm' hcell
            have hx0 : wr.cell? ⟨b, off + k * 3, none⟩ = some (.int .i64 (O2 k).kind) := hkr'.cell (hcell 0 _ rfl) (by simp)
            have hx1 := hkr'.cell (hcell 1 _ rfl) (by simp)
            have hx2 := hkr'.cell (hcell 2 _ rfl) (by simp)
            have hbW : b < W.heap.size := World.block_lt_of_cell? W _ (hcell 0 _ rfl)
            have cb := blk_cell hvb
            have HC := Lib.hid hcell
            have HM := Lib.hid hM
            clear hcell hM
            have hgr := hpr.lt
            have lxr := blk_lt hvb
            have HS : Hid (∀ V, Kp [gc, bc] wr V → Kp [gc, bc] wr V ∧ V.cell? ⟨b, off + k * 3, none⟩ = some (.int .i64 (O2 k).kind) ∧ V.cell? ⟨b, off + k * 3 + 1, none⟩ = some (.int .i64 (O2 k).now) ∧ V.cell? ⟨b, off + k * 3 + 2, none⟩ = some (.slice A2 n' k2)) :=
              Lib.hid fun V hV => ⟨hV, hV.cell hx0 (by simp; omega), hV.cell hx1 (by simp; omega), hV.cell hx2 (by simp; omega)⟩
            have HD : Hid (∀ V, Kp [] wr V → Calls Try.prog 15 #[.pointer (some ⟨gc, 0, none⟩), .agg #[.int .i64 sz.words, .int .i64 sz.refresh, .bool sz.has, .slice B1 sz.m.length j1, .int .i64 sz.stamp], .agg #[.int .i64 (O2 k).kind, .int .i64 (O2 k).now, .slice A2 n' k2]] V fun e w' => ∃ av, e = .returned (.tuple #[av, .bool true]) ∧ PortAt w' gc (opS sz (O2 k)) ∧ RefAt w' av (opS sz (O2 k)) ∧ Kp [gc, bc] wr w' ∧ Kp [gc] wr w') := by
              refine Lib.hid fun V hV => (do_calls V gc _ sz (O2 k) _ n' (hpr.keep hV (by simp) (by simp)) ⟨_, rfl, hvr.keep hV (by simp), hvm⟩ hokr (hm'.keep (hkr'.trans hV) (by simp))).mono ?_
              rintro e w' ⟨av, he, h1, h2, h3⟩
              exact ⟨av, he, h1, h2, ((hV.nil_to).trans h3).mono (by simp), (hV.nil_to).trans h3⟩
            have hok' := opS_ok sz (O2 k) hokr
            have hw' := opS_words sz (O2 k)
            generalize hsz' : opS sz (O2 k) = sz' at *
            have Hsz' := Lib.hid hsz'
            have Hw' := Lib.hid hw'
            clear hsz' hw'
            have hm0 : bc ∈ [gc, bc] := by simp
            go_wp2
            go_region_with (first | (go_at_call 15; refine (HD.out _ ?_).mono ?_; (repeat (with_reducible first | apply Kp.refl | apply Kp.drew)); rintro e V1 ⟨av1, rfl, hp1, ⟨v2, rfl, hr2, hm2⟩, hk2, hkV⟩; obtain ⟨A3, k3, rfl⟩ := hr2.shape; have b8 := hkV.heap hvb (by simp; omega); have c8 := blk_cell b8; have f8 := blk_free b8; have l8 := blk_lt b8))
            all_goals
              have hK : Kp [bc] V1 (((((V1.setCell ⟨bc, 0, none⟩ (.int .i64 sz'.words)).setCell ⟨bc, 1, none⟩ (.int .i64 sz'.refresh)).setCell ⟨bc, 2, none⟩ (.bool sz'.has)).setCell ⟨bc, 3, none⟩ (.slice A3 sz'.m.length k3)).setCell ⟨bc, 4, none⟩ (.int .i64 sz'.stamp)) := (Kp.refl _ _).set5 (by simp) _ _ _ _ _
              have hty : ∀ x ∈ [bc], V1.heap.size ≤ x ∨ ∃ cs t fr, V1.heap[x]? = some (.cells cs t fr) ∧ t ≠ 37 := by
                intro x hx; simp only [List.mem_singleton] at hx; subst hx; exact .inr ⟨_, _, _, b8, by decide⟩
              generalize hwy : (((((V1.setCell ⟨bc, 0, none⟩ (.int .i64 sz'.words)).setCell ⟨bc, 1, none⟩ (.int .i64 sz'.refresh)).setCell ⟨bc, 2, none⟩ (.bool sz'.has)).setCell ⟨bc, 3, none⟩ (.slice A3 sz'.m.length k3)).setCell ⟨bc, 4, none⟩ (.int .i64 sz'.stamp)) = wy at *
              have hpz : PortAt wy gc sz' := hp1.keep hK (by simp; omega) hty
              have hbz : BoxAt wy bc sz' := by subst hwy; exact ⟨_, blk_set5 b8 _ _ _ _ _, hr2.off hK hty, hm2⟩
              have hkz : Kp [gc, bc] w7 wy := (hkr.trans hk2).trans (hK.mono (by simp))
              have hgz := (HX.out _ hkz).1
              have hxz := (HX.out _ hkz).2
              clear hK hty hwy hr2 hm2 b8 c8 f8 l8 hk2 hkV hp1 hpr hbr0 hvb hvr HC HM HS HD cb hm' hkr'
              obtain ⟨vx, hx8, hxr, hxm⟩ := hxz
              obtain ⟨A8, k8, rfl⟩ := hxr.shape
              obtain ⟨vz, hz8, hzr, hzm⟩ := hbz
              obtain ⟨A9, k9, rfl⟩ := hzr.shape
              have cx := blk_cell hx8
              have cz := blk_cell hz8
              have H1 : Hid (∀ V, Kp [] wy V → Calls Try.prog 16 #[.pointer (some ⟨g, 0, none⟩), .agg #[.int .i64 st.words, .int .i64 st.refresh, .bool st.has, .slice A8 st.m.length k8, .int .i64 st.stamp]] V fun e w' => e = .returned (.bool true) ∧ Kp [] wy w') :=
                Lib.hid fun V hV => (stamped_calls V g _ st (hgz.keep hV (by simp) (by simp)) ⟨_, rfl, hxr.keep hV (by simp), hxm⟩ hokr0).mono fun e w' h => ⟨h.1, hV.trans h.2⟩
              have H2 : Hid (∀ V, Kp [] wy V → Calls Try.prog 16 #[.pointer (some ⟨gc, 0, none⟩), .agg #[.int .i64 sz'.words, .int .i64 sz'.refresh, .bool sz'.has, .slice A9 sz'.m.length k9, .int .i64 sz'.stamp]] V fun e w' => e = .returned (.bool true) ∧ Kp [] wy w') :=
                Lib.hid fun V hV => (stamped_calls V gc _ sz' (hpz.keep hV (by simp) (by simp)) ⟨_, rfl, hzr.keep hV (by simp), hzm⟩ hok').mono fun e w' h => ⟨h.1, hV.trans h.2⟩
              have H3 : Hid (∀ V, Kp [] wy V → Calls Try.prog 19 #[.pointer (some ⟨g, 0, none⟩), .pointer (some ⟨gc, 0, none⟩)] V fun e w' => e = .returned (.bool (sameB st sz')) ∧ Kp [] wy w') :=
                Lib.hid fun V hV => (same_calls V g gc st sz' (hgz.keep hV (by simp) (by simp)) (hpz.keep hV (by simp) (by simp))).mono fun e w' h => ⟨h.1, by obtain ⟨m, rfl⟩ := h.2; exact hV.drewN _⟩
              have H4 : Hid (∀ V, Kp [] wy V → Calls Try.prog 24 #[.agg #[.int .i64 st.words, .int .i64 st.refresh, .bool st.has, .slice A8 st.m.length k8, .int .i64 st.stamp], .agg #[.int .i64 sz'.words, .int .i64 sz'.refresh, .bool sz'.has, .slice A9 sz'.m.length k9, .int .i64 sz'.stamp]] V fun e w' => e = .returned (.bool (sameB st sz')) ∧ Kp [] wy w') :=
                Lib.hid fun V hV => (rsame_calls V _ _ st sz' ⟨_, rfl, hxr.keep hV (by simp), hxm⟩ ⟨_, rfl, hzr.keep hV (by simp), hzm⟩).mono fun e w' h => ⟨h.1, hV.trans h.2⟩
              have HS : Hid (∀ V, Kp [] wy V → Kp [] wy V ∧ (∀ i, V.cell? ⟨bx, i, none⟩ = #[.int .i64 st.words, .int .i64 st.refresh, .bool st.has, .slice A8 st.m.length k8, .int .i64 st.stamp][i]?) ∧ (∀ i, V.cell? ⟨bc, i, none⟩ = #[.int .i64 sz'.words, .int .i64 sz'.refresh, .bool sz'.has, .slice A9 sz'.m.length k9, .int .i64 sz'.stamp][i]?)) :=
                Lib.hid fun V hV => ⟨hV, blk_cell (hV.heap hx8 (by simp)), blk_cell (hV.heap hz8 (by simp))⟩
              have HZ : Hid (∀ V, Kp [] wy V → PortAt V gc sz' ∧ BoxAt V bc sz' ∧ Kp [gc, bc] w7 V) :=
                Lib.hid fun V hV => ⟨hpz.keep hV (by simp) (by simp), ⟨_, hV.heap hz8 (by simp), hzr.keep hV (by simp), hzm⟩, hkz.trans (hV.mono (by simp))⟩
              generalize hq : sameB st sz' = q at *
              clear hq hgz hpz hxr hzr hx8 hz8 cx cz
              go_wp2
              go_region_held3 (fun V => Kp [] wy V ∧ (∀ i, V.cell? ⟨bx, i, none⟩ = #[.int .i64 st.words, .int .i64 st.refresh, .bool st.has, .slice A8 st.m.length k8, .int .i64 st.stamp][i]?) ∧ (∀ i, V.cell? ⟨bc, i, none⟩ = #[.int .i64 sz'.words, .int .i64 sz'.refresh, .bool sz'.has, .slice A9 sz'.m.length k9, .int .i64 sz'.stamp][i]?)) ((refine HS.out _ ?_; repeat (with_reducible first | assumption | apply Kp.refl | apply Kp.drew))) (first | (go_at_call 16; with_reducible refine (H1.out _ ?_).mono ?_; exact (‹Kp [] wy _ ∧ _›).1; rintro e V1 ⟨rfl, hkV⟩) | (go_at_call 16; with_reducible refine (H2.out _ ?_).mono ?_; exact (‹Kp [] wy _ ∧ _›).1; rintro e V1 ⟨rfl, hkV⟩) | (go_at_call 19; with_reducible refine (H3.out _ ?_).mono ?_; exact (‹Kp [] wy _ ∧ _›).1; rintro e V1 ⟨rfl, hkV⟩) | (go_at_call 24; with_reducible refine (H4.out _ ?_).mono ?_; exact (‹Kp [] wy _ ∧ _›).1; rintro e V1 ⟨rfl, hkV⟩))
              all_goals
                try go_wp2
                go_roundw
                case rel => refine ⟨k + 1, sz', by omega, by omega, by go_num, (HZ.out _ ?_).1, (HZ.out _ ?_).2.1, hok', (HZ.out _ ?_).2.2⟩ <;> repeat (with_reducible first | assumption | apply Kp.drew | apply Kp.drewN)
                case measure => simp [intOf]; omega
          · go_wp2_with fail
            all_goals
              go_ret
              exact ⟨rfl, hkr'⟩
theorem clones_law (v0 v1 v2 : Value) (W : World) (h0 : InTwo .i64 v0) (h1 : InOps W v1) (h2 : InOps W v2) : Calls Try.prog 8 #[v0, v1, v2] W fun e w' => e = .returned (.bool true) ∧ Kp [] W w' := by
  obtain ⟨a, b, rfl⟩ := h0
  exact clones_calls a b v1 v2 W h1 h2
end Go.Proofs.Ytfehjkhbjbcliaa
