import Derived.Test.YtlghbnoiakeibaaD3
import Derived.Test.YtlghbnoiakeibaaR2
set_option linter.unusedVariables false
set_option linter.unusedSimpArgs false
namespace Go.Proofs.Ytlghbnoiakeibaa
open Go.RowKit
theorem info72 : (Try.prog.info? 72).map (fun i => (i.zero, i.size, i.bytes)) = some (some (.agg #[.int .i64 0, .int .i64 0, .int .i64 0]), 3, 24) := by kernel_rfl
/-- What the document's Decide tells. -/
def toldR (m : Bool) (l : List Rule) (o e : Int) : Int × Int :=
  if m then (2, if 0 ≤ byR l e 2 then byR l e 2 else 1)
  else if 0 ≤ o ∧ 0 ≤ byR l e 0 then (0, byR l e 0)
  else if 0 ≤ byR l e 1 then (1, byR l e 1)
  else if 0 ≤ o then (0, 2) else (1, 6)
theorem cells3_set (l : List I3) (k : Nat) (hk : k < l.length) (x : I3) (h : x.1 = l[k].1 ∧ x.2.1 = l[k].2.1) : (cells3 l).set (k * 3 + 2) (.int .i64 x.2.2) = cells3 (l.set k x) := by
  induction l generalizing k with
  | nil => simp at hk
  | cons a l ih =>
    cases k with
    | zero =>
      simp only [List.getElem_cons_zero] at h
      simp [cells3, h.1, h.2]
    | succ k =>
      have e : cells3 (a :: l) = [.int .i64 a.1, .int .i64 a.2.1, .int .i64 a.2.2] ++ cells3 l := by simp [cells3]
      have e2 : cells3 (a :: l.set k x) = [.int .i64 a.1, .int .i64 a.2.1, .int .i64 a.2.2] ++ cells3 (l.set k x) := by simp [cells3]
      rw [e, List.set_cons_succ, e2, ← ih k (by simpa using hk) (by simpa using h)]
      rw [List.set_append_right _ _ (by simp; omega)]
      simp [show (k + 1) * 3 + 2 - 3 = k * 3 + 2 by omega]
/-- The list behind k rounds. -/
def partR (ms : List I3) (o e : Int) (k : Nat) : List I3 := (ms.take k).map (incR o e) ++ ms.drop k
theorem partR_len (ms : List I3) (o e : Int) (k : Nat) : (partR ms o e k).length = ms.length := by simp [partR]; omega
theorem partR_at (ms : List I3) (o e : Int) (k : Nat) (hk : k < ms.length) : (partR ms o e k)[k]'(by rw [partR_len]; exact hk) = ms[k] := by
  simp only [partR]
  have hl : ((ms.take k).map (incR o e)).length = k := by simp; omega
  rw [List.getElem_append_right (by omega)]
  have h0 : ∀ i (h : i < (ms.drop k).length), i = 0 → (ms.drop k)[i] = ms[k] := by
    rintro _ h rfl
    simp
  exact h0 _ _ (by omega)
theorem partR_next (ms : List I3) (o e : Int) (k : Nat) (hk : k < ms.length) : partR ms o e (k + 1) = (partR ms o e k).set k (incR o e ms[k]) := by
  simp only [partR]
  have hl : ((ms.take k).map (incR o e)).length = k := by simp; omega
  rw [List.take_succ_eq_append_getElem hk, List.map_append, List.set_append_right _ _ (by omega), hl, Nat.sub_self, List.drop_eq_getElem_cons hk, List.set_cons_zero]
  simp
theorem partR_same (ms : List I3) (o e : Int) (k : Nat) (hk : k < ms.length) (h : hitR o e ms[k] = false) : partR ms o e (k + 1) = partR ms o e k := by
  rw [partR_next ms o e k hk, show incR o e ms[k] = ms[k] by simp [incR, h]]
  have := partR_at ms o e k hk
  conv => lhs; rw [← this]
  simp
theorem partR_all (ms : List I3) (o e : Int) : partR ms o e ms.length = ms.map (incR o e) := by simp [partR]
theorem any_next (ms : List I3) (o e : Int) (k : Nat) (hk : k < ms.length) : (ms.take (k + 1)).any (hitR o e) = ((ms.take k).any (hitR o e) || hitR o e ms[k]) := by
  rw [List.take_succ_eq_append_getElem hk, List.any_append]; simp
theorem map_none (ms : List I3) (o e : Int) (h : ms.any (hitR o e) = false) : ms.map (incR o e) = ms := by
  have h2 := List.any_eq_false.1 h
  conv => rhs; rw [← List.map_id ms]
  exact List.map_congr_left fun r hr => by simp [incR, h2 r hr]
def RefDecided (w : World) (vR vL : Value) (m : Bool) (l : List Rule) (ms : List I3) (p e : Int) (x : Ending) (w' : World) : Prop :=
  ∃ vL' ms', ms' = (if knownB e then bumpR ms (ofP m p) e else ms) ∧ x = .returned (.tuple #[.agg #[vR, .bool m, vL'], .int .i64 (if knownB e then (toldR m l (ofP m p) e).1 else 0), .int .i64 (if knownB e then (toldR m l (ofP m p) e).2 else 0)]) ∧
    Row w' 72 3 vL' ms'.length (cells3 ms') ∧ Kp [] w w'
set_option maxRecDepth 100000 in
set_option maxHeartbeats 16000000 in
theorem rdecide_calls (w : World) (vR vL : Value) (l : List Rule) (ms : List I3) (m : Bool) (hl : Sees w 3 vR l.length (cells3 l)) (hs : Row w 72 3 vL ms.length (cells3 ms)) (hms : ms.length ≤ 1000) (hb : ∀ r ∈ ms, 0 ≤ r.2.2 ∧ r.2.2 ≤ 1000) (p e : Int) :
    Calls Try.prog 14 #[.agg #[vR, .bool m, vL], .int .i64 p, .int .i64 e] w (RefDecided w vR vL m l ms p e) := by
  obtain ⟨A, c, rfl⟩ := hs.shape
  obtain ⟨AR, cR, rfl⟩ := hl.shape
  have hn := hs.len
  unfold maxLen at hn
  obtain ⟨W1, hW1, hk1, h3, h6, hz1⟩ := new2 w (.cells #[.slice AR l.length cR, .bool m, .slice A ms.length c] 49) (.cells #[.slice none 0 0, .bool false, .slice none 0 0] 49)
  have HW1 := Lib.hid hW1
  have HK1 := Lib.hid hk1
  have HS := Lib.hid hs
  have HL := Lib.hid hl
  by_cases hkn : knownB e = false
  · have HKN := Lib.hid hkn
    have he : e < 1 ∨ 27 < e := by simp [knownB] at hkn; omega
    clear hkn hW1 hs hl
    rcases he with he | he
    all_goals
      try have he1 : ¬ e < 1 := by omega
      go_enter Try.func14, Try.ntmps14
      go_wp2
      have cF := blk_cell (blk_new' (w.alloc (.cells #[.slice AR l.length cR, .bool m, .slice A ms.length c] 49)) (.cells #[.slice AR l.length cR, .bool m, .slice A ms.length c] 49) (g := w.heap.size + 1) (by simp))
      have hks : Kp [] w ((w.alloc (.cells #[.slice AR l.length cR, .bool m, .slice A ms.length c] 49)).alloc (.cells #[.slice AR l.length cR, .bool m, .slice A ms.length c] 49)) := ((Kp.refl [] w).alloc _).alloc _
      refine bodyPost_ret (v := .tuple #[.agg #[.slice AR l.length cR, .bool m, .slice A ms.length c], .int .i64 0, .int .i64 0]) ?_ rfl ⟨.slice A ms.length c, ms, by simp [HKN.out], by simp [HKN.out], HS.out.keep hks (by simp), hks⟩
      simp [results, Try.results14, go_sem, cF]
  · have hkn : knownB e = true := by simpa using hkn
    have HKN := Lib.hid hkn
    have he : 1 ≤ e ∧ e ≤ 27 := by simpa [knownB] using hkn
    obtain ⟨he1, he2⟩ := he
    obtain ⟨-, c3, f3, l3⟩ := (Kp.refl [] W1).look h3 (by simp)
    clear hkn hs hl
    go_enter Try.func14, Try.ntmps14
    go_wp2_with fail
    rw [← hW1]
    clear hW1
    refine (who_calls W1 _ _ m p).mono ?_
    rintro x w2 ⟨rfl, hk2⟩
    generalize ho : ofP m p = o at *
    have HO := Lib.hid ho
    clear ho
    have hk12 := HK1.out.trans hk2
    have hrow0 : Row (w2.alloc (.cells #[] 72)) 72 3 (.slice (some ⟨w2.heap.size, 0, none⟩) 0 0) 0 [] := Row.made' #[] 0 rfl rfl (by decide)
    have hsrc := (HS.out.keep (hk12.alloc (.cells #[] 72)) (by simp)).sees
    obtain ⟨-, c32, f32, l32⟩ := hk2.look h3 (by simp)
    have HB := Lib.hid hb
    clear hb
    go_wp2_with (at_builtin; refine wpl_app (v := .slice (some ⟨w2.heap.size, 0, none⟩) 0 0) (n := 0) (xs := []) (xv := .slice A ms.length c) (m := ms.length) (news := cells3 ms) rfl rfl Try.underlying47 info72 rfl (by decide) rfl rfl hrow0 hsrc (cells3_one _) (by omega) (by unfold maxLen; omega) ?_)
    intro v1 w3 hr1 hk3 hf1
    obtain ⟨A1, c1, rfl⟩ := hr1.shape
    have hnew : ∀ b ∈ (Value.slice A1 ms.length c1).ownBlock, w2.heap.size ≤ b := fun b hb => by
      rcases hf1 b hb with h | h
      · simp [Value.ownBlock] at h; omega
      · first | (simp at h; omega) | omega
    have hk3' : Kp [] w w3 := (hk12.alloc (.cells #[] 72)).next hk3 (by have := hk12.size; simp [Value.ownBlock]; omega)
    have h33 := (((Kp.refl [] w2).alloc (.cells #[] 72)).next hk3 (by simp [Value.ownBlock])).heap (hk2.heap h3 (by simp)) (by simp)
    have h36 := (((Kp.refl [] w2).alloc (.cells #[] 72)).next hk3 (by simp [Value.ownBlock])).heap (hk2.heap h6 (by simp)) (by simp)
    have hz2 := hk2.size
    have hz3 := hk3.size
    try simp only [Nat.zero_add, List.nil_append] at hr1
    clear hrow0 hsrc hk3 hf1 c32 f32 l32 c3 f3 l3
    go_wp2_with fail
    try simp only [Nat.zero_add]
    go_loopw [12, 11] (fun i u wr => ∃ (k : Nat) (fd : Bool), k ≤ ms.length ∧ i = .int .i64 k ∧ u = .bool fd ∧ Hid (fd = (ms.take k).any (hitR o e)) ∧ Row wr 72 3 (.slice A1 ms.length c1) ms.length (cells3 (partR ms o e k)) ∧ Kp (Value.slice A1 ms.length c1).ownBlock.toList w3 wr) (fun i _ _ => ms.length - (intOf i).toNat)
    case atStart => exact ⟨0, false, Nat.zero_le _, rfl, rfl, Lib.hid rfl, hr1.ext rfl (by simp [partR]), Kp.refl _ _⟩
    case round =>
      obtain ⟨k, fd, hk, rfl, rfl, hfd, hrow, hkr⟩ := hrel
      by_cases hlt : k < ms.length
      · have hpl := partR_len ms o e k
        have hrs := hrow.sees
        rw [← hpl] at hrs
        obtain ⟨g, o', rfl, hcell⟩ := rule_at hrs k (by omega)
        rw [hpl] at hrs
        obtain ⟨cA, cB, cC⟩ := hcell k (by omega)
        rw [partR_at ms o e k hlt] at cA cB cC
        have HNS := Lib.hid (partR_same ms o e k hlt)
        have HNN := Lib.hid (partR_next ms o e k hlt)
        have HAN := Lib.hid (any_next ms o e k hlt)
        have hbd := HB.out _ (List.getElem_mem hlt)
        have HCS := Lib.hid (cells3_set (partR ms o e k) k (by omega) (incR o e ms[k]) (by rw [partR_at ms o e k hlt]; exact incR_key o e _))
        have hfr := hrow.free
        have HROW := Lib.hid hrow
        have HST := Lib.hid (hrow.set (k * 3 + 2) (by omega))
        clear hcell hrs hpl hrow
        generalize ms[k] = x at *
        obtain ⟨x1, x2, x3⟩ := x
        simp only at cA cB cC hbd
        obtain ⟨hbd1, hbd2⟩ := hbd
        by_cases h1 : x1 = o
        · by_cases h2 : x2 = e
          · have hh : hitR o e (x1, x2, x3) = true := (hit_iff _ _ _).2 ⟨h1, h2⟩
            have HH := Lib.hid hh
            subst h1 h2
            clear hh
            go_wp2
            go_roundw
            case rel =>
              refine ⟨k + 1, true, by omega, by go_num, rfl, Lib.hid ?_, ?_, ?_⟩
              · rw [HAN.out, HH.out]; simp
              · have hrr := HST.out (.int .i64 (x3 + 1))
                rw [← Nat.add_assoc] at hrr
                refine hrr.ext rfl ?_
                have hi : incR x1 x2 (x1, x2, x3) = (x1, x2, x3 + 1) := by simp [incR, HH.out]
                rw [HNN.out, ← HCS.out, hi]
              · exact hkr.setCell (.inl (by simp [Value.ownBlock])) _
            case measure => simp [intOf]; omega
          · have h2' : (x2 == e) = false := by simpa using h2
            have HH : Hid (hitR o e (x1, x2, x3) = false) := Lib.hid (by cases h : hitR o e (x1, x2, x3) with | false => rfl | true => exact absurd ((hit_iff _ _ _).1 h).2 h2)
            subst h1
            clear h2
            go_wp2
            go_roundw
            case rel =>
              exact ⟨k + 1, fd, by omega, by go_num, rfl, Lib.hid (by rw [HAN.out, HH.out, hfd.out]; simp), by rw [HNS.out HH.out]; exact HROW.out, hkr⟩
            case measure => simp [intOf]; omega
        · have h1' : (x1 == o) = false := by simpa using h1
          have HH : Hid (hitR o e (x1, x2, x3) = false) := Lib.hid (by cases h : hitR o e (x1, x2, x3) with | false => rfl | true => exact absurd ((hit_iff _ _ _).1 h).1 h1)
          clear h1
          go_wp2
          go_roundw
          case rel =>
            exact ⟨k + 1, fd, by omega, by go_num, rfl, Lib.hid (by rw [HAN.out, HH.out, hfd.out]; simp), by rw [HNS.out HH.out]; exact HROW.out, hkr⟩
          case measure => simp [intOf]; omega
      · obtain rfl : k = ms.length := by omega
        rw [partR_all] at hrow
        rw [List.take_length] at hfd
        have hkw : Kp [] w wr := hk3'.next hkr (by intro b hb; have := hnew b (by simpa using hb); have := hk12.size; omega)
        have h3r := hkr.heap h33 (by intro hb; have := hnew _ (by simpa using hb); have := hk2.size; omega)
        have h6r := hkr.heap h36 (by intro hb; have := hnew _ (by simpa using hb); have := hk2.size; omega)
        obtain ⟨-, c3r, f3r, l3r⟩ := (Kp.refl [] wr).look h3r (by simp)
        have hnb : w.heap.size ∉ (Value.slice A1 ms.length c1).ownBlock ∧ w.heap.size + 1 ∉ (Value.slice A1 ms.length c1).ownBlock := ⟨fun hb => by have := hnew _ hb; omega, fun hb => by have := hnew _ hb; omega⟩
        cases fd
        · have HBU : Hid (bumpR ms o e = ms ++ [(o, e, 1)]) := Lib.hid (by simp only [bumpR, ← hfd.out, Bool.false_eq_true, if_false])
          rw [map_none ms o e hfd.out.symm] at hrow
          have hrowA := hrow.alloc (.cells #[.int .i64 o, .int .i64 e, .int .i64 1] 72)
          go_wp2_with (at_builtin; refine wpl_app (v := .slice A1 ms.length c1) (n := ms.length) (xs := cells3 ms) (xv := .slice (some ⟨wr.heap.size, 0, none⟩) 1 1) (m := 1) (news := [.int .i64 o, .int .i64 e, .int .i64 1]) rfl rfl Try.underlying47 info72 rfl (by decide) rfl rfl hrowA ((Row.made' #[.int .i64 o, .int .i64 e, .int .i64 1] 1 rfl rfl (by decide)).sees) (by simp [Value.oneCell']) (by omega) (by unfold maxLen; omega) ?_)
          intro v2 w4 hr2 hk4 hf2
          obtain ⟨A2, c2, rfl⟩ := hr2.shape
          have hk4' := (((Kp.refl [] wr).alloc (.cells #[.int .i64 o, .int .i64 e, .int .i64 1] 72)).nil_to (S := (Value.slice A1 ms.length c1).ownBlock.toList)).trans hk4
          have hkw4 : Kp [] w w4 := hkw.next hk4' (by intro b hb; have := hnew b (by simpa using hb); have := hk12.size; omega)
          have h3r := hk4'.heap h3r (by intro hb; exact hnb.1 (by simpa using hb))
          have h6r := hk4'.heap h6r (by intro hb; exact hnb.2 (by simpa using hb))
          obtain ⟨-, c3r, f3r, l3r⟩ := (Kp.refl [] w4).look h3r (by simp)
          have hnb : w.heap.size ∉ (Value.slice A2 (ms.length + 1) c2).ownBlock ∧ w.heap.size + 1 ∉ (Value.slice A2 (ms.length + 1) c2).ownBlock := by
            have hzr := hkr.size
            constructor
            · intro hb
              rcases hf2 _ hb with h | h
              · exact hnb.1 h
              · first | (simp at h; omega) | omega
            · intro hb
              rcases hf2 _ hb with h | h
              · exact hnb.2 h
              · first | (simp at h; omega) | omega
          have hks := (Kp.refl [w.heap.size] w4).setCell (p := ⟨w.heap.size, 2, none⟩) (.inl (by simp)) (.slice A2 (ms.length + 1) c2)
          obtain ⟨V1, hV1⟩ : ∃ V1, V1 = w4.setCell ⟨w.heap.size, 2, none⟩ (.slice A2 (ms.length + 1) c2) := ⟨_, rfl⟩
          have HV1 := Lib.hid hV1
          rw [← hV1] at hks
          have HKV := Lib.hid (hkw4.next hks (by simp))
          have h3V : V1.heap[w.heap.size]? = some (.cells #[.slice AR l.length cR, .bool m, .slice A2 (ms.length + 1) c2] 49) := by rw [hV1]; simpa using blk_set h3r 2 (.slice A2 (ms.length + 1) c2)
          have h6V := hks.heap h6r (by simp)
          have HROWV : Hid (Row V1 72 3 (.slice A2 (ms.length + 1) c2) (ms ++ [(o, e, 1)]).length (cells3 (ms ++ [(o, e, 1)]))) := Lib.hid ((hr2.keep hks (fun b hb h => hnb.1 (by simp at h; rw [← h]; exact hb))).ext (by simp) (by simp [cells3]))
          have HNB : Hid (∀ b ∈ (Value.slice A2 (ms.length + 1) c2).ownBlock, b ∉ [w.heap.size + 1]) := Lib.hid (fun b hb h => hnb.2 (by simp at h; rw [← h]; exact hb))
          clear hV1 hks hrow hrowA hr2 hk4 hf2 hk4' hkw4 hnb hnew hkw hkr h3r h6r hr1 h33 h36
          obtain ⟨-, c3V, f3V, l3V⟩ := (Kp.refl [] V1).look h3V (by simp)
          obtain ⟨-, c6V, f6V, l6V⟩ := (Kp.refl [] V1).look h6V (by simp)
          have HBY : Hid (∀ V, Kp [] V1 V → ∀ v, Calls Try.prog 26 #[.agg #[.slice AR l.length cR, .bool m, .slice A2 (ms.length + 1) c2], .int .i64 e, .int .i64 v] V fun x w' => x = .returned (.int .i64 (byR l e v)) ∧ Kp [] V1 w') :=
            Lib.hid fun V hV v => (by_calls V _ _ l m (HL.out.keep (HKV.out.trans hV) (by simp)) e v).mono fun x w' ⟨a1, a2⟩ => ⟨a1, hV.trans a2⟩
          cases m
          · by_cases hoo : 0 ≤ o
            · go_wp2_with fail
              rw [← HV1.out]
              refine (HBY.out _ (Kp.refl _ _) 0).mono ?_
              rintro x5 w5 ⟨rfl, hk5⟩
              obtain ⟨-, c35, f35, l35⟩ := hk5.look h3V (by simp)
              obtain ⟨-, c65, f65, l65⟩ := hk5.look h6V (by simp)
              by_cases hb0 : 0 ≤ byR l e 0
              · have hb0' : Hid (0 ≤ byR l e 0) := Lib.hid hb0
                have h6f := hk5.heap h6V (by simp)
                have cF := blk_cell (blk_set (blk_set (blk_set h6f 0 (.slice AR l.length cR)) 1 (.bool false)) 2 (.slice A2 (ms.length + 1) c2))
                have hks := (((Kp.refl [w.heap.size + 1] w5).setCell (p := ⟨w.heap.size + 1, 0, none⟩) (.inl (by simp)) (.slice AR l.length cR)).setCell (p := ⟨w.heap.size + 1, 1, none⟩) (.inl (by simp)) (.bool false)).setCell (p := ⟨w.heap.size + 1, 2, none⟩) (.inl (by simp)) (.slice A2 (ms.length + 1) c2)
                have HKS := Lib.hid hks
                have HT : Hid (toldR false l o e = (0, byR l e 0)) := Lib.hid (by simp only [toldR, Bool.false_eq_true, if_false]; rw [if_pos (by have := hb0'.out; omega)])
                clear hks
                (go_wp2)
                (refine bodyPost_ret (v := .tuple #[.agg #[.slice AR l.length cR, .bool false, .slice A2 (ms.length + 1) c2], .int .i64 0, .int .i64 (byR l e 0)]) ?_ rfl ⟨.slice A2 (ms.length + 1) c2, _, by rw [HO.out], by simp [HKN.out, HO.out, HT.out], by (rw [HKN.out, if_pos rfl, HBU.out]; exact ((HROWV.out.keep hk5 (by simp)).keep HKS.out HNB.out)), (HKV.out.trans hk5).next HKS.out (by simp)⟩)
                (simp [results, Try.results14, go_sem, cF])
              · have hb0' : Hid (¬ 0 ≤ byR l e 0) := Lib.hid hb0
                go_wp2_with fail
                refine (HBY.out _ hk5 1).mono ?_
                rintro x6 w6 ⟨rfl, hk6⟩
                obtain ⟨-, c36, f36, l36⟩ := hk6.look h3V (by simp)
                obtain ⟨-, c66, f66, l66⟩ := hk6.look h6V (by simp)
                by_cases hb1 : 0 ≤ byR l e 1
                · have hb1' : Hid (0 ≤ byR l e 1) := Lib.hid hb1
                  have h6f := hk6.heap h6V (by simp)
                  have cF := blk_cell (blk_set (blk_set (blk_set h6f 0 (.slice AR l.length cR)) 1 (.bool false)) 2 (.slice A2 (ms.length + 1) c2))
                  have hks := (((Kp.refl [w.heap.size + 1] w6).setCell (p := ⟨w.heap.size + 1, 0, none⟩) (.inl (by simp)) (.slice AR l.length cR)).setCell (p := ⟨w.heap.size + 1, 1, none⟩) (.inl (by simp)) (.bool false)).setCell (p := ⟨w.heap.size + 1, 2, none⟩) (.inl (by simp)) (.slice A2 (ms.length + 1) c2)
                  have HKS := Lib.hid hks
                  have HT : Hid (toldR false l o e = (1, byR l e 1)) := Lib.hid (by simp only [toldR, Bool.false_eq_true, if_false]; rw [if_neg (by have := hb0'.out; omega), if_pos (by have := hb1'.out; omega)])
                  clear hks
                  (go_wp2)
                  (refine bodyPost_ret (v := .tuple #[.agg #[.slice AR l.length cR, .bool false, .slice A2 (ms.length + 1) c2], .int .i64 1, .int .i64 (byR l e 1)]) ?_ rfl ⟨.slice A2 (ms.length + 1) c2, _, by rw [HO.out], by simp [HKN.out, HO.out, HT.out], by (rw [HKN.out, if_pos rfl, HBU.out]; exact ((HROWV.out.keep hk6 (by simp)).keep HKS.out HNB.out)), (HKV.out.trans hk6).next HKS.out (by simp)⟩)
                  (simp [results, Try.results14, go_sem, cF])
                · have hb1' : Hid (¬ 0 ≤ byR l e 1) := Lib.hid hb1
                  have h6f := hk6.heap h6V (by simp)
                  have cF := blk_cell (blk_set (blk_set (blk_set h6f 0 (.slice AR l.length cR)) 1 (.bool false)) 2 (.slice A2 (ms.length + 1) c2))
                  have hks := (((Kp.refl [w.heap.size + 1] w6).setCell (p := ⟨w.heap.size + 1, 0, none⟩) (.inl (by simp)) (.slice AR l.length cR)).setCell (p := ⟨w.heap.size + 1, 1, none⟩) (.inl (by simp)) (.bool false)).setCell (p := ⟨w.heap.size + 1, 2, none⟩) (.inl (by simp)) (.slice A2 (ms.length + 1) c2)
                  have HKS := Lib.hid hks
                  have HT : Hid (toldR false l o e = (0, 2)) := Lib.hid (by simp only [toldR, Bool.false_eq_true, if_false]; rw [if_neg (by have := hb0'.out; omega), if_neg (by have := hb1'.out; omega), if_pos (by omega)])
                  clear hks
                  (go_wp2)
                  (refine bodyPost_ret (v := .tuple #[.agg #[.slice AR l.length cR, .bool false, .slice A2 (ms.length + 1) c2], .int .i64 0, .int .i64 (2)]) ?_ rfl ⟨.slice A2 (ms.length + 1) c2, _, by rw [HO.out], by simp [HKN.out, HO.out, HT.out], by (rw [HKN.out, if_pos rfl, HBU.out]; exact ((HROWV.out.keep hk6 (by simp)).keep HKS.out HNB.out)), (HKV.out.trans hk6).next HKS.out (by simp)⟩)
                  (simp [results, Try.results14, go_sem, cF])
            · go_wp2_with fail
              rw [← HV1.out]
              refine (HBY.out _ (Kp.refl _ _) 1).mono ?_
              rintro x6 w6 ⟨rfl, hk6⟩
              obtain ⟨-, c36, f36, l36⟩ := hk6.look h3V (by simp)
              obtain ⟨-, c66, f66, l66⟩ := hk6.look h6V (by simp)
              by_cases hb1 : 0 ≤ byR l e 1
              · have hb1' : Hid (0 ≤ byR l e 1) := Lib.hid hb1
                have h6f := hk6.heap h6V (by simp)
                have cF := blk_cell (blk_set (blk_set (blk_set h6f 0 (.slice AR l.length cR)) 1 (.bool false)) 2 (.slice A2 (ms.length + 1) c2))
                have hks := (((Kp.refl [w.heap.size + 1] w6).setCell (p := ⟨w.heap.size + 1, 0, none⟩) (.inl (by simp)) (.slice AR l.length cR)).setCell (p := ⟨w.heap.size + 1, 1, none⟩) (.inl (by simp)) (.bool false)).setCell (p := ⟨w.heap.size + 1, 2, none⟩) (.inl (by simp)) (.slice A2 (ms.length + 1) c2)
                have HKS := Lib.hid hks
                have HT : Hid (toldR false l o e = (1, byR l e 1)) := Lib.hid (by simp only [toldR, Bool.false_eq_true, if_false]; rw [if_neg (by omega), if_pos (by have := hb1'.out; omega)])
                clear hks
                (go_wp2)
                (refine bodyPost_ret (v := .tuple #[.agg #[.slice AR l.length cR, .bool false, .slice A2 (ms.length + 1) c2], .int .i64 1, .int .i64 (byR l e 1)]) ?_ rfl ⟨.slice A2 (ms.length + 1) c2, _, by rw [HO.out], by simp [HKN.out, HO.out, HT.out], by (rw [HKN.out, if_pos rfl, HBU.out]; exact ((HROWV.out.keep hk6 (by simp)).keep HKS.out HNB.out)), (HKV.out.trans hk6).next HKS.out (by simp)⟩)
                (simp [results, Try.results14, go_sem, cF])
              · have hb1' : Hid (¬ 0 ≤ byR l e 1) := Lib.hid hb1
                have h6f := hk6.heap h6V (by simp)
                have cF := blk_cell (blk_set (blk_set (blk_set h6f 0 (.slice AR l.length cR)) 1 (.bool false)) 2 (.slice A2 (ms.length + 1) c2))
                have hks := (((Kp.refl [w.heap.size + 1] w6).setCell (p := ⟨w.heap.size + 1, 0, none⟩) (.inl (by simp)) (.slice AR l.length cR)).setCell (p := ⟨w.heap.size + 1, 1, none⟩) (.inl (by simp)) (.bool false)).setCell (p := ⟨w.heap.size + 1, 2, none⟩) (.inl (by simp)) (.slice A2 (ms.length + 1) c2)
                have HKS := Lib.hid hks
                have HT : Hid (toldR false l o e = (1, 6)) := Lib.hid (by simp only [toldR, Bool.false_eq_true, if_false]; rw [if_neg (by omega), if_neg (by have := hb1'.out; omega), if_neg (by omega)])
                clear hks
                (go_wp2)
                (refine bodyPost_ret (v := .tuple #[.agg #[.slice AR l.length cR, .bool false, .slice A2 (ms.length + 1) c2], .int .i64 1, .int .i64 (6)]) ?_ rfl ⟨.slice A2 (ms.length + 1) c2, _, by rw [HO.out], by simp [HKN.out, HO.out, HT.out], by (rw [HKN.out, if_pos rfl, HBU.out]; exact ((HROWV.out.keep hk6 (by simp)).keep HKS.out HNB.out)), (HKV.out.trans hk6).next HKS.out (by simp)⟩)
                (simp [results, Try.results14, go_sem, cF])
          · go_wp2_with fail
            rw [← HV1.out]
            refine (HBY.out _ (Kp.refl _ _) 2).mono ?_
            rintro x5 w5 ⟨rfl, hk5⟩
            obtain ⟨-, c35, f35, l35⟩ := hk5.look h3V (by simp)
            obtain ⟨-, c65, f65, l65⟩ := hk5.look h6V (by simp)
            by_cases hb2 : 0 ≤ byR l e 2
            · have hb2' : Hid (0 ≤ byR l e 2) := Lib.hid hb2
              have h6f := hk5.heap h6V (by simp)
              have cF := blk_cell (blk_set (blk_set (blk_set h6f 0 (.slice AR l.length cR)) 1 (.bool true)) 2 (.slice A2 (ms.length + 1) c2))
              have hks := (((Kp.refl [w.heap.size + 1] w5).setCell (p := ⟨w.heap.size + 1, 0, none⟩) (.inl (by simp)) (.slice AR l.length cR)).setCell (p := ⟨w.heap.size + 1, 1, none⟩) (.inl (by simp)) (.bool true)).setCell (p := ⟨w.heap.size + 1, 2, none⟩) (.inl (by simp)) (.slice A2 (ms.length + 1) c2)
              have HKS := Lib.hid hks
              have HT : Hid (toldR true l o e = (2, byR l e 2)) := Lib.hid (by simp [toldR, hb2'.out])
              clear hks
              (go_wp2)
              (refine bodyPost_ret (v := .tuple #[.agg #[.slice AR l.length cR, .bool true, .slice A2 (ms.length + 1) c2], .int .i64 2, .int .i64 (byR l e 2)]) ?_ rfl ⟨.slice A2 (ms.length + 1) c2, _, by rw [HO.out], by simp [HKN.out, HO.out, HT.out], by (rw [HKN.out, if_pos rfl, HBU.out]; exact ((HROWV.out.keep hk5 (by simp)).keep HKS.out HNB.out)), (HKV.out.trans hk5).next HKS.out (by simp)⟩)
              (simp [results, Try.results14, go_sem, cF])
            · have hb2' : Hid (¬ 0 ≤ byR l e 2) := Lib.hid hb2
              have h6f := hk5.heap h6V (by simp)
              have cF := blk_cell (blk_set (blk_set (blk_set h6f 0 (.slice AR l.length cR)) 1 (.bool true)) 2 (.slice A2 (ms.length + 1) c2))
              have hks := (((Kp.refl [w.heap.size + 1] w5).setCell (p := ⟨w.heap.size + 1, 0, none⟩) (.inl (by simp)) (.slice AR l.length cR)).setCell (p := ⟨w.heap.size + 1, 1, none⟩) (.inl (by simp)) (.bool true)).setCell (p := ⟨w.heap.size + 1, 2, none⟩) (.inl (by simp)) (.slice A2 (ms.length + 1) c2)
              have HKS := Lib.hid hks
              have HT : Hid (toldR true l o e = (2, 1)) := Lib.hid (by simp [toldR, hb2'.out])
              clear hks
              (go_wp2)
              (refine bodyPost_ret (v := .tuple #[.agg #[.slice AR l.length cR, .bool true, .slice A2 (ms.length + 1) c2], .int .i64 2, .int .i64 (1)]) ?_ rfl ⟨.slice A2 (ms.length + 1) c2, _, by rw [HO.out], by simp [HKN.out, HO.out, HT.out], by (rw [HKN.out, if_pos rfl, HBU.out]; exact ((HROWV.out.keep hk5 (by simp)).keep HKS.out HNB.out)), (HKV.out.trans hk5).next HKS.out (by simp)⟩)
              (simp [results, Try.results14, go_sem, cF])
        · have HBU : Hid (bumpR ms o e = ms.map (incR o e)) := Lib.hid (by simp only [bumpR, ← hfd.out, if_true])
          have hks := (Kp.refl [w.heap.size] wr).setCell (p := ⟨w.heap.size, 2, none⟩) (.inl (by simp)) (.slice A1 ms.length c1)
          obtain ⟨V1, hV1⟩ : ∃ V1, V1 = wr.setCell ⟨w.heap.size, 2, none⟩ (.slice A1 ms.length c1) := ⟨_, rfl⟩
          have HV1 := Lib.hid hV1
          rw [← hV1] at hks
          have HKV := Lib.hid (hkw.next hks (by simp))
          have h3V : V1.heap[w.heap.size]? = some (.cells #[.slice AR l.length cR, .bool m, .slice A1 ms.length c1] 49) := by rw [hV1]; simpa using blk_set h3r 2 (.slice A1 ms.length c1)
          have h6V := hks.heap h6r (by simp)
          have HROWV : Hid (Row V1 72 3 (.slice A1 ms.length c1) (ms.map (incR o e)).length (cells3 (ms.map (incR o e)))) := Lib.hid ((hrow.keep hks (fun b hb h => hnb.1 (by simp at h; rw [← h]; exact hb))).ext (by simp) rfl)
          have HNB : Hid (∀ b ∈ (Value.slice A1 ms.length c1).ownBlock, b ∉ [w.heap.size + 1]) := Lib.hid (fun b hb h => hnb.2 (by simp at h; rw [← h]; exact hb))
          clear hV1 hks hrow hnb hnew hkw hkr h3r h6r hr1 h33 h36
          obtain ⟨-, c3V, f3V, l3V⟩ := (Kp.refl [] V1).look h3V (by simp)
          obtain ⟨-, c6V, f6V, l6V⟩ := (Kp.refl [] V1).look h6V (by simp)
          have HBY : Hid (∀ V, Kp [] V1 V → ∀ v, Calls Try.prog 26 #[.agg #[.slice AR l.length cR, .bool m, .slice A1 ms.length c1], .int .i64 e, .int .i64 v] V fun x w' => x = .returned (.int .i64 (byR l e v)) ∧ Kp [] V1 w') :=
            Lib.hid fun V hV v => (by_calls V _ _ l m (HL.out.keep (HKV.out.trans hV) (by simp)) e v).mono fun x w' ⟨a1, a2⟩ => ⟨a1, hV.trans a2⟩
          cases m
          · by_cases hoo : 0 ≤ o
            · go_wp2_with fail
              rw [← HV1.out]
              refine (HBY.out _ (Kp.refl _ _) 0).mono ?_
              rintro x5 w5 ⟨rfl, hk5⟩
              obtain ⟨-, c35, f35, l35⟩ := hk5.look h3V (by simp)
              obtain ⟨-, c65, f65, l65⟩ := hk5.look h6V (by simp)
              by_cases hb0 : 0 ≤ byR l e 0
              · have hb0' : Hid (0 ≤ byR l e 0) := Lib.hid hb0
                have h6f := hk5.heap h6V (by simp)
                have cF := blk_cell (blk_set (blk_set (blk_set h6f 0 (.slice AR l.length cR)) 1 (.bool false)) 2 (.slice A1 ms.length c1))
                have hks := (((Kp.refl [w.heap.size + 1] w5).setCell (p := ⟨w.heap.size + 1, 0, none⟩) (.inl (by simp)) (.slice AR l.length cR)).setCell (p := ⟨w.heap.size + 1, 1, none⟩) (.inl (by simp)) (.bool false)).setCell (p := ⟨w.heap.size + 1, 2, none⟩) (.inl (by simp)) (.slice A1 ms.length c1)
                have HKS := Lib.hid hks
                have HT : Hid (toldR false l o e = (0, byR l e 0)) := Lib.hid (by simp only [toldR, Bool.false_eq_true, if_false]; rw [if_pos (by have := hb0'.out; omega)])
                clear hks
                (go_wp2)
                (refine bodyPost_ret (v := .tuple #[.agg #[.slice AR l.length cR, .bool false, .slice A1 ms.length c1], .int .i64 0, .int .i64 (byR l e 0)]) ?_ rfl ⟨.slice A1 ms.length c1, _, by rw [HO.out], by simp [HKN.out, HO.out, HT.out], by (rw [HKN.out, if_pos rfl, HBU.out]; exact ((HROWV.out.keep hk5 (by simp)).keep HKS.out HNB.out)), (HKV.out.trans hk5).next HKS.out (by simp)⟩)
                (simp [results, Try.results14, go_sem, cF])
              · have hb0' : Hid (¬ 0 ≤ byR l e 0) := Lib.hid hb0
                go_wp2_with fail
                refine (HBY.out _ hk5 1).mono ?_
                rintro x6 w6 ⟨rfl, hk6⟩
                obtain ⟨-, c36, f36, l36⟩ := hk6.look h3V (by simp)
                obtain ⟨-, c66, f66, l66⟩ := hk6.look h6V (by simp)
                by_cases hb1 : 0 ≤ byR l e 1
                · have hb1' : Hid (0 ≤ byR l e 1) := Lib.hid hb1
                  have h6f := hk6.heap h6V (by simp)
                  have cF := blk_cell (blk_set (blk_set (blk_set h6f 0 (.slice AR l.length cR)) 1 (.bool false)) 2 (.slice A1 ms.length c1))
                  have hks := (((Kp.refl [w.heap.size + 1] w6).setCell (p := ⟨w.heap.size + 1, 0, none⟩) (.inl (by simp)) (.slice AR l.length cR)).setCell (p := ⟨w.heap.size + 1, 1, none⟩) (.inl (by simp)) (.bool false)).setCell (p := ⟨w.heap.size + 1, 2, none⟩) (.inl (by simp)) (.slice A1 ms.length c1)
                  have HKS := Lib.hid hks
                  have HT : Hid (toldR false l o e = (1, byR l e 1)) := Lib.hid (by simp only [toldR, Bool.false_eq_true, if_false]; rw [if_neg (by have := hb0'.out; omega), if_pos (by have := hb1'.out; omega)])
                  clear hks
                  (go_wp2)
                  (refine bodyPost_ret (v := .tuple #[.agg #[.slice AR l.length cR, .bool false, .slice A1 ms.length c1], .int .i64 1, .int .i64 (byR l e 1)]) ?_ rfl ⟨.slice A1 ms.length c1, _, by rw [HO.out], by simp [HKN.out, HO.out, HT.out], by (rw [HKN.out, if_pos rfl, HBU.out]; exact ((HROWV.out.keep hk6 (by simp)).keep HKS.out HNB.out)), (HKV.out.trans hk6).next HKS.out (by simp)⟩)
                  (simp [results, Try.results14, go_sem, cF])
                · have hb1' : Hid (¬ 0 ≤ byR l e 1) := Lib.hid hb1
                  have h6f := hk6.heap h6V (by simp)
                  have cF := blk_cell (blk_set (blk_set (blk_set h6f 0 (.slice AR l.length cR)) 1 (.bool false)) 2 (.slice A1 ms.length c1))
                  have hks := (((Kp.refl [w.heap.size + 1] w6).setCell (p := ⟨w.heap.size + 1, 0, none⟩) (.inl (by simp)) (.slice AR l.length cR)).setCell (p := ⟨w.heap.size + 1, 1, none⟩) (.inl (by simp)) (.bool false)).setCell (p := ⟨w.heap.size + 1, 2, none⟩) (.inl (by simp)) (.slice A1 ms.length c1)
                  have HKS := Lib.hid hks
                  have HT : Hid (toldR false l o e = (0, 2)) := Lib.hid (by simp only [toldR, Bool.false_eq_true, if_false]; rw [if_neg (by have := hb0'.out; omega), if_neg (by have := hb1'.out; omega), if_pos (by omega)])
                  clear hks
                  (go_wp2)
                  (refine bodyPost_ret (v := .tuple #[.agg #[.slice AR l.length cR, .bool false, .slice A1 ms.length c1], .int .i64 0, .int .i64 (2)]) ?_ rfl ⟨.slice A1 ms.length c1, _, by rw [HO.out], by simp [HKN.out, HO.out, HT.out], by (rw [HKN.out, if_pos rfl, HBU.out]; exact ((HROWV.out.keep hk6 (by simp)).keep HKS.out HNB.out)), (HKV.out.trans hk6).next HKS.out (by simp)⟩)
                  (simp [results, Try.results14, go_sem, cF])
            · go_wp2_with fail
              rw [← HV1.out]
              refine (HBY.out _ (Kp.refl _ _) 1).mono ?_
              rintro x6 w6 ⟨rfl, hk6⟩
              obtain ⟨-, c36, f36, l36⟩ := hk6.look h3V (by simp)
              obtain ⟨-, c66, f66, l66⟩ := hk6.look h6V (by simp)
              by_cases hb1 : 0 ≤ byR l e 1
              · have hb1' : Hid (0 ≤ byR l e 1) := Lib.hid hb1
                have h6f := hk6.heap h6V (by simp)
                have cF := blk_cell (blk_set (blk_set (blk_set h6f 0 (.slice AR l.length cR)) 1 (.bool false)) 2 (.slice A1 ms.length c1))
                have hks := (((Kp.refl [w.heap.size + 1] w6).setCell (p := ⟨w.heap.size + 1, 0, none⟩) (.inl (by simp)) (.slice AR l.length cR)).setCell (p := ⟨w.heap.size + 1, 1, none⟩) (.inl (by simp)) (.bool false)).setCell (p := ⟨w.heap.size + 1, 2, none⟩) (.inl (by simp)) (.slice A1 ms.length c1)
                have HKS := Lib.hid hks
                have HT : Hid (toldR false l o e = (1, byR l e 1)) := Lib.hid (by simp only [toldR, Bool.false_eq_true, if_false]; rw [if_neg (by omega), if_pos (by have := hb1'.out; omega)])
                clear hks
                (go_wp2)
                (refine bodyPost_ret (v := .tuple #[.agg #[.slice AR l.length cR, .bool false, .slice A1 ms.length c1], .int .i64 1, .int .i64 (byR l e 1)]) ?_ rfl ⟨.slice A1 ms.length c1, _, by rw [HO.out], by simp [HKN.out, HO.out, HT.out], by (rw [HKN.out, if_pos rfl, HBU.out]; exact ((HROWV.out.keep hk6 (by simp)).keep HKS.out HNB.out)), (HKV.out.trans hk6).next HKS.out (by simp)⟩)
                (simp [results, Try.results14, go_sem, cF])
              · have hb1' : Hid (¬ 0 ≤ byR l e 1) := Lib.hid hb1
                have h6f := hk6.heap h6V (by simp)
                have cF := blk_cell (blk_set (blk_set (blk_set h6f 0 (.slice AR l.length cR)) 1 (.bool false)) 2 (.slice A1 ms.length c1))
                have hks := (((Kp.refl [w.heap.size + 1] w6).setCell (p := ⟨w.heap.size + 1, 0, none⟩) (.inl (by simp)) (.slice AR l.length cR)).setCell (p := ⟨w.heap.size + 1, 1, none⟩) (.inl (by simp)) (.bool false)).setCell (p := ⟨w.heap.size + 1, 2, none⟩) (.inl (by simp)) (.slice A1 ms.length c1)
                have HKS := Lib.hid hks
                have HT : Hid (toldR false l o e = (1, 6)) := Lib.hid (by simp only [toldR, Bool.false_eq_true, if_false]; rw [if_neg (by omega), if_neg (by have := hb1'.out; omega), if_neg (by omega)])
                clear hks
                (go_wp2)
                (refine bodyPost_ret (v := .tuple #[.agg #[.slice AR l.length cR, .bool false, .slice A1 ms.length c1], .int .i64 1, .int .i64 (6)]) ?_ rfl ⟨.slice A1 ms.length c1, _, by rw [HO.out], by simp [HKN.out, HO.out, HT.out], by (rw [HKN.out, if_pos rfl, HBU.out]; exact ((HROWV.out.keep hk6 (by simp)).keep HKS.out HNB.out)), (HKV.out.trans hk6).next HKS.out (by simp)⟩)
                (simp [results, Try.results14, go_sem, cF])
          · go_wp2_with fail
            rw [← HV1.out]
            refine (HBY.out _ (Kp.refl _ _) 2).mono ?_
            rintro x5 w5 ⟨rfl, hk5⟩
            obtain ⟨-, c35, f35, l35⟩ := hk5.look h3V (by simp)
            obtain ⟨-, c65, f65, l65⟩ := hk5.look h6V (by simp)
            by_cases hb2 : 0 ≤ byR l e 2
            · have hb2' : Hid (0 ≤ byR l e 2) := Lib.hid hb2
              have h6f := hk5.heap h6V (by simp)
              have cF := blk_cell (blk_set (blk_set (blk_set h6f 0 (.slice AR l.length cR)) 1 (.bool true)) 2 (.slice A1 ms.length c1))
              have hks := (((Kp.refl [w.heap.size + 1] w5).setCell (p := ⟨w.heap.size + 1, 0, none⟩) (.inl (by simp)) (.slice AR l.length cR)).setCell (p := ⟨w.heap.size + 1, 1, none⟩) (.inl (by simp)) (.bool true)).setCell (p := ⟨w.heap.size + 1, 2, none⟩) (.inl (by simp)) (.slice A1 ms.length c1)
              have HKS := Lib.hid hks
              have HT : Hid (toldR true l o e = (2, byR l e 2)) := Lib.hid (by simp [toldR, hb2'.out])
              clear hks
              (go_wp2)
              (refine bodyPost_ret (v := .tuple #[.agg #[.slice AR l.length cR, .bool true, .slice A1 ms.length c1], .int .i64 2, .int .i64 (byR l e 2)]) ?_ rfl ⟨.slice A1 ms.length c1, _, by rw [HO.out], by simp [HKN.out, HO.out, HT.out], by (rw [HKN.out, if_pos rfl, HBU.out]; exact ((HROWV.out.keep hk5 (by simp)).keep HKS.out HNB.out)), (HKV.out.trans hk5).next HKS.out (by simp)⟩)
              (simp [results, Try.results14, go_sem, cF])
            · have hb2' : Hid (¬ 0 ≤ byR l e 2) := Lib.hid hb2
              have h6f := hk5.heap h6V (by simp)
              have cF := blk_cell (blk_set (blk_set (blk_set h6f 0 (.slice AR l.length cR)) 1 (.bool true)) 2 (.slice A1 ms.length c1))
              have hks := (((Kp.refl [w.heap.size + 1] w5).setCell (p := ⟨w.heap.size + 1, 0, none⟩) (.inl (by simp)) (.slice AR l.length cR)).setCell (p := ⟨w.heap.size + 1, 1, none⟩) (.inl (by simp)) (.bool true)).setCell (p := ⟨w.heap.size + 1, 2, none⟩) (.inl (by simp)) (.slice A1 ms.length c1)
              have HKS := Lib.hid hks
              have HT : Hid (toldR true l o e = (2, 1)) := Lib.hid (by simp [toldR, hb2'.out])
              clear hks
              (go_wp2)
              (refine bodyPost_ret (v := .tuple #[.agg #[.slice AR l.length cR, .bool true, .slice A1 ms.length c1], .int .i64 2, .int .i64 (1)]) ?_ rfl ⟨.slice A1 ms.length c1, _, by rw [HO.out], by simp [HKN.out, HO.out, HT.out], by (rw [HKN.out, if_pos rfl, HBU.out]; exact ((HROWV.out.keep hk5 (by simp)).keep HKS.out HNB.out)), (HKV.out.trans hk5).next HKS.out (by simp)⟩)
              (simp [results, Try.results14, go_sem, cF])
end Go.Proofs.Ytlghbnoiakeibaa
