import Derived.Test.YtlghbnoiakeibaaD5
import Derived.Test.YtlghbnoiakeibaaW2
set_option linter.unusedVariables false
set_option linter.unusedSimpArgs false
namespace Go.Proofs.Ytlghbnoiakeibaa
open Go.RowKit
theorem MonIn.more {w : World} {b r q n k k' : Nat} {m : Bool} {f c : Int → Int → Option Int} (h : MonIn w b r q m f c n k) (hk : k ≤ k') : MonIn w b r q m f c n k' :=
  ⟨h.blk, h.rules, h.counts.more hk, h.rq, h.rb, h.qb⟩
theorem sameM_refl' (m : Bool) (f c : Int → Int → Option Int) : sameM m m f f c c = true := by simp [sameM, sameFB_refl]
/-- How things stand at a round's head. -/
structure At (w : World) (B : Nat) (AR : Option Addr) (cR : Nat) (l : List Rule) (m : Bool) (F : Int → Int → Option Int) (b r q : Nat) (C : Int → Int → Option Int) (ms : List I3) (AL : Option Addr) (cL k : Nat) (V : World) : Prop where
  mon : MonIn V b r q m F C l.length k
  doc : V.heap[B]? = some (.cells #[.slice AR l.length cR, .bool m, .slice AL ms.length cL] 49)
  row : Row V 72 3 (.slice AL ms.length cL) ms.length (cells3 ms)
  rep : Rep C ms k
  len : ms.length ≤ k
  kp : Kp [] w V
  hb : w.heap.size ≤ b
  hr : w.heap.size ≤ r
  hq : w.heap.size ≤ q
theorem At.keep {w : World} {B : Nat} {AR : Option Addr} {cR : Nat} {l : List Rule} {m : Bool} {F : Int → Int → Option Int} {b r q : Nat} {C : Int → Int → Option Int} {ms : List I3} {AL : Option Addr} {cL k : Nat} {V V' : World} (h : At w B AR cR l m F b r q C ms AL cL k V) (hk : Kp [] V V') : At w B AR cR l m F b r q C ms AL cL k V' :=
  ⟨h.mon.keep hk (by simp) (by simp) (by simp), hk.heap h.doc (by simp), h.row.keep hk (by simp), h.rep, h.len, h.kp.trans hk, h.hb, h.hr, h.hq⟩
set_option maxRecDepth 100000 in
set_option maxHeartbeats 16000000 in
theorem plays_calls (w : World) (v v2 : Value) (l : List Rule) (m : Bool) (a : List Act3) (hs : Sees w 3 v l.length (cells3 l)) (hw : ∀ r ∈ l, r.wf) (ha : Sees w 3 v2 a.length (recs3 .u8 .i64 .i64 a)) (hwa : ∀ x ∈ a, Act3.wf x) :
    Calls Try.prog 7 #[v, .bool m, v2] w (True1 w) := by
  obtain ⟨AR, cR, rfl⟩ := hs.shape
  obtain ⟨A2, c2, rfl⟩ := ha.shape
  have hn := hs.2.1
  have hn2 := ha.2.1
  unfold maxLen at hn hn2
  have LEAVE : ∀ (w1 : World), Kp [] w w1 → Calls Try.prog 8 #[] w1 fun e w' => e = .returned (.bool true) ∧ Kp [] w w' := fun w1 h1 => (speaks_calls w1).mono fun e w' ⟨a1, a2⟩ => ⟨a1, h1.trans a2⟩
  have LV := Lib.hid LEAVE
  clear LEAVE
  by_cases h70 : 70 < l.length
  · go_enter Try.func7, Try.ntmps7
    go_wp2_with fail
    refine (LV.out _ (Kp.refl _ _)).mono ?_
    rintro e1 w1 ⟨rfl, hk1⟩
    go_wp2_with fail
    refine (LV.out _ hk1).mono ?_
    rintro e2 w2 ⟨rfl, hk2⟩
    go_wp2_with fail
    go_ret
    exact ⟨rfl, hk2⟩
  by_cases h60 : 60 < a.length
  · go_enter Try.func7, Try.ntmps7
    go_wp2_with fail
    refine (LV.out _ (Kp.refl _ _)).mono ?_
    rintro e1 w1 ⟨rfl, hk1⟩
    go_wp2_with fail
    refine (LV.out _ hk1).mono ?_
    rintro e2 w2 ⟨rfl, hk2⟩
    go_wp2_with fail
    go_ret
    exact ⟨rfl, hk2⟩
  have HS := Lib.hid hs
  have HA := Lib.hid ha
  clear hs ha
  go_enter Try.func7, Try.ntmps7
  go_wp2_with fail
  refine (LV.out _ (Kp.refl _ _)).mono ?_
  rintro e1 w1 ⟨rfl, hk1⟩
  go_wp2_with fail
  refine (Of_calls _ _ l (HS.out.old hk1 (by simp)) (by omega)).mono ?_
  rintro e3 w3 ⟨v', rfl, hs3, hk3⟩
  have hk3 := hk1.trans hk3
  go_wp2_with fail
  refine (New_calls _ _ l m hs3 hw).mono ?_
  rintro e4 w4 ⟨hk4, hno, hyes⟩
  have HK4 := Lib.hid (hk3.trans hk4)
  have hz3 := hk3.size
  clear hk1 hk3 hk4 hs3
  by_cases hn0 : ¬ newI m l = 0
  · have he := hno hn0
    subst he
    clear hno hyes
    have hne : (newI m l == 0) = false := by simpa using hn0
    clear hn0
    go_wp2_with fail
    refine (refNew_calls _ _ l m (HS.out.old HK4.out (by simp))).mono ?_
    rintro e5 w5 ⟨rfl, hk5⟩
    have HK5 := Lib.hid (HK4.out.trans hk5)
    clear hk5
    go_wp2
    go_ret
    exact ⟨rfl, HK5.out⟩
  have hn0 : newI m l = 0 := Decidable.of_not_not hn0
  obtain ⟨b0, r0, q0, rfl, hM, hb, hr, hq⟩ := hyes hn0
  have HN0 := Lib.hid hn0
  have HTR := Lib.hid (told_ref m l hn0)
  clear hno hyes hn0
  go_wp2_with fail
  refine (refNew_calls _ _ l m (HS.out.old HK4.out (by simp))).mono ?_
  rintro e5 w5 ⟨he5, hk5⟩
  rw [HN0.out] at he5
  subst he5
  obtain ⟨W6, hW6, hk6, hB, hz6⟩ := new1 w5 (.cells #[.slice AR l.length cR, .bool m, .slice none 0 0] 49)
  have HW6 := Lib.hid hW6
  have hAt : At w w5.heap.size AR cR l m (rulesOf (fun _ _ => none) l) b0 r0 q0 (fun _ _ => none) [] none 0 0 W6 :=
    ⟨(hM.keep hk5 (by simp) (by simp) (by simp)).keep hk6 (by simp) (by simp) (by simp), hB, Row.nil _ _ _, Rep.nil, Nat.le_refl _, (HK4.out.trans hk5).trans hk6, by omega, by omega, by omega⟩
  have HAT := Lib.hid hAt
  generalize rulesOf (fun _ _ => none) l = F at *
  have hz5 := (HK4.out.trans hk5).size
  have hkB : w5.heap.size < W6.heap.size := by omega
  clear hW6 hk5 hk6 hB hM hAt
  go_wp2_with fail
  rw [← HW6.out]
  go_loopw [60, 7] (fun i u wr => ∃ (k b r q : Nat) (C : Int → Int → Option Int) (ms : List I3) (AL : Option Addr) (cL : Nat), k ≤ a.length ∧ i = .int .i64 k ∧ u = .pointer (some ⟨b, 0, none⟩) ∧ Hid (At w w5.heap.size AR cR l m F b r q C ms AL cL k wr)) (fun i _ _ => a.length - (intOf i).toNat)
  case atStart => exact ⟨0, b0, r0, q0, _, _, _, _, Nat.zero_le _, rfl, rfl, HAT⟩
  case round =>
    obtain ⟨k, b, r, q, C, ms, AL, cL, hk, rfl, rfl, HR⟩ := hrel
    by_cases hlt : k < a.length
    · obtain ⟨g, o, rfl, hcell⟩ := act_at (HA.out.old HR.out.kp (by simp)) k hlt
      obtain ⟨cA, cB, cC⟩ := hcell k hlt
      have hwx := hwa _ (List.getElem_mem hlt)
      clear hcell
      generalize a[k] = x at *
      obtain ⟨d, p, e⟩ := x
      obtain ⟨wA, wB, wC⟩ := hwx
      simp only at cA cB cC wA wB wC
      obtain ⟨hd1, hd2⟩ := bounds_u8 wA
      obtain ⟨W1, hW1, hk1, h11, hz1⟩ := new1 wr (.cells #[.int .u8 d, .int .i64 p, .int .i64 e] 34)
      have HW1 := Lib.hid hW1
      have HR1 := Lib.hid (HR.out.keep hk1)
      have hBr : w5.heap.size < wr.heap.size := blk_lt HR.out.doc
      have hbr := HR.out.mon.lt
      have hd8 : 0 ≤ d % 8 ∧ d % 8 < 8 := by omega
      obtain ⟨hd81, hd82⟩ := hd8
      clear hW1
      obtain ⟨wo, rfl⟩ : ∃ wo : World, wo = wr := ⟨_, rfl⟩
      by_cases hc1 : d % 8 = 1
      · have hc := Lib.hid hc1
        go_wp2_with fail
        rw [← HW1.out]
        refine (Reset_calls W1 b r q m F C _ k HR1.out.mon).mono ?_
        rintro e6 w6 ⟨rfl, hM6, hk6⟩
        have hd6 := hk6.heap HR1.out.doc (by intro hb; obtain ⟨es, cl, hm⟩ := HR1.out.mon.counts.isMap; simp at hb; subst hb; rw [HR1.out.doc] at hm; simp at hm)
        have h116 := hk6.heap h11 (by simp; omega)
        obtain ⟨-, c10, f10, l10⟩ := (Kp.refl [] w6).look hd6 (by simp)
        have hks := (Kp.refl [w5.heap.size] w6).setCell (p := ⟨w5.heap.size, 2, none⟩) (.inl (by simp)) (.slice none 0 0)
        obtain ⟨V1, hV1⟩ : ∃ V1, V1 = w6.setCell ⟨w5.heap.size, 2, none⟩ (.slice none 0 0) := ⟨_, rfl⟩
        have HV1 := Lib.hid hV1
        rw [← hV1] at hks
        have hbB : b ≠ w5.heap.size := by rintro rfl; have := HR1.out.mon.blk; rw [HR1.out.doc] at this; simp at this
        have hrB : r ≠ w5.heap.size := by rintro rfl; obtain ⟨es, cl, hm⟩ := HR1.out.mon.rules.isMap; rw [HR1.out.doc] at hm; simp at hm
        have hqB : q ≠ w5.heap.size := by rintro rfl; obtain ⟨es, cl, hm⟩ := HR1.out.mon.counts.isMap; rw [HR1.out.doc] at hm; simp at hm
        have h11V := hks.heap h116 (by simp; omega)
        have HP : Hid (At w w5.heap.size AR cR l m F b r q (fun _ _ => none) [] none 0 (k + 1) V1) := Lib.hid
          ⟨(hM6.keep hks (by simpa using hbB) (by simpa using hrB) (by simpa using hqB)).more (Nat.zero_le _), by rw [hV1]; simpa using blk_set hd6 2 (.slice none 0 0), Row.nil _ _ _, Rep.nil.more (Nat.zero_le _), Nat.zero_le _, (HR1.out.kp.next hk6 (by simp; exact HR.out.hq)).next hks (by simp; omega), HR.out.hb, HR.out.hr, HR.out.hq⟩
        clear hV1 hks hM6 hk6 hd6 h116
        go_wp2_with fail
        rw [← HV1.out]
        obtain ⟨wi, rfl⟩ : ∃ wi : World, wi = V1 := ⟨_, rfl⟩
        go_loopw [120] (fun i V => ∃ j : Nat, j ≤ a.length ∧ i = .int .i64 j ∧ Kp [] wi V) (fun i _ => a.length - (intOf i).toNat)
        case atStart => exact ⟨0, Nat.zero_le _, rfl, Kp.refl _ _⟩
        case round =>
          obtain ⟨j, hj, rfl, hkr⟩ := hrel
          by_cases hjl : j < a.length
          · obtain ⟨g2, o2, hg2, hcell⟩ := act_at (HA.out.old (HP.out.kp.trans hkr) (by simp)) j hjl
            simp only [Option.some.injEq, Addr.mk.injEq, and_true] at hg2
            obtain ⟨rfl, rfl⟩ := hg2
            obtain ⟨dA, dB, dC⟩ := hcell j hjl
            have hwy := hwa _ (List.getElem_mem hjl)
            clear hcell
            generalize a[j] = y at *
            obtain ⟨d', p', e'⟩ := y
            obtain ⟨yA, yB, yC⟩ := hwy
            simp only at dA dB dC yA yB yC
            obtain ⟨W2, hW2, hk2, h19, hz2⟩ := new1 wr (.cells #[.int .u8 d', .int .i64 p', .int .i64 e'] 34)
            have HW2 := Lib.hid hW2
            have HK2 := Lib.hid (hkr.trans hk2)
            have hz0 := hkr.size
            have hlt11 := blk_lt h11V
            obtain ⟨I, hI, G, hG, hGG⟩ := fam [] W2
            have e10 := fun n => blk_cell (((HK2.out).trans (hG n)).heap HP.out.doc (by simp))
            have e11 := fun n => blk_cell (((HK2.out).trans (hG n)).heap h11V (by simp))
            have e19 := fun n => blk_cell ((hG n).heap h19 (by simp))
            have HC1 : Hid (∀ n p e, (Lit.int .i64 p).wf = true → (Lit.int .i64 e).wf = true → Calls Try.prog 19 #[.pointer (some ⟨b, 0, none⟩), .int .i64 p, .int .i64 e] (G n) fun x w' => x = .returned (.int .i64 (countR ([] : List I3) (ofP m p) e)) ∧ ∃ n', w' = G n') :=
              Lib.hid fun n p e hp he => (Count_calls (G n) _ _ _ m F _ _ _ (HP.out.mon.keep (HK2.out.trans (hG n)) (by simp) (by simp) (by simp)) p e hp he).mono fun x w' ⟨a1, a2⟩ => ⟨by rw [a1, HP.out.rep.count], hGG _ ((hG n).trans a2)⟩
            have HC2 : Hid (∀ n p e, Calls Try.prog 20 #[.agg #[.slice AR l.length cR, .bool m, .slice none 0 0], .int .i64 p, .int .i64 e] (G n) fun x w' => x = .returned (.int .i64 (countR ([] : List I3) (ofP m p) e)) ∧ ∃ n', w' = G n') :=
              Lib.hid fun n p e => (rcount_calls (G n) _ _ _ m (HP.out.row.keep (HK2.out.trans (hG n)) (by simp)).sees p e).mono fun x w' ⟨a1, a2⟩ => ⟨a1, hGG _ ((hG n).trans a2)⟩
            have h0 := Lib.hid (hGG W2.drew (Kp.refl _ _).drew)
            have HG := Lib.hid hG
            clear hW2 hG hGG hk2 hkr
            go_wp2_with fail
            rw [← HW2.out]
            refine wp_region_fam G h0.out (by kernel_rfl) (by kernel_rfl) ?_
            repeat (go_big_quiet_step (first | exact HC1.out _ _ _ yB yC | exact HC1.out _ _ _ (by decide) wC | exact HC2.out _ _ _))
            refine wpQuiet_nil ?_
            rintro _ ⟨nq, rfl⟩
            have HGn := Lib.hid (HK2.out.trans (HG.out nq))
            go_wp2
            go_roundw
            case rel => exact ⟨j + 1, by omega, by go_num, HGn.out⟩
            case measure => simp [intOf]; omega
          · obtain rfl : j = a.length := by omega
            have HPE := Lib.hid (HP.out.keep hkr)
            clear hkr
            go_wp2
            go_roundw
            case rel => exact ⟨k + 1, _, _, _, _, _, _, _, by omega, by go_num, rfl, HPE⟩
            case measure => simp [intOf]; omega
      by_cases hc2 : d % 8 = 2
      · have hc := Lib.hid hc2
        clear hc1
        go_wp2_with fail
        rw [← HW1.out]
        refine (Clone_calls W1 b r q m F C _ k HR1.out.mon).mono ?_
        rintro e6 w6 ⟨bc, rc, qc, rfl, hMc, hbc, hrc, hqc, hk6⟩
        have HR6 := Lib.hid (HR1.out.keep hk6)
        have h116 := hk6.heap h11 (by simp)
        have hzz := HR1.out.kp.size
        obtain ⟨-, c116, f116, l116⟩ := (Kp.refl [] w6).look h116 (by simp)
        go_wp2_with fail
        refine (Same_calls w6 bc rc qc b r q m m F C F C _ _ _ _ hMc HR6.out.mon).mono ?_
        rintro e7 w7 ⟨he7, hk7⟩
        rw [sameM_refl'] at he7
        subst he7
        have HR7 := Lib.hid (HR6.out.keep hk7)
        have hMc7 := hMc.keep hk7 (by simp) (by simp) (by simp)
        have h117 := hk7.heap h116 (by simp)
        obtain ⟨-, c117, f117, l117⟩ := (Kp.refl [] w7).look h117 (by simp)
        go_wp2_with fail
        refine (Decide_calls w7 b r q m F C _ k HR7.out.mon (by unfold maxLen; omega) p e wB wC).mono ?_
        rintro e8 V1 ⟨rfl, -, hk8⟩
        have hqB : w5.heap.size ≠ q := by rintro rfl; obtain ⟨es, cl, hm⟩ := HR1.out.mon.counts.isMap; rw [HR1.out.doc] at hm; simp at hm
        have h11V := hk8.heap h117 (by simp; omega)
        have HP : Hid (At w w5.heap.size AR cR l m F bc rc qc C ms AL cL (k + 1) V1) := Lib.hid (by
          obtain ⟨es, cl, hm⟩ := HR7.out.mon.counts.isMap
          have hnr := HR7.out.row.neMap hm
          exact ⟨(hMc7.keep hk8 (by simp; omega) (by simp; omega) (by simp; omega)).more (Nat.le_succ k), hk8.heap HR7.out.doc (by simpa using hqB), HR7.out.row.keep hk8 (fun x hx h => hnr (by simp at h; rw [← h]; exact hx)), HR7.out.rep.more (Nat.le_succ k), by have := HR7.out.len; omega, HR7.out.kp.next hk8 (by simp; exact HR.out.hq), by omega, by omega, by omega⟩)
        clear hMc hMc7 hk6 hk7 hk8 h116 h117 c116 f116 l116 c117 f117 l117
        go_wp2_with fail
        obtain ⟨wi, rfl⟩ : ∃ wi : World, wi = V1 := ⟨_, rfl⟩
        go_loopw [120] (fun i V => ∃ j : Nat, j ≤ a.length ∧ i = .int .i64 j ∧ Kp [] wi V) (fun i _ => a.length - (intOf i).toNat)
        case atStart => exact ⟨0, Nat.zero_le _, rfl, Kp.refl _ _⟩
        case round =>
          obtain ⟨j, hj, rfl, hkr⟩ := hrel
          by_cases hjl : j < a.length
          · obtain ⟨g2, o2, hg2, hcell⟩ := act_at (HA.out.old (HP.out.kp.trans hkr) (by simp)) j hjl
            simp only [Option.some.injEq, Addr.mk.injEq, and_true] at hg2
            obtain ⟨rfl, rfl⟩ := hg2
            obtain ⟨dA, dB, dC⟩ := hcell j hjl
            have hwy := hwa _ (List.getElem_mem hjl)
            clear hcell
            generalize a[j] = y at *
            obtain ⟨d', p', e'⟩ := y
            obtain ⟨yA, yB, yC⟩ := hwy
            simp only at dA dB dC yA yB yC
            obtain ⟨W2, hW2, hk2, h19, hz2⟩ := new1 wr (.cells #[.int .u8 d', .int .i64 p', .int .i64 e'] 34)
            have HW2 := Lib.hid hW2
            have HK2 := Lib.hid (hkr.trans hk2)
            have hz0 := hkr.size
            have hlt11 := blk_lt h11V
            obtain ⟨I, hI, G, hG, hGG⟩ := fam [] W2
            have e10 := fun n => blk_cell (((HK2.out).trans (hG n)).heap HP.out.doc (by simp))
            have e11 := fun n => blk_cell (((HK2.out).trans (hG n)).heap h11V (by simp))
            have e19 := fun n => blk_cell ((hG n).heap h19 (by simp))
            have HC1 : Hid (∀ n p e, (Lit.int .i64 p).wf = true → (Lit.int .i64 e).wf = true → Calls Try.prog 19 #[.pointer (some ⟨bc, 0, none⟩), .int .i64 p, .int .i64 e] (G n) fun x w' => x = .returned (.int .i64 (countR (ms) (ofP m p) e)) ∧ ∃ n', w' = G n') :=
              Lib.hid fun n p e hp he => (Count_calls (G n) _ _ _ m F _ _ _ (HP.out.mon.keep (HK2.out.trans (hG n)) (by simp) (by simp) (by simp)) p e hp he).mono fun x w' ⟨a1, a2⟩ => ⟨by rw [a1, HP.out.rep.count], hGG _ ((hG n).trans a2)⟩
            have HC2 : Hid (∀ n p e, Calls Try.prog 20 #[.agg #[.slice AR l.length cR, .bool m, .slice AL (ms).length cL], .int .i64 p, .int .i64 e] (G n) fun x w' => x = .returned (.int .i64 (countR (ms) (ofP m p) e)) ∧ ∃ n', w' = G n') :=
              Lib.hid fun n p e => (rcount_calls (G n) _ _ _ m (HP.out.row.keep (HK2.out.trans (hG n)) (by simp)).sees p e).mono fun x w' ⟨a1, a2⟩ => ⟨a1, hGG _ ((hG n).trans a2)⟩
            have h0 := Lib.hid (hGG W2.drew (Kp.refl _ _).drew)
            have HG := Lib.hid hG
            clear hW2 hG hGG hk2 hkr
            go_wp2_with fail
            rw [← HW2.out]
            refine wp_region_fam G h0.out (by kernel_rfl) (by kernel_rfl) ?_
            repeat (go_big_quiet_step (first | exact HC1.out _ _ _ yB yC | exact HC1.out _ _ _ (by decide) wC | exact HC2.out _ _ _))
            refine wpQuiet_nil ?_
            rintro _ ⟨nq, rfl⟩
            have HGn := Lib.hid (HK2.out.trans (HG.out nq))
            go_wp2
            go_roundw
            case rel => exact ⟨j + 1, by omega, by go_num, HGn.out⟩
            case measure => simp [intOf]; omega
          · obtain rfl : j = a.length := by omega
            have HPE := Lib.hid (HP.out.keep hkr)
            clear hkr
            go_wp2
            go_roundw
            case rel => exact ⟨k + 1, _, _, _, _, _, _, _, by omega, by go_num, rfl, HPE⟩
            case measure => simp [intOf]; omega
      have hn1 : (d % 8 == 1) = false := by simpa using hc1
      have hn2 : (d % 8 == 2) = false := by simpa using hc2
      clear hc1 hc2
      go_wp2_with fail
      rw [← HW1.out]
      refine (Decide_calls W1 b r q m F C _ k HR1.out.mon (by unfold maxLen; omega) p e wB wC).mono ?_
      rintro e6 w6 ⟨he6, hM6, hk6⟩
      have hT := HTR.out p e
      have hqB : w5.heap.size ≠ q := by rintro rfl; obtain ⟨es, cl, hm⟩ := HR1.out.mon.counts.isMap; rw [HR1.out.doc] at hm; simp at hm
      have hd6 := hk6.heap HR1.out.doc (by simpa using hqB)
      have h116 := hk6.heap h11 (by simp; omega)
      have hrow6 : Row w6 72 3 (.slice AL ms.length cL) ms.length (cells3 ms) := by
        obtain ⟨es, cl, hm⟩ := HR1.out.mon.counts.isMap
        have hnr := HR1.out.row.neMap hm
        exact HR1.out.row.keep hk6 (fun x hx h => hnr (by simp at h; rw [← h]; exact hx))
      have hkw6 := HR1.out.kp.next hk6 (by simp; exact HR.out.hq)
      obtain ⟨t1, t2, ht⟩ : ∃ t1 t2, toldB m F p e = (t1, t2) := ⟨_, _, rfl⟩
      rw [ht] at he6 hT
      subst he6
      have hT1 : (if knownB e = true then (toldR m l (ofP m p) e).1 else 0) = t1 := (congrArg Prod.fst hT).symm
      have hT2 : (if knownB e = true then (toldR m l (ofP m p) e).2 else 0) = t2 := (congrArg Prod.snd hT).symm
      have HT1 := Lib.hid hT1
      have HT2 := Lib.hid hT2
      obtain ⟨W7, hW7, hk7, h14, hz7⟩ := new1 w6 (.cells #[.int .i64 t1, .int .i64 t2] 36)
      have HW7 := Lib.hid hW7
      have hlen := HR.out.len
      have HRD := Lib.hid (rdecide_calls W7 (.slice AR l.length cR) (.slice AL ms.length cL) l ms m (HS.out.keep (hkw6.trans hk7) (by simp)) (hrow6.keep hk7 (by simp)) (by omega) (HR.out.rep.bnd0 (by omega)) p e)
      have HM7 := Lib.hid (hM6.keep hk7 (by simp) (by simp) (by simp))
      have hd7 := hk7.heap hd6 (by simp)
      have h117 := hk7.heap h116 (by simp)
      have HKW7 := Lib.hid (hkw6.trans hk7)
      obtain ⟨-, c106, f106, l106⟩ := (Kp.refl [] w6).look hd6 (by simp)
      obtain ⟨-, c116, f116, l116⟩ := (Kp.refl [] w6).look h116 (by simp)
      clear hT hT1 hT2 ht hW7 hM6 hrow6 hkw6 hd6 h116
      go_wp2_with fail
      rw [← HW7.out]
      refine HRD.out.mono ?_
      rintro e8 w8 ⟨vL', ms', hms', he8, hrow8, hk8⟩
      rw [HT1.out, HT2.out] at he8
      subst he8
      obtain ⟨AL', cL', rfl⟩ := hrow8.shape
      have hl' : ms'.length ≤ k + 1 := by have h1 := step_len ms (ofP m p) e (knownB e); rw [← hms'] at h1; omega
      have hrep' : Rep (metB m C p e) ms' (k + 1) := by rw [hms']; exact HR.out.rep.step (by omega) m p e wB wC
      have hd8 := hk8.heap hd7 (by simp)
      have h118 := hk8.heap h117 (by simp)
      have h148 := hk8.heap h14 (by simp)
      obtain ⟨-, c108, f108, l108⟩ := (Kp.refl [] w8).look hd8 (by simp)
      obtain ⟨-, c118, f118, l118⟩ := (Kp.refl [] w8).look h118 (by simp)
      obtain ⟨-, c148, f148, l148⟩ := (Kp.refl [] w8).look h148 (by simp)
      have hks0 := (((Kp.refl [w5.heap.size] w8).setCell (p := ⟨w5.heap.size, 0, none⟩) (.inl (by simp)) (.slice AR l.length cR)).setCell (p := ⟨w5.heap.size, 1, none⟩) (.inl (by simp)) (.bool m)).setCell (p := ⟨w5.heap.size, 2, none⟩) (.inl (by simp)) (.slice AL' ms'.length cL')
      have hks := hks0.alloc (.cells #[.slice AR l.length cR, .bool m, .slice AL' ms'.length cL'] 49)
      obtain ⟨V1, hV1⟩ : ∃ V1, V1 = (((w8.setCell ⟨w5.heap.size, 0, none⟩ (.slice AR l.length cR)).setCell ⟨w5.heap.size, 1, none⟩ (.bool m)).setCell ⟨w5.heap.size, 2, none⟩ (.slice AL' ms'.length cL')).alloc (.cells #[.slice AR l.length cR, .bool m, .slice AL' ms'.length cL'] 49) := ⟨_, rfl⟩
      have HV1 := Lib.hid hV1
      rw [← hV1] at hks
      have hbB : b ≠ w5.heap.size := by rintro rfl; have := HR1.out.mon.blk; rw [HR1.out.doc] at this; simp at this
      have hrB : r ≠ w5.heap.size := by rintro rfl; obtain ⟨es, cl, hm⟩ := HR1.out.mon.rules.isMap; rw [HR1.out.doc] at hm; simp at hm
      have hdV : V1.heap[w5.heap.size]? = some (.cells #[.slice AR l.length cR, .bool m, .slice AL' ms'.length cL'] 49) := by
        rw [hV1]; exact blk_alloc (by simpa using blk_set (blk_set (blk_set hd8 0 (.slice AR l.length cR)) 1 (.bool m)) 2 (.slice AL' ms'.length cL')) _
      have h11V := hks.heap h118 (by simp; omega)
      have HP : Hid (At w w5.heap.size AR cR l m F b r q (metB m C p e) ms' AL' cL' (k + 1) V1) := Lib.hid
        ⟨(HM7.out.keep hk8 (by simp) (by simp) (by simp)).keep hks (by simpa using hbB) (by simpa using hrB) (by simpa using hqB.symm), hdV,
         hrow8.keep hks (fun x hx h => by simp at h; subst h; exact (hrow8.ne hd8 (by decide)) hx), hrep', hl', ((HKW7.out.trans hk8).next hks (by simp; omega)), HR.out.hb, HR.out.hr, HR.out.hq⟩
      clear hV1 hks hks0 hrow8 hk8 hd7 h117 hd8 h118 hms' hl' hrep' hdV
      go_wp2_with fail
      rw [← HV1.out]
      obtain ⟨wi, rfl⟩ : ∃ wi : World, wi = V1 := ⟨_, rfl⟩
      go_loopw [120] (fun i V => ∃ j : Nat, j ≤ a.length ∧ i = .int .i64 j ∧ Kp [] wi V) (fun i _ => a.length - (intOf i).toNat)
      case atStart => exact ⟨0, Nat.zero_le _, rfl, Kp.refl _ _⟩
      case round =>
        obtain ⟨j, hj, rfl, hkr⟩ := hrel
        by_cases hjl : j < a.length
        · obtain ⟨g2, o2, hg2, hcell⟩ := act_at (HA.out.old (HP.out.kp.trans hkr) (by simp)) j hjl
          simp only [Option.some.injEq, Addr.mk.injEq, and_true] at hg2
          obtain ⟨rfl, rfl⟩ := hg2
          obtain ⟨dA, dB, dC⟩ := hcell j hjl
          have hwy := hwa _ (List.getElem_mem hjl)
          clear hcell
          generalize a[j] = y at *
          obtain ⟨d', p', e'⟩ := y
          obtain ⟨yA, yB, yC⟩ := hwy
          simp only at dA dB dC yA yB yC
          obtain ⟨W2, hW2, hk2, h19, hz2⟩ := new1 wr (.cells #[.int .u8 d', .int .i64 p', .int .i64 e'] 34)
          have HW2 := Lib.hid hW2
          have HK2 := Lib.hid (hkr.trans hk2)
          have hz0 := hkr.size
          have hlt11 := blk_lt h11V
          obtain ⟨I, hI, G, hG, hGG⟩ := fam [] W2
          have e10 := fun n => blk_cell (((HK2.out).trans (hG n)).heap HP.out.doc (by simp))
          have e11 := fun n => blk_cell (((HK2.out).trans (hG n)).heap h11V (by simp))
          have e19 := fun n => blk_cell ((hG n).heap h19 (by simp))
          have HC1 : Hid (∀ n p e, (Lit.int .i64 p).wf = true → (Lit.int .i64 e).wf = true → Calls Try.prog 19 #[.pointer (some ⟨b, 0, none⟩), .int .i64 p, .int .i64 e] (G n) fun x w' => x = .returned (.int .i64 (countR (ms') (ofP m p) e)) ∧ ∃ n', w' = G n') :=
            Lib.hid fun n p e hp he => (Count_calls (G n) _ _ _ m F _ _ _ (HP.out.mon.keep (HK2.out.trans (hG n)) (by simp) (by simp) (by simp)) p e hp he).mono fun x w' ⟨a1, a2⟩ => ⟨by rw [a1, HP.out.rep.count], hGG _ ((hG n).trans a2)⟩
          have HC2 : Hid (∀ n p e, Calls Try.prog 20 #[.agg #[.slice AR l.length cR, .bool m, .slice AL' (ms').length cL'], .int .i64 p, .int .i64 e] (G n) fun x w' => x = .returned (.int .i64 (countR (ms') (ofP m p) e)) ∧ ∃ n', w' = G n') :=
            Lib.hid fun n p e => (rcount_calls (G n) _ _ _ m (HP.out.row.keep (HK2.out.trans (hG n)) (by simp)).sees p e).mono fun x w' ⟨a1, a2⟩ => ⟨a1, hGG _ ((hG n).trans a2)⟩
          have h0 := Lib.hid (hGG W2.drew (Kp.refl _ _).drew)
          have HG := Lib.hid hG
          clear hW2 hG hGG hk2 hkr
          go_wp2_with fail
          rw [← HW2.out]
          refine wp_region_fam G h0.out (by kernel_rfl) (by kernel_rfl) ?_
          repeat (go_big_quiet_step (first | exact HC1.out _ _ _ yB yC | exact HC1.out _ _ _ (by decide) wC | exact HC2.out _ _ _))
          refine wpQuiet_nil ?_
          rintro _ ⟨nq, rfl⟩
          have HGn := Lib.hid (HK2.out.trans (HG.out nq))
          go_wp2
          go_roundw
          case rel => exact ⟨j + 1, by omega, by go_num, HGn.out⟩
          case measure => simp [intOf]; omega
        · obtain rfl : j = a.length := by omega
          have HPE := Lib.hid (HP.out.keep hkr)
          clear hkr
          go_wp2
          go_roundw
          case rel => exact ⟨k + 1, _, _, _, _, _, _, _, by omega, by go_num, rfl, HPE⟩
          case measure => simp [intOf]; omega
    · obtain rfl : k = a.length := by omega
      go_wp2
      go_ret
      exact ⟨rfl, HR.out.kp⟩
end Go.Proofs.Ytlghbnoiakeibaa
