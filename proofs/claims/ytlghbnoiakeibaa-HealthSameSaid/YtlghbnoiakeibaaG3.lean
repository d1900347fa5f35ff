import Derived.Test.YtlghbnoiakeibaaG2
import Derived.Test.YtlghbnoiakeibaaPl
set_option linter.unusedVariables false
set_option linter.unusedSimpArgs false
namespace Go.Proofs.Ytlghbnoiakeibaa
open Go.RowKit
def Made2 (w : World) (AR : Option Addr) (cR : Nat) (l : List Rule) (m : Bool) (N : Nat) (e : Ending) (w' : World) : Prop :=
  ∃ b r q C ms AL cL, e = .returned (.tuple #[.pointer (some ⟨b, 0, none⟩), .agg #[.slice AR l.length cR, .bool m, .slice AL ms.length cL]]) ∧
    MonIn w' b r q m (rulesOf (fun _ _ => none) l) C l.length N ∧ Row w' 72 3 (.slice AL ms.length cL) ms.length (cells3 ms) ∧ Rep C ms N ∧ (∀ x ∈ ms, ofP m x.1 = x.1) ∧ Kp [] w w' ∧ w.heap.size ≤ b ∧ w.heap.size ≤ r ∧ w.heap.size ≤ q
set_option maxRecDepth 100000 in
set_option maxHeartbeats 8000000 in
theorem made_calls (w : World) (v v2 : Value) (bm : Nat) (l : List Rule) (m : Bool) (a : List Act3) (AR : Option Addr) (cR : Nat) (hv : v = .slice AR l.length cR) (hs : Sees w 3 v l.length (cells3 l)) (hw : ∀ r ∈ l, r.wf) (ha : Sees w 3 v2 a.length (recs3 .u8 .i64 .i64 a)) (hwa : ∀ x ∈ a, Act3.wf x)
    (hbm : w.heap[bm]? = some (.cells #[.bool m] 4)) (hn0 : newI m l = 0) (h70 : l.length ≤ 70) (h60 : a.length ≤ 60) :
    Calls Try.prog 13 #[v, v2, .pointer (some ⟨bm, 0, none⟩)] w (Made2 w AR cR l m a.length) := by
  subst hv
  obtain ⟨A2, c2, rfl⟩ := ha.shape
  have hn := hs.2.1
  have hn2 := ha.2.1
  unfold maxLen at hn hn2
  obtain ⟨W1, hW1, hk1, h6, hz1⟩ := new1 w (.cells #[.slice none 0 0, .bool false, .slice none 0 0] 49)
  have HW1 := Lib.hid hW1
  have hbm1 := hk1.heap hbm (by simp)
  have HK1 := Lib.hid hk1
  have HS1 := Lib.hid (hs.keep hk1 (by simp))
  have HS := Lib.hid hs
  have HA := Lib.hid ha
  have HN0 := Lib.hid hn0
  have HTR := Lib.hid (told_ref m l hn0)
  have HSS : Hid (∀ V, Kp [] W1 V → Kp [] W1 V ∧ ∀ i, V.cell? ⟨bm, i, none⟩ = #[.bool m][i]?) := Lib.hid fun V hV => ⟨hV, blk_cell (hV.heap hbm1 (by simp))⟩
  have HC1 : Hid (∀ V, Kp [] W1 V → Calls Try.prog 11 #[.slice AR l.length cR] V (OfPost V l)) := Lib.hid fun V hV => Of_calls V _ l (HS1.out.keep hV (by simp)) h70
  have HWF := Lib.hid hw
  clear hW1 hk1 hs ha hn0 hw
  go_enter Try.func13, Try.ntmps13
  go_wp2_with fail
  rw [← HW1.out]
  go_region_held3 (fun V => Kp [] W1 V ∧ ∀ i, V.cell? ⟨bm, i, none⟩ = #[.bool m][i]?) ((refine HSS.out _ ?_; first | exact hkB | exact hkA | (repeat (with_reducible first | assumption | apply Kp.refl | apply Kp.drew)))) (first | (go_at_call 11; (with_reducible refine (HC1.out _ ?_).mono ?_); (repeat (with_reducible first | assumption | apply Kp.refl | apply Kp.drew)); rintro x VA ⟨v3, rfl, hs3, hkA1⟩; have hkA : Kp [] W1 VA := (Kp.refl [] W1).drew.trans hkA1) | (go_at_call 10; (with_reducible refine (New_calls _ _ l m (hs3.keep (S := []) (by repeat (with_reducible first | assumption | apply Kp.refl | apply Kp.drew)) (by simp)) HWF.out).mono ?_); rintro x VB ⟨hkB1, -, hyes⟩; obtain ⟨b0, r0, q0, rfl, hM, hb0, hr0, hq0⟩ := hyes HN0.out; have hkB : Kp [] W1 VB := hkA.trans hkB1))
  have hbmB := hkB.heap hbm1 (by simp)
  obtain ⟨-, cbm, fbm, lbm⟩ := (Kp.refl [] VB).look hbmB (by simp)
  have hzA := hkA.size
  obtain ⟨W6, hW6, hk6, hB, hz6⟩ := new1 VB (.cells #[.slice AR l.length cR, .bool m, .slice none 0 0] 49)
  have HW6 := Lib.hid hW6
  have h6B := (hkB.trans hk6).heap h6 (by simp)
  have hAt : At w VB.heap.size AR cR l m (rulesOf (fun _ _ => none) l) b0 r0 q0 (fun _ _ => none) [] none 0 0 W6 :=
    ⟨hM.keep hk6 (by simp) (by simp) (by simp), hB, Row.nil _ _ _, Rep.nil, Nat.le_refl _, (HK1.out.trans hkB).trans hk6, by omega, by omega, by omega⟩
  have HAT := Lib.hid hAt
  generalize hF : rulesOf (fun _ _ => none) l = F at *
  have HFF := Lib.hid hF
  clear hF
  have hwB : w.heap.size < VB.heap.size := by have := hkB.size; omega
  rename_i hHeld
  clear hW6 hk6 hB hM hAt hyes hkB1 hkA1 hs3 hHeld hbmB
  go_wp2_with fail
  rw [← HW6.out]
  go_loopw [24] (fun i wr => ∃ (k : Nat) (C : Int → Int → Option Int) (ms : List I3) (AL : Option Addr) (cL : Nat), k ≤ a.length ∧ i = .int .i64 k ∧ Hid (At w VB.heap.size AR cR l m F b0 r0 q0 C ms AL cL k wr ∧ (∀ x ∈ ms, ofP m x.1 = x.1) ∧ wr.heap[w.heap.size]? = some (.cells #[.slice none 0 0, .bool false, .slice none 0 0] 49))) (fun i _ => a.length - (intOf i).toNat)
  case atStart => exact ⟨0, _, [], none, 0, Nat.zero_le _, rfl, Lib.hid ⟨HAT.out, by simp, h6B⟩⟩
  case round =>
    obtain ⟨k, C, ms, AL, cL, hk, rfl, HRR⟩ := hrel
    have HR := Lib.hid HRR.out.1
    have HI := Lib.hid HRR.out.2.1
    have HZ := Lib.hid HRR.out.2.2
    clear HRR
    by_cases hlt : k < a.length
    · obtain ⟨g, o, rfl, hcell⟩ := act_at (HA.out.old HR.out.kp (by simp)) k hlt
      obtain ⟨cA, cB, cC⟩ := hcell k hlt
      have hwx := hwa _ (List.getElem_mem hlt)
      clear hcell
      generalize a[k] = x at *
      obtain ⟨d, p, e⟩ := x
      obtain ⟨wA, wB, wC⟩ := hwx
      simp only at cA cB cC wA wB wC
      obtain ⟨W2, hW2, hk2, h11, hz2⟩ := new1 wr (.cells #[.int .u8 d, .int .i64 p, .int .i64 e] 34)
      have HW2 := Lib.hid hW2
      have HR1 := Lib.hid (HR.out.keep hk2)
      have hBr : VB.heap.size < wr.heap.size := blk_lt HR.out.doc
      have hbr := HR.out.mon.lt
      have hZ1 := hk2.heap HZ.out (by simp)
      clear hW2
      go_wp2_with fail
      rw [← HW2.out]
      refine (Decide_calls W2 b0 r0 q0 m F C _ k HR1.out.mon (by unfold maxLen; omega) p e wB wC).mono ?_
      rintro e6 w6 ⟨rfl, hM6, hk6⟩
      have hqB : VB.heap.size ≠ q0 := by rintro rfl; obtain ⟨es, cl, hm⟩ := HR1.out.mon.counts.isMap; rw [HR1.out.doc] at hm; simp at hm
      have hd6 := hk6.heap HR1.out.doc (by simpa using hqB)
      have h116 := hk6.heap h11 (by simp; omega)
      have hqZ : w.heap.size ≠ q0 := by rintro rfl; obtain ⟨es, cl, hm⟩ := HR1.out.mon.counts.isMap; rw [hZ1] at hm; simp at hm
      have hZ6 := hk6.heap hZ1 (by simpa using hqZ)
      have hrow6 : Row w6 72 3 (.slice AL ms.length cL) ms.length (cells3 ms) := by
        obtain ⟨es, cl, hm⟩ := HR1.out.mon.counts.isMap
        have hnr := HR1.out.row.neMap hm
        exact HR1.out.row.keep hk6 (fun x hx h => hnr (by simp at h; rw [← h]; exact hx))
      have hkw6 := HR1.out.kp.next hk6 (by simp; exact HR.out.hq)
      have hlen := HR.out.len
      have HRD := Lib.hid (rdecide_calls w6 (.slice AR l.length cR) (.slice AL ms.length cL) l ms m (HS.out.keep hkw6 (by simp)) hrow6 (by omega) (HR.out.rep.bnd0 (by omega)) p e)
      have HM6 := Lib.hid hM6
      have HKW6 := Lib.hid hkw6
      obtain ⟨-, c106, f106, l106⟩ := (Kp.refl [] w6).look hd6 (by simp)
      obtain ⟨-, c116, f116, l116⟩ := (Kp.refl [] w6).look h116 (by simp)
      clear hM6 hrow6 hkw6
      go_wp2_with fail
      refine HRD.out.mono ?_
      rintro e8 w8 ⟨vL', ms', hms', rfl, hrow8, hk8⟩
      obtain ⟨AL', cL', rfl⟩ := hrow8.shape
      have hl' : ms'.length ≤ k + 1 := by have h1 := step_len ms (ofP m p) e (knownB e); rw [← hms'] at h1; omega
      have hrep' : Rep (metB m C p e) ms' (k + 1) := by rw [hms']; exact HR.out.rep.step (by omega) m p e wB wC
      have hid' : ∀ x ∈ ms', ofP m x.1 = x.1 := by rw [hms']; exact bump_ofP m ms p e HI.out (knownB e)
      have hd8 := hk8.heap hd6 (by simp)
      have hZ8 := hk8.heap hZ6 (by simp)
      obtain ⟨-, c108, f108, l108⟩ := (Kp.refl [] w8).look hd8 (by simp)
      have hks := (((Kp.refl [VB.heap.size] w8).setCell (p := ⟨VB.heap.size, 0, none⟩) (.inl (by simp)) (.slice AR l.length cR)).setCell (p := ⟨VB.heap.size, 1, none⟩) (.inl (by simp)) (.bool m)).setCell (p := ⟨VB.heap.size, 2, none⟩) (.inl (by simp)) (.slice AL' ms'.length cL')
      obtain ⟨V1, hV1⟩ : ∃ V1, V1 = ((w8.setCell ⟨VB.heap.size, 0, none⟩ (.slice AR l.length cR)).setCell ⟨VB.heap.size, 1, none⟩ (.bool m)).setCell ⟨VB.heap.size, 2, none⟩ (.slice AL' ms'.length cL') := ⟨_, rfl⟩
      have HV1 := Lib.hid hV1
      rw [← hV1] at hks
      have hbB : b0 ≠ VB.heap.size := by rintro rfl; have := HR1.out.mon.blk; rw [HR1.out.doc] at this; simp at this
      have hrB : r0 ≠ VB.heap.size := by rintro rfl; obtain ⟨es, cl, hm⟩ := HR1.out.mon.rules.isMap; rw [HR1.out.doc] at hm; simp at hm
      have hdV : V1.heap[VB.heap.size]? = some (.cells #[.slice AR l.length cR, .bool m, .slice AL' ms'.length cL'] 49) := by
        rw [hV1]; simpa using blk_set (blk_set (blk_set hd8 0 (.slice AR l.length cR)) 1 (.bool m)) 2 (.slice AL' ms'.length cL')
      have HP : Hid (At w VB.heap.size AR cR l m F b0 r0 q0 (metB m C p e) ms' AL' cL' (k + 1) V1 ∧ (∀ x ∈ ms', ofP m x.1 = x.1) ∧ V1.heap[w.heap.size]? = some (.cells #[.slice none 0 0, .bool false, .slice none 0 0] 49)) := Lib.hid
        ⟨⟨(HM6.out.keep hk8 (by simp) (by simp) (by simp)).keep hks (by simpa using hbB) (by simpa using hrB) (by simpa using hqB.symm), hdV,
         hrow8.keep hks (fun x hx h => by simp at h; subst h; exact (hrow8.ne hd8 (by decide)) hx), hrep', hl', ((HKW6.out.trans hk8).next hks (by simp; omega)), HR.out.hb, HR.out.hr, HR.out.hq⟩, hid', hks.heap hZ8 (by simp; omega)⟩
      clear hV1 hks hrow8 hk8 hd6 h116 hd8 hms' hl' hrep' hdV hid'
      go_wp2
      rw [← HV1.out]
      go_roundw
      case rel => exact ⟨k + 1, _, _, _, _, by omega, by go_num, HP⟩
      case measure => simp [intOf]; omega
    · obtain rfl : k = a.length := by omega
      have hd := HR.out.doc
      have hZ := HZ.out
      obtain ⟨-, c9, f9, l9⟩ := (Kp.refl [] wr).look hd (by simp)
      obtain ⟨-, cz, fz, lz⟩ := (Kp.refl [] wr).look hZ (by simp)
      have hS2 : Hid (∀ V, Kp [w.heap.size] wr V → ∀ i, V.cell? ⟨VB.heap.size, i, none⟩ = #[.slice AR l.length cR, .bool m, .slice AL ms.length cL][i]?) := Lib.hid fun V hV => blk_cell (hV.heap hd (by simp; omega))
      go_wp2_with fail
      go_region
      have cF := blk_cell (blk_set (blk_set (blk_set hZ 0 (.slice AR l.length cR)) 1 (.bool m)) 2 (.slice AL ms.length cL))
      have hks := ((((Kp.refl [w.heap.size] wr).setCell (p := ⟨w.heap.size, 0, none⟩) (.inl (by simp)) (.slice AR l.length cR)).setCell (p := ⟨w.heap.size, 1, none⟩) (.inl (by simp)) (.bool m)).setCell (p := ⟨w.heap.size, 2, none⟩) (.inl (by simp)) (.slice AL ms.length cL)).drew
      have HKS := Lib.hid hks
      have hnr : w.heap.size ∉ (Value.slice AL ms.length cL).ownBlock := HR.out.row.ne hZ (by decide)
      have hbZ : b0 ≠ w.heap.size := by rintro rfl; have := HR.out.mon.blk; rw [hZ] at this; simp at this
      have hrZ : r0 ≠ w.heap.size := by rintro rfl; obtain ⟨es, cl, hm⟩ := HR.out.mon.rules.isMap; rw [hZ] at hm; simp at hm
      have hqZ : q0 ≠ w.heap.size := by rintro rfl; obtain ⟨es, cl, hm⟩ := HR.out.mon.counts.isMap; rw [hZ] at hm; simp at hm
      clear hks
      go_wp2
      refine bodyPost_ret (v := .tuple #[.pointer (some ⟨b0, 0, none⟩), .agg #[.slice AR l.length cR, .bool m, .slice AL ms.length cL]]) ?_ rfl
        ⟨b0, r0, q0, C, ms, AL, cL, rfl, by rw [HFF.out]; exact HR.out.mon.keep HKS.out (by simpa using hbZ) (by simpa using hrZ) (by simpa using hqZ), HR.out.row.keep HKS.out (fun x hx h => hnr (by simp at h; rw [← h]; exact hx)), HR.out.rep, HI.out, HR.out.kp.next HKS.out (by simp), HR.out.hb, HR.out.hr, HR.out.hq⟩
      simp [results, Try.results13, go_sem, cF]
end Go.Proofs.Ytlghbnoiakeibaa
