import Derived.Test.YtlghbnoiakeibaaE
import Derived.Test.YtlghbnoiakeibaaMp
set_option linter.unusedVariables false
set_option linter.unusedSimpArgs false
namespace Go.Proofs.Ytlghbnoiakeibaa
open Go.ChangeShapes Go.WideShapes Go.WideElems Go.WideMaps Go.Maps Go.RowKit
theorem inv75 : PairInv Try.prog 75 := key_inv Try.underlying75 (by kernel_rfl) ⟨by kernel_rfl, by kernel_rfl⟩ ⟨by kernel_rfl, by kernel_rfl⟩ Try.underlying27 Try.underlying3 ⟨102, by kernel_rfl⟩
theorem inv69 : PairInv Try.prog 69 := key_inv Try.underlying69 (by kernel_rfl) ⟨by kernel_rfl, by kernel_rfl⟩ ⟨by kernel_rfl, by kernel_rfl⟩ Try.underlying3 Try.underlying27 ⟨102, by kernel_rfl⟩
set_option maxHeartbeats 4000000
theorem equal27_owns (w : World) (b1 b2 n1 n2 : Nat) (D1 D2 : DataW Unit) (f1 f2 : Int → Int → Option Int) (h1 : w.ownsMap Try.prog 75 (plainElem Try.prog 3) b1 n1 D1) (h2 : w.ownsMap Try.prog 75 (plainElem Try.prog 3) b2 n2 D2) (g1 : Holds Try.prog 75 D1 f1) (g2 : Holds Try.prog 75 D2 f2) :
    Calls Try.prog 27 #[.map (some b1), .map (some b2)] w fun e w' => e = .returned (.bool (Lib.equalFuncD eqI D1 D2)) ∧ Kp [] w w' := by
  have K := Keyed.of_law rules.law
  have l1 := fun ty => h1.len (t := 61) rules.map ty
  have l2 := fun ty => h2.len (t := 61) rules.map ty
  obtain ⟨es1, rfl, hap, hkeys⟩ := h1.entries K
  have hb2 := h2.lt
  generalize hres : Lib.equalFuncD eqI (.map es1) D2 = res
  have RES := Lib.hid hres
  clear hres
  have HG1 := Lib.hid g1
  have HG2 := Lib.hid g2
  clear g1 g2
  by_cases hsz : Maps.size (.map es1 : DataW Unit) = Maps.size D2
  · go_enter Try.func27, Try.ntmps27
    go_wp2_with (at_range; refine wpList_range_own _ rfl _ 61 rfl 75 3 K rules.map (plainElem Try.prog 3) b1 n1 _ rfl h1 ?_; intro w0 hrg0 hg0 hs0)
    go_frame
    go_loopw [17] (fun _ wr => ∃ (left : Lit → Bool) (cnt : Nat), wr.ranges Try.prog 75 (plainElem Try.prog 3) b1 w.heap.size n1 (.map es1) left cnt ∧ wr.ownsMap Try.prog 75 (plainElem Try.prog 3) b2 n2 D2 ∧ w.grownBy wr none ∧ Hid (GoodAt eqI es1 D2 left))
      (fun _ wr => wr.rangeLeft b1 w.heap.size)
    case atStart => exact ⟨_, _, hrg0, h2.kept hg0 (by simp), hg0, Lib.hid (good_start hkeys D2)⟩
    case round =>
      obtain ⟨left, cnt, hrg, h2r, hgw, G⟩ := hrel
      go_wp2_with (at_next; refine wpList_next_ranges (α := Int × Int) (β := Int) _ rfl _ rfl 75 K (plainElem Try.prog 3) (fun p => .agg #[.int .i64 p.1, .int .i64 p.2]) (fun v => .int .i64 v) (fun key kl hk => (let ⟨x, y, e, _⟩ := inv75 key kl hk; ⟨(x, y), e⟩)) (fun v y hy => (let ⟨a, e, _⟩ := plainElem_int_inv Try.underlying3 hy; ⟨a, e⟩)) b1 w.heap.size n1 _ _ _ rfl hrg ?_ ?_)
      · intro _ hl0
        go_wp2
        go_ret
        exact ⟨by rw [← RES.out, all_good G.out hl0 hsz]; rfl, Kp.of_grown hgw⟩
      · intro x y c kl yd yp w1 cnt1 hkey hlx hv hat hrg1 hlt hg1 hs1 hen
        have hgw1 : w.grownBy w1 none := hgw.andThen hg1 (fun j hj => by cases hj; exact Or.inl (Nat.le_refl _))
        have h2w1 := h2r.kept hg1 (fun e => by have := Option.some.inj e; omega)
        have HAT : Hid (∀ zd, (DataW.map es1).atKey kl zd = yd) := Lib.hid hat
        clear hat
        have hyd : yd = .lit (.int .i64 c) := by
          obtain ⟨a, e1, e2, _⟩ := plainElem_int_inv Try.underlying3 hv
          simp only [Value.int.injEq, true_and] at e1
          subst e1
          simpa using congrArg Prod.fst e2
        obtain ⟨i, j, hij, hwx, hwy⟩ := inv75 _ _ hkey
        simp only [Value.agg.injEq, Array.mk.injEq, List.cons.injEq, Value.int.injEq, true_and, and_true] at hij
        obtain ⟨rfl, rfl⟩ := hij
        obtain ⟨a3, a4⟩ := HG2.out x y kl hkey
        have hm2 : MapAt Try.prog 75 3 w1 b2 n2 f2 := ⟨D2, h2w1, HG2.out⟩
        have hlk := (hm2.keep ((Kp.refl [] w1).alloc (.cells #[.int .i64 x, .int .i64 y] 75)) (by simp)).lookOk rules hwx hwy
        have HKE := Lib.hid hkey
        have hgw2 : Kp [] w (w1.alloc (.cells #[.int .i64 x, .int .i64 y] 75)) := (Kp.of_grown hgw1).alloc _
        clear hm2 hkey hv hlx
        cases hf : f2 x y with
        | none =>
          rw [hf] at hlk a3
          have hbad : Hid (Lib.goodD eqI D2 (kl, yd) = false) := Lib.hid (by unfold Lib.goodD; rw [a3]; rfl)
          clear a3 a4 hyd hf
          go_wp2
          go_ret
          exact ⟨by rw [← RES.out, bad_false hap hkeys HAT.out hbad.out]; rfl, hgw2⟩
        | some z =>
          rw [hf] at hlk a3 a4
          have hgd : Hid (Lib.goodD eqI D2 (kl, yd) = (c == z)) := Lib.hid (by unfold Lib.goodD; rw [a3, atKey_indep a3 .nil (.lit (.int .i64 0)), a4, hyd]; rfl)
          clear a3 a4 hyd hf
          by_cases hcz : c = z
          · subst hcz
            have HR := Lib.hid (good_step hap hkeys HAT.out G.out (by rw [hgd.out]; simp))
            have hrg2 := hrg1.alloc (.cells #[.int .i64 x, .int .i64 y] 75)
            have h2w2 := h2w1.kept (World.grownBy_alloc w1 (.cells #[.int .i64 x, .int .i64 y] 75) none) (by simp)
            have hgw3 := hgw1.andThen (World.grownBy_alloc w1 (.cells #[.int .i64 x, .int .i64 y] 75) none) (fun j hj => by cases hj)
            go_wp2
            go_roundw
            case rel => exact ⟨_, cnt1, hrg2, h2w2, hgw3, HR⟩
            case measure => rw [hrg2.left_eq, hrg.left_eq]; exact hlt
          · have hne : (c != z) = true := by simpa using hcz
            have hbad : Hid (Lib.goodD eqI D2 (kl, yd) = false) := Lib.hid (by rw [hgd.out]; simpa using hcz)
            clear hcz
            go_wp2
            go_ret
            exact ⟨by rw [← RES.out, bad_false hap hkeys HAT.out hbad.out]; rfl, hgw2⟩
  · have hne : ¬ ((Maps.size (.map es1 : DataW Unit) : Int) = (Maps.size D2 : Int)) := fun e => hsz (by exact_mod_cast e)
    go_enter Try.func27, Try.ntmps27
    go_wp2
    go_ret
    exact ⟨by rw [← RES.out, sizes_false hsz]; rfl, Kp.refl _ _⟩
theorem equal27_calls (w : World) (b1 b2 n1 n2 : Nat) (f1 f2 : Int → Int → Option Int) (h1 : MapAt Try.prog 75 3 w b1 n1 f1) (h2 : MapAt Try.prog 75 3 w b2 n2 f2) :
    Calls Try.prog 27 #[.map (some b1), .map (some b2)] w fun e w' => e = .returned (.bool (sameFB f1 f2)) ∧ Kp [] w w' := by
  obtain ⟨D1, o1, g1⟩ := h1
  obtain ⟨D2, o2, g2⟩ := h2
  have K := Keyed.of_law rules.law
  exact (equal27_owns w b1 b2 n1 n2 D1 D2 f1 f2 o1 o2 g1 g2).mono fun e w' ⟨he, hk⟩ => ⟨by rw [he, eqD_B rules inv75 (o1.canonK K) (o2.canonK K) g1 g2], hk⟩
theorem equal28_owns (w : World) (b1 b2 n1 n2 : Nat) (D1 D2 : DataW Unit) (f1 f2 : Int → Int → Option Int) (h1 : w.ownsMap Try.prog 69 (plainElem Try.prog 3) b1 n1 D1) (h2 : w.ownsMap Try.prog 69 (plainElem Try.prog 3) b2 n2 D2) (g1 : Holds Try.prog 69 D1 f1) (g2 : Holds Try.prog 69 D2 f2) :
    Calls Try.prog 28 #[.map (some b1), .map (some b2)] w fun e w' => e = .returned (.bool (Lib.equalFuncD eqI D1 D2)) ∧ Kp [] w w' := by
  have K := Keyed.of_law counts.law
  have l1 := fun ty => h1.len (t := 62) counts.map ty
  have l2 := fun ty => h2.len (t := 62) counts.map ty
  obtain ⟨es1, rfl, hap, hkeys⟩ := h1.entries K
  have hb2 := h2.lt
  generalize hres : Lib.equalFuncD eqI (.map es1) D2 = res
  have RES := Lib.hid hres
  clear hres
  have HG1 := Lib.hid g1
  have HG2 := Lib.hid g2
  clear g1 g2
  by_cases hsz : Maps.size (.map es1 : DataW Unit) = Maps.size D2
  · go_enter Try.func28, Try.ntmps28
    go_wp2_with (at_range; refine wpList_range_own _ rfl _ 62 rfl 69 3 K counts.map (plainElem Try.prog 3) b1 n1 _ rfl h1 ?_; intro w0 hrg0 hg0 hs0)
    go_frame
    go_loopw [17] (fun _ wr => ∃ (left : Lit → Bool) (cnt : Nat), wr.ranges Try.prog 69 (plainElem Try.prog 3) b1 w.heap.size n1 (.map es1) left cnt ∧ wr.ownsMap Try.prog 69 (plainElem Try.prog 3) b2 n2 D2 ∧ w.grownBy wr none ∧ Hid (GoodAt eqI es1 D2 left))
      (fun _ wr => wr.rangeLeft b1 w.heap.size)
    case atStart => exact ⟨_, _, hrg0, h2.kept hg0 (by simp), hg0, Lib.hid (good_start hkeys D2)⟩
    case round =>
      obtain ⟨left, cnt, hrg, h2r, hgw, G⟩ := hrel
      go_wp2_with (at_next; refine wpList_next_ranges (α := Int × Int) (β := Int) _ rfl _ rfl 69 K (plainElem Try.prog 3) (fun p => .agg #[.int .i64 p.1, .int .i64 p.2]) (fun v => .int .i64 v) (fun key kl hk => (let ⟨x, y, e, _⟩ := inv69 key kl hk; ⟨(x, y), e⟩)) (fun v y hy => (let ⟨a, e, _⟩ := plainElem_int_inv Try.underlying3 hy; ⟨a, e⟩)) b1 w.heap.size n1 _ _ _ rfl hrg ?_ ?_)
      · intro _ hl0
        go_wp2
        go_ret
        exact ⟨by rw [← RES.out, all_good G.out hl0 hsz]; rfl, Kp.of_grown hgw⟩
      · intro x y c kl yd yp w1 cnt1 hkey hlx hv hat hrg1 hlt hg1 hs1 hen
        have hgw1 : w.grownBy w1 none := hgw.andThen hg1 (fun j hj => by cases hj; exact Or.inl (Nat.le_refl _))
        have h2w1 := h2r.kept hg1 (fun e => by have := Option.some.inj e; omega)
        have HAT : Hid (∀ zd, (DataW.map es1).atKey kl zd = yd) := Lib.hid hat
        clear hat
        have hyd : yd = .lit (.int .i64 c) := by
          obtain ⟨a, e1, e2, _⟩ := plainElem_int_inv Try.underlying3 hv
          simp only [Value.int.injEq, true_and] at e1
          subst e1
          simpa using congrArg Prod.fst e2
        obtain ⟨i, j, hij, hwx, hwy⟩ := inv69 _ _ hkey
        simp only [Value.agg.injEq, Array.mk.injEq, List.cons.injEq, Value.int.injEq, true_and, and_true] at hij
        obtain ⟨rfl, rfl⟩ := hij
        obtain ⟨a3, a4⟩ := HG2.out x y kl hkey
        have hm2 : MapAt Try.prog 69 3 w1 b2 n2 f2 := ⟨D2, h2w1, HG2.out⟩
        have hlk := (hm2.keep ((Kp.refl [] w1).alloc (.cells #[.int .i64 x, .int .i64 y] 69)) (by simp)).lookOk counts hwx hwy
        have HKE := Lib.hid hkey
        have hgw2 : Kp [] w (w1.alloc (.cells #[.int .i64 x, .int .i64 y] 69)) := (Kp.of_grown hgw1).alloc _
        clear hm2 hkey hv hlx
        cases hf : f2 x y with
        | none =>
          rw [hf] at hlk a3
          have hbad : Hid (Lib.goodD eqI D2 (kl, yd) = false) := Lib.hid (by unfold Lib.goodD; rw [a3]; rfl)
          clear a3 a4 hyd hf
          go_wp2
          go_ret
          exact ⟨by rw [← RES.out, bad_false hap hkeys HAT.out hbad.out]; rfl, hgw2⟩
        | some z =>
          rw [hf] at hlk a3 a4
          have hgd : Hid (Lib.goodD eqI D2 (kl, yd) = (c == z)) := Lib.hid (by unfold Lib.goodD; rw [a3, atKey_indep a3 .nil (.lit (.int .i64 0)), a4, hyd]; rfl)
          clear a3 a4 hyd hf
          by_cases hcz : c = z
          · subst hcz
            have HR := Lib.hid (good_step hap hkeys HAT.out G.out (by rw [hgd.out]; simp))
            have hrg2 := hrg1.alloc (.cells #[.int .i64 x, .int .i64 y] 69)
            have h2w2 := h2w1.kept (World.grownBy_alloc w1 (.cells #[.int .i64 x, .int .i64 y] 69) none) (by simp)
            have hgw3 := hgw1.andThen (World.grownBy_alloc w1 (.cells #[.int .i64 x, .int .i64 y] 69) none) (fun j hj => by cases hj)
            go_wp2
            go_roundw
            case rel => exact ⟨_, cnt1, hrg2, h2w2, hgw3, HR⟩
            case measure => rw [hrg2.left_eq, hrg.left_eq]; exact hlt
          · have hne : (c != z) = true := by simpa using hcz
            have hbad : Hid (Lib.goodD eqI D2 (kl, yd) = false) := Lib.hid (by rw [hgd.out]; simpa using hcz)
            clear hcz
            go_wp2
            go_ret
            exact ⟨by rw [← RES.out, bad_false hap hkeys HAT.out hbad.out]; rfl, hgw2⟩
  · have hne : ¬ ((Maps.size (.map es1 : DataW Unit) : Int) = (Maps.size D2 : Int)) := fun e => hsz (by exact_mod_cast e)
    go_enter Try.func28, Try.ntmps28
    go_wp2
    go_ret
    exact ⟨by rw [← RES.out, sizes_false hsz]; rfl, Kp.refl _ _⟩
theorem equal28_calls (w : World) (b1 b2 n1 n2 : Nat) (f1 f2 : Int → Int → Option Int) (h1 : MapAt Try.prog 69 3 w b1 n1 f1) (h2 : MapAt Try.prog 69 3 w b2 n2 f2) :
    Calls Try.prog 28 #[.map (some b1), .map (some b2)] w fun e w' => e = .returned (.bool (sameFB f1 f2)) ∧ Kp [] w w' := by
  obtain ⟨D1, o1, g1⟩ := h1
  obtain ⟨D2, o2, g2⟩ := h2
  have K := Keyed.of_law counts.law
  exact (equal28_owns w b1 b2 n1 n2 D1 D2 f1 f2 o1 o2 g1 g2).mono fun e w' ⟨he, hk⟩ => ⟨by rw [he, eqD_B counts inv69 (o1.canonK K) (o2.canonK K) g1 g2], hk⟩
end Go.Proofs.Ytlghbnoiakeibaa
