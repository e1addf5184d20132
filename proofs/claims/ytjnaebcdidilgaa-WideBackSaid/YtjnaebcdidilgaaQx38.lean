/- Functions of the program as Lean functions, and their walks: printed by print.py as this session changed it (mkprint.py). Lean checks it. No condition. -/
import Derived.Test.YtjnaebcdidilgaaQx0
import Derived.Test.YtjnaebcdidilgaaQx1
import Derived.Test.YtjnaebcdidilgaaQx3
import Derived.Test.YtjnaebcdidilgaaQx7
import Derived.Test.YtjnaebcdidilgaaQx11
import Derived.Test.YtjnaebcdidilgaaQx13
import Derived.Test.YtjnaebcdidilgaaQx28
import Derived.Test.YtjnaebcdidilgaaQx33
namespace Go.Proofs.Ytjnaebcdidilgaa.Q
open Go.RowKit Go.Proofs.YtjnaebcdidilgaaW.PrintWords Go.Proofs.YtjnaebcdidilgaaW.PrintLast Go.Proofs.YtjnaebcdidilgaaW.PrintMore
attribute [local go_sem] max2_int min2_int max_two min_two max_three min_three max_four min_four   -- for this text's walks alone
attribute [local go_sem] Instr.field asAgg
set_option linter.unusedVariables false
set_option linter.unusedSimpArgs false

attribute [local go_sem high] eqA24
/-! ### lorgnettelaw01_WideBack: function 6 -/
def lorgnettelaw01_WideBack.f (k : Nat) (a0_0 : Int) (a0_1 : Int) (a1_0 : Int) (a1_1 : Int) : Option (Bool) := (lorgnettelaw01_awake.f k).bind fun t682 => (if t682 = true then ((wide_Print.f k a0_0 a0_1).bind fun t683 => (if (t683.size : Int) < 1 then (none) else ((wide_Print.f k a1_0 a1_1).bind fun t684 => (if ((t683.toList == t684.toList) != (a0_0 == a1_0 && (a0_1 == a1_1))) = true then (none) else (if 0 < (t683.size : Int) then (if (bt t683 0) = 45 then ((wide_Neg.f a0_0 a0_1).bind fun bt685 => (if bt685.2.2 = 0 then ((wide_Print.f k bt685.1 bt685.2.1).bind fun t689 => (if 1 ≤ (t683.size : Int) then (some (t689.toList == (t683.extract 1 t683.size).toList)) else (none))) else ((wide_Of.f 0).bind fun bt690 => ((wide_Cmp.f a0_0 a0_1 bt690.1 bt690.2).bind fun t692 => (some (decide (t692 < 0))))))) else ((wide_Parse.f k t683).bind fun bt693 => (if (bt693.1 == a0_0 && (bt693.2.1 == a0_1)) = true then (some (bt693.2.2 == 0)) else (none)))) else (none)))))) else (none))
theorem lorgnettelaw01_WideBack.mono : ∀ a0 a1 a2 a3 k, LeO (lorgnettelaw01_WideBack.f k a0 a1 a2 a3) (lorgnettelaw01_WideBack.f (k + 1) a0 a1 a2 a3) := by
  intro a0 a1 a2 a3 k
  unfold lorgnettelaw01_WideBack.f
  repeat' first
      | (with_reducible exact lorgnettelaw01_awake.mono _)
      | (with_reducible exact wide_Parse.mono _ _)
      | (with_reducible exact wide_Print.mono _ _ _)
      | (with_reducible exact LeO.refl _)
      | (with_reducible exact LeO.none _)
      | (with_reducible refine LeO.ite ?_ ?_)
      | (with_reducible refine LeO.bind ?_ (fun _ => ?_))
      | exact lorgnettelaw01_awake.mono _
      | exact wide_Parse.mono _ _
      | exact wide_Print.mono _ _ _
      | exact LeO.none _
      | refine LeO.ite ?_ ?_
      | refine LeO.bind ?_ (fun _ => ?_)
def lorgnettelaw01_WideBack.T4 : Bool × List (List Nat × List Nat) := (true, [([], []), ([0], [0]), ([1], [1]), ([2], [2]), ([3], [3]), ([3], [3]), ([5, 3, 3], [3, 5]), ([4, 6, 3], [3, 4, 6]), ([3], [3]), ([3], [3]), ([8, 9, 3], [3, 8, 9]), ([7, 10, 3], [3, 7, 10]), ([3, 11], [3, 11])])
def lorgnettelaw01_WideBack.B4 : List Nat := [0, 1, 3, 7, 15, 15, 47, 127, 15, 15, 783, 2047, 4095]
theorem lorgnettelaw01_WideBack.tab4 : rtab .any (opsOf Try.f6 4) = lorgnettelaw01_WideBack.T4 := by kernel_rfl
theorem lorgnettelaw01_WideBack.bits4 : waitsOk lorgnettelaw01_WideBack.T4.2 lorgnettelaw01_WideBack.B4 = true := by kernel_rfl
set_option maxHeartbeats 8000000 in
set_option maxRecDepth 100000 in
theorem lorgnettelaw01_WideBack.calls (k : Nat) (a0_0 : Int) (a0_1 : Int) (a1_0 : Int) (a1_1 : Int) (r : Bool) (w : World) (h : lorgnettelaw01_WideBack.f k a0_0 a0_1 a1_0 a1_1 = some r) :
    Calls Try.prog 6 #[.agg #[.int .u64 a0_0, .int .u64 a0_1], .agg #[.int .u64 a1_0, .int .u64 a1_1]] w fun e w' => e = .returned (.bool r) ∧ Below w.heap.size w w' := by
  have hu24 := Try.underlying24
  have HB := Aside0.mk (Below.refl w.heap.size w)
  have H : ((lorgnettelaw01_awake.f k).bind fun t682 => (if t682 = true then ((wide_Print.f k a0_0 a0_1).bind fun t683 => (if (t683.size : Int) < 1 then (none) else ((wide_Print.f k a1_0 a1_1).bind fun t684 => (if ((t683.toList == t684.toList) != (a0_0 == a1_0 && (a0_1 == a1_1))) = true then (none) else (if 0 < (t683.size : Int) then (if (bt t683 0) = 45 then ((wide_Neg.f a0_0 a0_1).bind fun bt685 => (if bt685.2.2 = 0 then ((wide_Print.f k bt685.1 bt685.2.1).bind fun t689 => (if 1 ≤ (t683.size : Int) then (some (t689.toList == (t683.extract 1 t683.size).toList)) else (none))) else ((wide_Of.f 0).bind fun bt690 => ((wide_Cmp.f a0_0 a0_1 bt690.1 bt690.2).bind fun t692 => (some (decide (t692 < 0))))))) else ((wide_Parse.f k t683).bind fun bt693 => (if (bt693.1 == a0_0 && (bt693.2.1 == a0_1)) = true then (some (bt693.2.2 == 0)) else (none)))) else (none)))))) else (none))) = some r := h
  clear h
  replace H := Option.bind_eq_some_iff.mp H
  obtain ⟨t682, A30, H⟩ := H
  replace H : (if t682 = true then ((wide_Print.f k a0_0 a0_1).bind fun t683 => (if (t683.size : Int) < 1 then (none) else ((wide_Print.f k a1_0 a1_1).bind fun t684 => (if ((t683.toList == t684.toList) != (a0_0 == a1_0 && (a0_1 == a1_1))) = true then (none) else (if 0 < (t683.size : Int) then (if (bt t683 0) = 45 then ((wide_Neg.f a0_0 a0_1).bind fun bt685 => (if bt685.2.2 = 0 then ((wide_Print.f k bt685.1 bt685.2.1).bind fun t689 => (if 1 ≤ (t683.size : Int) then (some (t689.toList == (t683.extract 1 t683.size).toList)) else (none))) else ((wide_Of.f 0).bind fun bt690 => ((wide_Cmp.f a0_0 a0_1 bt690.1 bt690.2).bind fun t692 => (some (decide (t692 < 0))))))) else ((wide_Parse.f k t683).bind fun bt693 => (if (bt693.1 == a0_0 && (bt693.2.1 == a0_1)) = true then (some (bt693.2.2 == 0)) else (none)))) else (none)))))) else (none)) = some r := H
  have A3 := Aside0.mk A30
  clear A30
  by_cases c4 : t682 = true
  · subst c4
    have H1 : ((wide_Print.f k a0_0 a0_1).bind fun t683 => (if (t683.size : Int) < 1 then (none) else ((wide_Print.f k a1_0 a1_1).bind fun t684 => (if ((t683.toList == t684.toList) != (a0_0 == a1_0 && (a0_1 == a1_1))) = true then (none) else (if 0 < (t683.size : Int) then (if (bt t683 0) = 45 then ((wide_Neg.f a0_0 a0_1).bind fun bt685 => (if bt685.2.2 = 0 then ((wide_Print.f k bt685.1 bt685.2.1).bind fun t689 => (if 1 ≤ (t683.size : Int) then (some (t689.toList == (t683.extract 1 t683.size).toList)) else (none))) else ((wide_Of.f 0).bind fun bt690 => ((wide_Cmp.f a0_0 a0_1 bt690.1 bt690.2).bind fun t692 => (some (decide (t692 < 0))))))) else ((wide_Parse.f k t683).bind fun bt693 => (if (bt693.1 == a0_0 && (bt693.2.1 == a0_1)) = true then (some (bt693.2.2 == 0)) else (none)))) else (none)))))) = some r := by rw [if_pos rfl] at H; exact H
    clear H
    have H := H1
    clear H1
    replace H := Option.bind_eq_some_iff.mp H
    obtain ⟨t683, A50, H⟩ := H
    replace H : (if (t683.size : Int) < 1 then (none) else ((wide_Print.f k a1_0 a1_1).bind fun t684 => (if ((t683.toList == t684.toList) != (a0_0 == a1_0 && (a0_1 == a1_1))) = true then (none) else (if 0 < (t683.size : Int) then (if (bt t683 0) = 45 then ((wide_Neg.f a0_0 a0_1).bind fun bt685 => (if bt685.2.2 = 0 then ((wide_Print.f k bt685.1 bt685.2.1).bind fun t689 => (if 1 ≤ (t683.size : Int) then (some (t689.toList == (t683.extract 1 t683.size).toList)) else (none))) else ((wide_Of.f 0).bind fun bt690 => ((wide_Cmp.f a0_0 a0_1 bt690.1 bt690.2).bind fun t692 => (some (decide (t692 < 0))))))) else ((wide_Parse.f k t683).bind fun bt693 => (if (bt693.1 == a0_0 && (bt693.2.1 == a0_1)) = true then (some (bt693.2.2 == 0)) else (none)))) else (none))))) = some r := H
    have A5 := Aside0.mk A50
    clear A50
    by_cases c6 : (t683.size : Int) < 1
    · rw [if_pos c6] at H
      exact absurd H (by simp)
    · rw [if_neg c6] at H
      have c6b0 : decide ((t683.size : Int) < 1) = false := decide_eq_false c6
      have c6b1 : decide (t683.size < 1) = false := decide_eq_false (by omega)
      clear c6
      replace H := Option.bind_eq_some_iff.mp H
      obtain ⟨t684, A70, H⟩ := H
      replace H : (if ((t683.toList == t684.toList) != (a0_0 == a1_0 && (a0_1 == a1_1))) = true then (none) else (if 0 < (t683.size : Int) then (if (bt t683 0) = 45 then ((wide_Neg.f a0_0 a0_1).bind fun bt685 => (if bt685.2.2 = 0 then ((wide_Print.f k bt685.1 bt685.2.1).bind fun t689 => (if 1 ≤ (t683.size : Int) then (some (t689.toList == (t683.extract 1 t683.size).toList)) else (none))) else ((wide_Of.f 0).bind fun bt690 => ((wide_Cmp.f a0_0 a0_1 bt690.1 bt690.2).bind fun t692 => (some (decide (t692 < 0))))))) else ((wide_Parse.f k t683).bind fun bt693 => (if (bt693.1 == a0_0 && (bt693.2.1 == a0_1)) = true then (some (bt693.2.2 == 0)) else (none)))) else (none))) = some r := H
      have A7 := Aside0.mk A70
      clear A70
      by_cases c8 : ((t683.toList == t684.toList) != (a0_0 == a1_0 && (a0_1 == a1_1))) = true
      · rw [if_pos c8] at H
        exact absurd H (by simp)
      · rw [if_neg c8] at H
        have c8b0 : ((t683.toList == t684.toList) != (a0_0 == a1_0 && (a0_1 == a1_1))) = false := by simpa using c8
        (try (have c8b1 : decide ((t683.toList == t684.toList) = (a0_0 == a1_0 && (a0_1 == a1_1))) = true := by simpa using c8))
        (try (have c8b2 : ((t683.toList == t684.toList) == (a0_0 == a1_0 && (a0_1 == a1_1))) = true := by simpa using c8))
        clear c8
        by_cases c9 : 0 < (t683.size : Int)
        · rw [if_pos c9] at H
          have c9b0 : decide (0 < (t683.size : Int)) = true := decide_eq_true c9
          have c9b1 : decide (0 < t683.size) = true := decide_eq_true (by omega)
          clear c9
          by_cases c11 : (bt t683 0) = 45
          · rw [if_pos c11] at H
            have c11b0 : ((bt t683 0) == 45) = true := beq_iff_eq.mpr c11
            have c11b1 : ((bt t683 0) != 45) = false := bne_eq_false_iff_eq.mpr c11
            clear c11
            replace H := Option.bind_eq_some_iff.mp H
            obtain ⟨⟨t685, t686, t687⟩, A120, H⟩ := H
            replace H : (if t687 = 0 then ((wide_Print.f k t685 t686).bind fun t689 => (if 1 ≤ (t683.size : Int) then (some (t689.toList == (t683.extract 1 t683.size).toList)) else (none))) else ((wide_Of.f 0).bind fun bt690 => ((wide_Cmp.f a0_0 a0_1 bt690.1 bt690.2).bind fun t692 => (some (decide (t692 < 0)))))) = some r := H
            have A12 := Aside0.mk A120
            clear A120
            by_cases c13 : t687 = 0
            · rw [if_pos c13] at H
              have c13b0 : (t687 == 0) = true := beq_iff_eq.mpr c13
              have c13b1 : (t687 != 0) = false := bne_eq_false_iff_eq.mpr c13
              clear c13
              replace H := Option.bind_eq_some_iff.mp H
              obtain ⟨t689, A140, H⟩ := H
              replace H : (if 1 ≤ (t683.size : Int) then (some (t689.toList == (t683.extract 1 t683.size).toList)) else (none)) = some r := H
              have A14 := Aside0.mk A140
              clear A140
              by_cases c15 : 1 ≤ (t683.size : Int)
              · rw [if_pos c15] at H
                have c15b0 := eq_true c15
                have c15b1 : decide (1 ≤ (t683.size : Int)) = true := decide_eq_true c15
                clear c15
                obtain rfl := Option.some.inj H
                go_enter Try.func6, Try.ntmps6
                try go_wp2_with (first | ((with_reducible refine gate_dst (N := 2) rfl ?_); refine box_event ?hg (N := 2) ?hd (cs := #[.int .u64 a0_0, .int .u64 a0_1]) (t := 24) ?hr ?_; (case hd => rfl); (case hg => rfl); (case hr => first | (go_simp; done) | (go_simp; rfl)); intro gb680 hg w16 hbox hb; have n0_ := Aside0.mk (below_step (bL HB) hb); have n1_ := Aside0.mk (hbox); have n2_ := Aside0.mk ((by rw [hg]; exact (below_size (bL HB)) : w.heap.size ≤ gb680)); have n3_ := Aside0.mk ((by rw [hg]; exact (below_size (bL HB)) : w.heap.size ≤ gb680)); clear HB; have HB := n0_; have BK680 := n1_; have GW680 := n2_; have GE680 := n3_; clear n0_ n1_ n2_ n3_; clear hb hbox hg) | ((with_reducible refine gate_dst (N := 3) rfl ?_); refine box_event ?hg (N := 3) ?hd (cs := #[.int .u64 a1_0, .int .u64 a1_1]) (t := 24) ?hr ?_; (case hd => rfl); (case hg => rfl); (case hr => first | (go_simp; done) | (go_simp; rfl)); intro gb681 hg w17 hbox hb; have n0_ := blkB BK680 hb; have n1_ := Aside0.mk (below_step (bL HB) hb); have n2_ := Aside0.mk (hbox); have n3_ := Aside0.mk ((by rw [hg]; exact (below_size (bL HB)) : w.heap.size ≤ gb681)); have n4_ := Aside0.mk ((by rw [hg]; exact (below_size (bL HB)) : w.heap.size ≤ gb681)); have n5_ := blkL BK680 hg; have n6_ := blkG BK680 hg; clear BK680 HB; have BK680 := n0_; have HB := n1_; have BK681 := n2_; have GW681 := n3_; have GE681 := n4_; have NB680_681 := n5_; have NB681_680 := n6_; clear n0_ n1_ n2_ n3_ n4_ n5_ n6_; clear hb hbox hg) | ((with_reducible refine gate_callee (f := 8) rfl ?_); refine goesL_ (some 10) rfl rfl Try.func8 (by kernel_rfl) rfl #[] rfl (by (try simp only [List.map_toArray, List.map_cons, List.map_nil]); first | done | rfl | (simp only [List.length_drop, List.length_take]; rfl) | (go_simp; simp only [u8_w, w64_u8]; done) | (go_simp; simp only [u8_w, w64_u8]; rfl)) ?_; (with_reducible refine (lorgnettelaw01_awake.calls k  true _ A3.out).mono ?_); rintro e w18 ⟨rfl, hb⟩; refine ⟨_, rfl, ?_⟩; have n0_ := blkB BK680 hb; have n1_ := blkB BK681 hb; have n2_ := Aside0.mk (below_step (bL HB) hb); clear BK680 BK681 HB; have BK680 := n0_; have BK681 := n1_; have HB := n2_; clear n0_ n1_ n2_; (try clear hb); (try clear hb2); (try clear hk); (try clear hi); have hnb19 := NB680_681.out; have hnc19 := NB681_680.out; have hcz20_0 : w18.cell? ⟨gb680, 0, none⟩ = some (.int .u64 a0_0) := (blk_cell BK680.out 0).trans rfl; have hcz20_1 : w18.cell? ⟨gb680, 1, none⟩ = some (.int .u64 a0_1) := (blk_cell BK680.out 1).trans rfl; have hfz20_0 := blk_frozen BK680.out 0; have hfz20_1 := blk_frozen BK680.out 1) | ((with_reducible refine gate_callee (f := 16) rfl ?_); refine goesL_ (some 13) rfl rfl Try.func16 (by kernel_rfl) rfl #[.agg #[.int .u64 a0_0, .int .u64 a0_1]] rfl (by (try simp only [List.map_toArray, List.map_cons, List.map_nil]); first | done | rfl | (simp only [List.length_drop, List.length_take]; rfl) | (go_simp; simp only [u8_w, w64_u8]; done) | (go_simp; simp only [u8_w, w64_u8]; rfl)) ?_; (with_reducible refine (wide_Print.calls k a0_0 a0_1 t683 _ A5.out).mono ?_); rintro e w21 ⟨rfl, hb⟩; refine ⟨_, rfl, ?_⟩; have n0_ := blkB BK680 hb; have n1_ := blkB BK681 hb; have n2_ := Aside0.mk (below_step (bL HB) hb); clear BK680 BK681 HB; have BK680 := n0_; have BK681 := n1_; have HB := n2_; clear n0_ n1_ n2_; (try clear hb); (try clear hb2); (try clear hk); (try clear hi)))
                have n0_ := Aside0.mk (blk_drew BK680.out)
                have n1_ := Aside0.mk (blk_drew BK681.out)
                have n2_ := Aside0.mk (below_drew1 HB.out)
                clear BK680
                clear BK681
                clear HB
                have BK680 := n0_
                have BK681 := n1_
                have HB := n2_
                clear n0_ n1_ n2_
                refine start_ (n := 13) (S := fun w' => w'.cell? ⟨gb681, 0, none⟩ = some (.int .u64 a1_0) ∧ w'.cell? ⟨gb681, 1, none⟩ = some (.int .u64 a1_1) ∧ w'.cell? ⟨gb680, 0, none⟩ = some (.int .u64 a0_0) ∧ w'.cell? ⟨gb680, 1, none⟩ = some (.int .u64 a0_1)) (ds := []) #[false, false, false, false, false, false, false, false, false, false, false, false, false] (by kernel_rfl) rfl rfl ⟨(blk_cell BK681.out 0).trans rfl, (blk_cell BK681.out 1).trans rfl, (blk_cell BK680.out 0).trans rfl, (blk_cell BK680.out 1).trans rfl⟩ (fun hHeld => ?_); refine with_tabW lorgnettelaw01_WideBack.tab4 lorgnettelaw01_WideBack.bits4 (fun HT_ HW_ => ?_)
                generalize w21.drew = w22 at BK680 BK681 HB hHeld ⊢
                refine pure_ (i := 0) (N := some 14) (v := ?_) (a' := ?_) #[true, false, false, false, false, false, false, false, false, false, false, false, false] rfl rfl (any_of HT_.out (by kernel_rfl)) (fun _ _ _ h => h) (Or.inl ⟨by rfl, ?_⟩) ?_ ?_
                rotate_left
                · intro w'
                  go_simp
                  with_reducible rfl
                rotate_left
                · simp only [Act.put, List.setIfInBounds_toArray, List.set_cons_zero, List.set_cons_succ, i64_w, i32_w]
                  rfl
                refine pure_ (i := 1) (N := some 15) (v := ?_) (a' := ?_) #[true, true, false, false, false, false, false, false, false, false, false, false, false] rfl rfl (any_of HT_.out (by kernel_rfl)) (fun _ _ _ h => h) (Or.inl ⟨by rfl, ?_⟩) ?_ ?_
                rotate_left
                · intro w'
                  go_simp
                  with_reducible rfl
                rotate_left
                · simp only [Act.put, List.setIfInBounds_toArray, List.set_cons_zero, List.set_cons_succ, i64_w, i32_w]
                  rfl
                refine pure_ (i := 2) (N := some 16) (v := ?_) (a' := ?_) #[true, true, true, false, false, false, false, false, false, false, false, false, false] rfl rfl (any_of HT_.out (by kernel_rfl)) (fun _ _ _ h => h) (Or.inl ⟨by rfl, ?_⟩) ?_ ?_
                rotate_left
                · intro w'
                  go_simp
                  with_reducible rfl
                rotate_left
                · simp only [Act.put, List.setIfInBounds_toArray, List.set_cons_zero, List.set_cons_succ, i64_w, i32_w]
                  rfl
                refine pure_ (i := 3) (N := some 17) (v := ?_) (a' := ?_) #[true, true, true, true, false, false, false, false, false, false, false, false, false] rfl rfl (any_of HT_.out (by kernel_rfl)) (fun _ _ _ h => h) (Or.inl ⟨by rfl, ?_⟩) ?_ ?_
                rotate_left
                · intro w'
                  go_simp
                  with_reducible rfl
                rotate_left
                · simp only [Act.put, List.setIfInBounds_toArray, List.set_cons_zero, List.set_cons_succ, i64_w, i32_w]
                  rfl
                refine pure_ (i := 4) (N := some 18) (v := ?_) (a' := ?_) #[true, true, true, true, true, false, false, false, false, false, false, false, false] rfl rfl (any_of HT_.out (by kernel_rfl)) (fun _ _ _ h => h) (Or.inl ⟨by rfl, ?_⟩) ?_ ?_
                rotate_left
                · intro w'
                  go_simp
                  with_reducible rfl
                rotate_left
                · simp only [Act.put, List.setIfInBounds_toArray, List.set_cons_zero, List.set_cons_succ, i64_w, i32_w]
                  rfl
                refine take_ (i := 5) (N := some 19) (v := ?_) (a' := ?_) #[true, true, true, true, true, true, false, false, false, false, false, false, false] rfl rfl (take_ofW HT_.out HW_.out (by kernel_rfl)) (fun _ _ _ h => h) (Or.inl ⟨by rfl, ?_⟩) hHeld ?_ ?_
                rotate_left
                · rintro w' ⟨s0, s1, s2, s3⟩
                  go_simp
                  with_reducible rfl
                rotate_left
                · simp only [Act.put, List.setIfInBounds_toArray, List.set_cons_zero, List.set_cons_succ, i64_w, i32_w]
                  rfl
                refine take_ (i := 8) (N := some 22) (v := ?_) (a' := ?_) #[true, true, true, true, true, true, false, false, true, false, false, false, false] rfl rfl (take_ofW HT_.out HW_.out (by kernel_rfl)) (fun _ _ _ h => h) (Or.inl ⟨by rfl, ?_⟩) hHeld ?_ ?_
                rotate_left
                · rintro w' ⟨s0, s1, s2, s3⟩
                  go_simp
                  with_reducible rfl
                rotate_left
                · simp only [Act.put, List.setIfInBounds_toArray, List.set_cons_zero, List.set_cons_succ, i64_w, i32_w]
                  rfl
                refine take_ (i := 9) (N := some 23) (v := ?_) (a' := ?_) #[true, true, true, true, true, true, false, false, true, true, false, false, false] rfl rfl (take_ofW HT_.out HW_.out (by kernel_rfl)) (fun _ _ _ h => h) (Or.inl ⟨by rfl, ?_⟩) hHeld ?_ ?_
                rotate_left
                · rintro w' ⟨s0, s1, s2, s3⟩
                  go_simp
                  with_reducible rfl
                rotate_left
                · simp only [Act.put, List.setIfInBounds_toArray, List.set_cons_zero, List.set_cons_succ, i64_w, i32_w]
                  rfl
                refine pure_ (i := 10) (N := some 24) (v := ?_) (a' := ?_) #[true, true, true, true, true, true, false, false, true, true, true, false, false] rfl rfl (any_of HT_.out (by kernel_rfl)) (fun _ _ _ h => h) (Or.inl ⟨by rfl, ?_⟩) ?_ ?_
                rotate_left
                · intro w'
                  go_simp
                  with_reducible rfl
                rotate_left
                · simp only [Act.put, List.setIfInBounds_toArray, List.set_cons_zero, List.set_cons_succ, i64_w, i32_w]
                  rfl
                refine one_ (i := 6) (N := some 20) #[true, true, true, true, true, true, true, false, true, true, true, false, false] rfl rfl (one_of HT_.out (by kernel_rfl)) (by decide) (fun K hK => ?_)
                refine goes_ Try.func16 (by kernel_rfl) rfl #[.agg #[.int .u64 a1_0, .int .u64 a1_1]] (by rfl) rfl rfl (by (try simp only [List.map_toArray, List.map_cons, List.map_nil]); first | done | rfl | (simp only [List.length_drop, List.length_take]; rfl) | (go_simp; simp only [u8_w, w64_u8]; done) | (go_simp; simp only [u8_w, w64_u8]; rfl)) ?_
                with_reducible refine (wide_Print.calls k a1_0 a1_1 t684 _ A7.out).mono ?_
                rintro e w23 ⟨rfl, hb⟩
                refine ⟨_, rfl, ?_⟩
                have n0_ := blkB BK680 hb
                have n1_ := blkB BK681 hb
                have n2_ := Aside0.mk (below_step (bL HB) hb)
                clear BK680
                clear BK681
                clear HB
                have BK680 := n0_
                have BK681 := n1_
                have HB := n2_
                clear n0_ n1_ n2_
                (try clear hb)
                (try clear hb2)
                (try clear hk)
                (try clear hi)
                refine hK.out _ _ ⟨(blk_cell BK681.out 0).trans rfl, (blk_cell BK681.out 1).trans rfl, (blk_cell BK680.out 0).trans rfl, (blk_cell BK680.out 1).trans rfl⟩ (fun hHeld => ?_)
                clear hK K
                refine norm_ (a' := ?_) ?_ ?_
                rotate_left
                · show Act.put _ (some 20) _ = _
                  simp only [Act.put, List.setIfInBounds_toArray, List.set_cons_zero, List.set_cons_succ, i64_w, i32_w]
                  rfl
                refine pure_ (i := 7) (N := some 21) (v := ?_) (a' := ?_) #[true, true, true, true, true, true, true, true, true, true, true, false, false] rfl rfl (any_of HT_.out (by kernel_rfl)) (fun _ _ _ h => h) (Or.inl ⟨by rfl, ?_⟩) ?_ ?_
                rotate_left
                · intro w'
                  go_simp
                  with_reducible rfl
                rotate_left
                · simp only [Act.put, List.setIfInBounds_toArray, List.set_cons_zero, List.set_cons_succ, i64_w, i32_w]
                  rfl
                refine pure_ (i := 11) (N := some 25) (v := ?_) (a' := ?_) #[true, true, true, true, true, true, true, true, true, true, true, true, false] rfl rfl (any_of HT_.out (by kernel_rfl)) (fun _ _ _ h => h) (Or.inl ⟨by rfl, ?_⟩) ?_ ?_
                rotate_left
                · intro w'
                  go_simp
                  with_reducible rfl
                rotate_left
                · simp only [Act.put, List.setIfInBounds_toArray, List.set_cons_zero, List.set_cons_succ, i64_w, i32_w]
                  rfl
                refine pure_ (i := 12) (N := some 26) (v := ?_) (a' := ?_) #[true, true, true, true, true, true, true, true, true, true, true, true, true] rfl rfl (any_of HT_.out (by kernel_rfl)) (fun _ _ _ h => h) (Or.inl ⟨by rfl, ?_⟩) ?_ ?_
                rotate_left
                · intro w'
                  go_simp
                  with_reducible rfl
                rotate_left
                · simp only [Act.put, List.setIfInBounds_toArray, List.set_cons_zero, List.set_cons_succ, i64_w, i32_w]
                  rfl
                refine done_ (done_of HT_.out (by kernel_rfl)) ?_
                have p10 : 0 ≤ (0 : Int) := (by omega)
                have q10 : 0 < t683.size := (by have : (0 : Int) < (t683.size : Int) := of_decide_eq_true (by first | (with_reducible assumption) | assumption); omega)
                have hx10 : ∀ h : 0 < t683.size, ((t683[0]'h).toNat : Int) = bt t683 0 := bt_at t683 0
                clear p10
                have qi10 : (0 < (t683.size : Int)) = True := eq_true (of_decide_eq_true (by first | (with_reducible assumption) | assumption))
                replace q10 := eq_true q10
                have hcz24_0 : w23.cell? ⟨gb680, 0, none⟩ = some (.int .u64 a0_0) := (blk_cell BK680.out 0).trans rfl
                have hcz24_1 : w23.cell? ⟨gb680, 1, none⟩ = some (.int .u64 a0_1) := (blk_cell BK680.out 1).trans rfl
                have hfz24_0 := blk_frozen BK680.out 0
                have hfz24_1 := blk_frozen BK680.out 1
                try go_wp2_with (first | ((with_reducible refine gate_callee (f := 21) rfl ?_); refine goesL_ (some 32) rfl rfl Try.func21 (by kernel_rfl) rfl #[.agg #[.int .u64 a0_0, .int .u64 a0_1]] rfl (by (try simp only [List.map_toArray, List.map_cons, List.map_nil]); first | done | rfl | (simp only [List.length_drop, List.length_take]; rfl) | (go_simp; simp only [u8_w, w64_u8]; done) | (go_simp; simp only [u8_w, w64_u8]; rfl)) ?_; (with_reducible refine (wide_Neg.calls a0_0 a0_1 t685 t686 t687 _ A12.out).mono ?_); rintro e w25 ⟨rfl, hb⟩; refine ⟨_, rfl, ?_⟩; have n0_ := blkB BK680 hb; have n1_ := blkB BK681 hb; have n2_ := Aside0.mk (below_step (bL HB) hb); clear BK680 BK681 HB; have BK680 := n0_; have BK681 := n1_; have HB := n2_; clear n0_ n1_ n2_; (try clear hb); (try clear hb2); (try clear hk); (try clear hi)) | ((with_reducible refine gate_dst (N := 6) rfl ?_); refine box_event ?hg (N := 6) ?hd (cs := #[.int .u64 0, .int .u64 0]) (t := 24) ?hr ?_; (case hd => rfl); (case hg => rfl); (case hr => first | (go_simp; done) | (go_simp; rfl)); intro gb688 hg w26 hbox hb; have n0_ := blkB BK680 hb; have n1_ := blkB BK681 hb; have n2_ := Aside0.mk (below_step (bL HB) hb); have n3_ := Aside0.mk (hbox); have n4_ := Aside0.mk ((by rw [hg]; exact (below_size (bL HB)) : w.heap.size ≤ gb688)); have n5_ := Aside0.mk ((by rw [hg]; exact (below_size (bL HB)) : w.heap.size ≤ gb688)); have n6_ := blkL BK680 hg; have n7_ := blkG BK680 hg; have n8_ := blkL BK681 hg; have n9_ := blkG BK681 hg; clear BK680 BK681 HB; have BK680 := n0_; have BK681 := n1_; have HB := n2_; have BK688 := n3_; have GW688 := n4_; have GE688 := n5_; have NB680_688 := n6_; have NB688_680 := n7_; have NB681_688 := n8_; have NB688_681 := n9_; clear n0_ n1_ n2_ n3_ n4_ n5_ n6_ n7_ n8_ n9_; clear hb hbox hg; have hnb27 := NB688_680.out; have hnc27 := NB680_688.out; have hnb28 := NB688_681.out; have hnc28 := NB681_688.out; have hcz29_0 : w26.cell? ⟨gb688, 0, none⟩ = some (.int .u64 0) := (blk_cell BK688.out 0).trans rfl; have hcz29_1 : w26.cell? ⟨gb688, 1, none⟩ = some (.int .u64 0) := (blk_cell BK688.out 1).trans rfl; have hfz29_0 := blk_frozen BK688.out 0; have hfz29_1 := blk_frozen BK688.out 1))
                have n0_ : Aside0 (((w26.setCell ⟨gb688, 0, none⟩ (.int .u64 t685)).setCell ⟨gb688, 1, none⟩ (.int .u64 t686)).heap[gb680]? = some (.cells #[.int .u64 a0_0, .int .u64 a0_1] 24 (0, 0))) := ⟨by (with_reducible repeat (first | refine blk_drewN ?_ _ | refine blk_drew ?_ | refine blk_alloc ?_ _)); refine blk_far ?_ NB680_688.out _; (with_reducible repeat (first | refine blk_drewN ?_ _ | refine blk_drew ?_ | refine blk_alloc ?_ _)); refine blk_far ?_ NB680_688.out _; (with_reducible repeat (first | refine blk_drewN ?_ _ | refine blk_drew ?_ | refine blk_alloc ?_ _)); exact BK680.out⟩
                have n1_ : Aside0 (((w26.setCell ⟨gb688, 0, none⟩ (.int .u64 t685)).setCell ⟨gb688, 1, none⟩ (.int .u64 t686)).heap[gb681]? = some (.cells #[.int .u64 a1_0, .int .u64 a1_1] 24 (0, 0))) := ⟨by (with_reducible repeat (first | refine blk_drewN ?_ _ | refine blk_drew ?_ | refine blk_alloc ?_ _)); refine blk_far ?_ NB681_688.out _; (with_reducible repeat (first | refine blk_drewN ?_ _ | refine blk_drew ?_ | refine blk_alloc ?_ _)); refine blk_far ?_ NB681_688.out _; (with_reducible repeat (first | refine blk_drewN ?_ _ | refine blk_drew ?_ | refine blk_alloc ?_ _)); exact BK681.out⟩
                have n2_ : Aside0 (((w26.setCell ⟨gb688, 0, none⟩ (.int .u64 t685)).setCell ⟨gb688, 1, none⟩ (.int .u64 t686)).heap[gb688]? = some (.cells #[.int .u64 t685, .int .u64 t686] 24 (0, 0))) := ⟨by (with_reducible repeat (first | refine blk_drewN ?_ _ | refine blk_drew ?_ | refine blk_alloc ?_ _)); refine blk_put (cs := #[.int .u64 t685, .int .u64 0]) ?_ 1 _ rfl; (with_reducible repeat (first | refine blk_drewN ?_ _ | refine blk_drew ?_ | refine blk_alloc ?_ _)); refine blk_put (cs := #[.int .u64 0, .int .u64 0]) ?_ 0 _ rfl; (with_reducible repeat (first | refine blk_drewN ?_ _ | refine blk_drew ?_ | refine blk_alloc ?_ _)); exact BK688.out⟩
                have n3_ : Aside0 (Below w.heap.size w ((w26.setCell ⟨gb688, 0, none⟩ (.int .u64 t685)).setCell ⟨gb688, 1, none⟩ (.int .u64 t686))) := ⟨by repeat (first | (with_reducible first | exact HB.out | apply below_alloc | apply pw_below_drewN | apply below_drew1 | refine below_set ?_ GE680.out | refine below_set ?_ GE681.out | refine below_set ?_ GE688.out) | exact HB.out)⟩
                (try clear BK680)
                (try clear BK681)
                (try clear BK688)
                (try clear HB)
                generalize ((w26.setCell ⟨gb688, 0, none⟩ (.int .u64 t685)).setCell ⟨gb688, 1, none⟩ (.int .u64 t686)) = w30 at n0_ n1_ n2_ n3_ ⊢
                have BK680 := n0_
                have BK681 := n1_
                have BK688 := n2_
                have HB := n3_
                clear n0_ n1_ n2_ n3_
                have n0_ := Aside0.mk (blk_drew BK680.out)
                have n1_ := Aside0.mk (blk_drew BK681.out)
                have n2_ := Aside0.mk (blk_drew BK688.out)
                have n3_ := Aside0.mk (below_drew1 HB.out)
                clear BK680
                clear BK681
                clear BK688
                clear HB
                have BK680 := n0_
                have BK681 := n1_
                have BK688 := n2_
                have HB := n3_
                clear n0_ n1_ n2_ n3_
                refine start_ (n := 6) (S := fun w' => w'.cell? ⟨gb688, 0, none⟩ = some (.int .u64 t685) ∧ w'.cell? ⟨gb688, 1, none⟩ = some (.int .u64 t686)) (ds := []) #[false, false, false, false, false, false] (by kernel_rfl) rfl rfl ⟨(blk_cell BK688.out 0).trans rfl, (blk_cell BK688.out 1).trans rfl⟩ (fun hHeld => ?_)
                generalize w30.drew = w31 at BK680 BK681 BK688 HB hHeld ⊢
                refine pure_ (i := 2) (N := some 43) (v := ?_) (a' := ?_) #[false, false, true, false, false, false] rfl rfl (by kernel_rfl) (fun _ _ _ h => h) (Or.inl ⟨by rfl, ?_⟩) ?_ ?_
                rotate_left
                · intro w'
                  go_simp
                  with_reducible rfl
                rotate_left
                · simp only [Act.put, List.setIfInBounds_toArray, List.set_cons_zero, List.set_cons_succ, i64_w, i32_w]
                  rfl
                refine pure_ (i := 3) (N := some 44) (v := ?_) (a' := ?_) #[false, false, true, true, false, false] rfl rfl (by kernel_rfl) (fun _ _ _ h => h) (Or.inl ⟨by rfl, ?_⟩) ?_ ?_
                rotate_left
                · intro w'
                  go_simp
                  with_reducible rfl
                rotate_left
                · simp only [Act.put, List.setIfInBounds_toArray, List.set_cons_zero, List.set_cons_succ, i64_w, i32_w]
                  rfl
                refine take_ (i := 0) (N := some 41) (v := ?_) (a' := ?_) #[true, false, true, true, false, false] rfl rfl (by kernel_rfl) (fun _ _ _ h => h) (Or.inl ⟨by rfl, ?_⟩) hHeld ?_ ?_
                rotate_left
                · rintro w' ⟨s0, s1⟩
                  go_simp
                  with_reducible rfl
                rotate_left
                · simp only [Act.put, List.setIfInBounds_toArray, List.set_cons_zero, List.set_cons_succ, i64_w, i32_w]
                  rfl
                refine one_ (i := 1) (N := some 42) #[true, true, true, true, false, false] rfl rfl (by kernel_rfl) (by decide) (fun K hK => ?_)
                refine goes_ Try.func16 (by kernel_rfl) rfl #[.agg #[.int .u64 t685, .int .u64 t686]] (by rfl) rfl rfl (by (try simp only [List.map_toArray, List.map_cons, List.map_nil]); first | done | rfl | (simp only [List.length_drop, List.length_take]; rfl) | (go_simp; simp only [u8_w, w64_u8]; done) | (go_simp; simp only [u8_w, w64_u8]; rfl)) ?_
                with_reducible refine (wide_Print.calls k t685 t686 t689 _ A14.out).mono ?_
                rintro e w32 ⟨rfl, hb⟩
                refine ⟨_, rfl, ?_⟩
                have n0_ := blkB BK680 hb
                have n1_ := blkB BK681 hb
                have n2_ := blkB BK688 hb
                have n3_ := Aside0.mk (below_step (bL HB) hb)
                clear BK680
                clear BK681
                clear BK688
                clear HB
                have BK680 := n0_
                have BK681 := n1_
                have BK688 := n2_
                have HB := n3_
                clear n0_ n1_ n2_ n3_
                (try clear hb)
                (try clear hb2)
                (try clear hk)
                (try clear hi)
                refine hK.out _ _ ⟨(blk_cell BK688.out 0).trans rfl, (blk_cell BK688.out 1).trans rfl⟩ (fun hHeld => ?_)
                clear hK K
                refine norm_ (a' := ?_) ?_ ?_
                rotate_left
                · show Act.put _ (some 42) _ = _
                  simp only [Act.put, List.setIfInBounds_toArray, List.set_cons_zero, List.set_cons_succ, i64_w, i32_w]
                  rfl
                refine pure_ (i := 4) (N := some 45) (v := ?_) (a' := ?_) #[true, true, true, true, true, false] rfl rfl (by kernel_rfl) (fun _ _ _ h => h) (Or.inl ⟨by rfl, ?_⟩) ?_ ?_
                rotate_left
                · intro w'
                  go_simp
                  with_reducible rfl
                rotate_left
                · simp only [Act.put, List.setIfInBounds_toArray, List.set_cons_zero, List.set_cons_succ, i64_w, i32_w]
                  rfl
                refine pure_ (i := 5) (N := some 4) (v := ?_) (a' := ?_) #[true, true, true, true, true, true] rfl rfl (by kernel_rfl) (fun _ _ _ h => h) (Or.inl ⟨by rfl, ?_⟩) ?_ ?_
                rotate_left
                · intro w'
                  go_simp
                  with_reducible rfl
                rotate_left
                · simp only [Act.put, List.setIfInBounds_toArray, List.set_cons_zero, List.set_cons_succ, i64_w, i32_w]
                  rfl
                refine done_ (by kernel_rfl) ?_
                try go_wp2
                go_ret
                exact ⟨by first | rfl | (simp [errW_none, errW_some] <;> rfl) | (simp [*, errW_none, errW_some] <;> rfl), by repeat (first | (with_reducible first | exact HB.out | apply below_alloc | apply pw_below_drewN | apply below_drew1 | refine below_set ?_ GE680.out | refine below_set ?_ GE681.out | refine below_set ?_ GE688.out) | exact HB.out)⟩
              · rw [if_neg c15] at H
                exact absurd H (by simp)
            · rw [if_neg c13] at H
              have c13b0 : (t687 == 0) = false := beq_eq_false_iff_ne.mpr c13
              have c13b1 : (t687 != 0) = true := bne_iff_ne.mpr c13
              replace H := Option.bind_eq_some_iff.mp H
              obtain ⟨⟨t690, t691⟩, A330, H⟩ := H
              replace H : ((wide_Cmp.f a0_0 a0_1 t690 t691).bind fun t692 => (some (decide (t692 < 0)))) = some r := H
              have A33 := Aside0.mk A330
              clear A330
              replace H := Option.bind_eq_some_iff.mp H
              obtain ⟨t692, A340, H⟩ := H
              replace H : (some (decide (t692 < 0))) = some r := H
              have A34 := Aside0.mk A340
              clear A340
              obtain rfl := Option.some.inj H
              go_enter Try.func6, Try.ntmps6
              try go_wp2_with (first | ((with_reducible refine gate_dst (N := 2) rfl ?_); refine box_event ?hg (N := 2) ?hd (cs := #[.int .u64 a0_0, .int .u64 a0_1]) (t := 24) ?hr ?_; (case hd => rfl); (case hg => rfl); (case hr => first | (go_simp; done) | (go_simp; rfl)); intro gb680 hg w35 hbox hb; have n0_ := Aside0.mk (below_step (bL HB) hb); have n1_ := Aside0.mk (hbox); have n2_ := Aside0.mk ((by rw [hg]; exact (below_size (bL HB)) : w.heap.size ≤ gb680)); have n3_ := Aside0.mk ((by rw [hg]; exact (below_size (bL HB)) : w.heap.size ≤ gb680)); clear HB; have HB := n0_; have BK680 := n1_; have GW680 := n2_; have GE680 := n3_; clear n0_ n1_ n2_ n3_; clear hb hbox hg) | ((with_reducible refine gate_dst (N := 3) rfl ?_); refine box_event ?hg (N := 3) ?hd (cs := #[.int .u64 a1_0, .int .u64 a1_1]) (t := 24) ?hr ?_; (case hd => rfl); (case hg => rfl); (case hr => first | (go_simp; done) | (go_simp; rfl)); intro gb681 hg w36 hbox hb; have n0_ := blkB BK680 hb; have n1_ := Aside0.mk (below_step (bL HB) hb); have n2_ := Aside0.mk (hbox); have n3_ := Aside0.mk ((by rw [hg]; exact (below_size (bL HB)) : w.heap.size ≤ gb681)); have n4_ := Aside0.mk ((by rw [hg]; exact (below_size (bL HB)) : w.heap.size ≤ gb681)); have n5_ := blkL BK680 hg; have n6_ := blkG BK680 hg; clear BK680 HB; have BK680 := n0_; have HB := n1_; have BK681 := n2_; have GW681 := n3_; have GE681 := n4_; have NB680_681 := n5_; have NB681_680 := n6_; clear n0_ n1_ n2_ n3_ n4_ n5_ n6_; clear hb hbox hg) | ((with_reducible refine gate_callee (f := 8) rfl ?_); refine goesL_ (some 10) rfl rfl Try.func8 (by kernel_rfl) rfl #[] rfl (by (try simp only [List.map_toArray, List.map_cons, List.map_nil]); first | done | rfl | (simp only [List.length_drop, List.length_take]; rfl) | (go_simp; simp only [u8_w, w64_u8]; done) | (go_simp; simp only [u8_w, w64_u8]; rfl)) ?_; (with_reducible refine (lorgnettelaw01_awake.calls k  true _ A3.out).mono ?_); rintro e w37 ⟨rfl, hb⟩; refine ⟨_, rfl, ?_⟩; have n0_ := blkB BK680 hb; have n1_ := blkB BK681 hb; have n2_ := Aside0.mk (below_step (bL HB) hb); clear BK680 BK681 HB; have BK680 := n0_; have BK681 := n1_; have HB := n2_; clear n0_ n1_ n2_; (try clear hb); (try clear hb2); (try clear hk); (try clear hi); have hnb38 := NB680_681.out; have hnc38 := NB681_680.out; have hcz39_0 : w37.cell? ⟨gb680, 0, none⟩ = some (.int .u64 a0_0) := (blk_cell BK680.out 0).trans rfl; have hcz39_1 : w37.cell? ⟨gb680, 1, none⟩ = some (.int .u64 a0_1) := (blk_cell BK680.out 1).trans rfl; have hfz39_0 := blk_frozen BK680.out 0; have hfz39_1 := blk_frozen BK680.out 1) | ((with_reducible refine gate_callee (f := 16) rfl ?_); refine goesL_ (some 13) rfl rfl Try.func16 (by kernel_rfl) rfl #[.agg #[.int .u64 a0_0, .int .u64 a0_1]] rfl (by (try simp only [List.map_toArray, List.map_cons, List.map_nil]); first | done | rfl | (simp only [List.length_drop, List.length_take]; rfl) | (go_simp; simp only [u8_w, w64_u8]; done) | (go_simp; simp only [u8_w, w64_u8]; rfl)) ?_; (with_reducible refine (wide_Print.calls k a0_0 a0_1 t683 _ A5.out).mono ?_); rintro e w40 ⟨rfl, hb⟩; refine ⟨_, rfl, ?_⟩; have n0_ := blkB BK680 hb; have n1_ := blkB BK681 hb; have n2_ := Aside0.mk (below_step (bL HB) hb); clear BK680 BK681 HB; have BK680 := n0_; have BK681 := n1_; have HB := n2_; clear n0_ n1_ n2_; (try clear hb); (try clear hb2); (try clear hk); (try clear hi)))
              have n0_ := Aside0.mk (blk_drew BK680.out)
              have n1_ := Aside0.mk (blk_drew BK681.out)
              have n2_ := Aside0.mk (below_drew1 HB.out)
              clear BK680
              clear BK681
              clear HB
              have BK680 := n0_
              have BK681 := n1_
              have HB := n2_
              clear n0_ n1_ n2_
              refine start_ (n := 13) (S := fun w' => w'.cell? ⟨gb681, 0, none⟩ = some (.int .u64 a1_0) ∧ w'.cell? ⟨gb681, 1, none⟩ = some (.int .u64 a1_1) ∧ w'.cell? ⟨gb680, 0, none⟩ = some (.int .u64 a0_0) ∧ w'.cell? ⟨gb680, 1, none⟩ = some (.int .u64 a0_1)) (ds := []) #[false, false, false, false, false, false, false, false, false, false, false, false, false] (by kernel_rfl) rfl rfl ⟨(blk_cell BK681.out 0).trans rfl, (blk_cell BK681.out 1).trans rfl, (blk_cell BK680.out 0).trans rfl, (blk_cell BK680.out 1).trans rfl⟩ (fun hHeld => ?_); refine with_tabW lorgnettelaw01_WideBack.tab4 lorgnettelaw01_WideBack.bits4 (fun HT_ HW_ => ?_)
              generalize w40.drew = w41 at BK680 BK681 HB hHeld ⊢
              refine pure_ (i := 0) (N := some 14) (v := ?_) (a' := ?_) #[true, false, false, false, false, false, false, false, false, false, false, false, false] rfl rfl (any_of HT_.out (by kernel_rfl)) (fun _ _ _ h => h) (Or.inl ⟨by rfl, ?_⟩) ?_ ?_
              rotate_left
              · intro w'
                go_simp
                with_reducible rfl
              rotate_left
              · simp only [Act.put, List.setIfInBounds_toArray, List.set_cons_zero, List.set_cons_succ, i64_w, i32_w]
                rfl
              refine pure_ (i := 1) (N := some 15) (v := ?_) (a' := ?_) #[true, true, false, false, false, false, false, false, false, false, false, false, false] rfl rfl (any_of HT_.out (by kernel_rfl)) (fun _ _ _ h => h) (Or.inl ⟨by rfl, ?_⟩) ?_ ?_
              rotate_left
              · intro w'
                go_simp
                with_reducible rfl
              rotate_left
              · simp only [Act.put, List.setIfInBounds_toArray, List.set_cons_zero, List.set_cons_succ, i64_w, i32_w]
                rfl
              refine pure_ (i := 2) (N := some 16) (v := ?_) (a' := ?_) #[true, true, true, false, false, false, false, false, false, false, false, false, false] rfl rfl (any_of HT_.out (by kernel_rfl)) (fun _ _ _ h => h) (Or.inl ⟨by rfl, ?_⟩) ?_ ?_
              rotate_left
              · intro w'
                go_simp
                with_reducible rfl
              rotate_left
              · simp only [Act.put, List.setIfInBounds_toArray, List.set_cons_zero, List.set_cons_succ, i64_w, i32_w]
                rfl
              refine pure_ (i := 3) (N := some 17) (v := ?_) (a' := ?_) #[true, true, true, true, false, false, false, false, false, false, false, false, false] rfl rfl (any_of HT_.out (by kernel_rfl)) (fun _ _ _ h => h) (Or.inl ⟨by rfl, ?_⟩) ?_ ?_
              rotate_left
              · intro w'
                go_simp
                with_reducible rfl
              rotate_left
              · simp only [Act.put, List.setIfInBounds_toArray, List.set_cons_zero, List.set_cons_succ, i64_w, i32_w]
                rfl
              refine pure_ (i := 4) (N := some 18) (v := ?_) (a' := ?_) #[true, true, true, true, true, false, false, false, false, false, false, false, false] rfl rfl (any_of HT_.out (by kernel_rfl)) (fun _ _ _ h => h) (Or.inl ⟨by rfl, ?_⟩) ?_ ?_
              rotate_left
              · intro w'
                go_simp
                with_reducible rfl
              rotate_left
              · simp only [Act.put, List.setIfInBounds_toArray, List.set_cons_zero, List.set_cons_succ, i64_w, i32_w]
                rfl
              refine take_ (i := 5) (N := some 19) (v := ?_) (a' := ?_) #[true, true, true, true, true, true, false, false, false, false, false, false, false] rfl rfl (take_ofW HT_.out HW_.out (by kernel_rfl)) (fun _ _ _ h => h) (Or.inl ⟨by rfl, ?_⟩) hHeld ?_ ?_
              rotate_left
              · rintro w' ⟨s0, s1, s2, s3⟩
                go_simp
                with_reducible rfl
              rotate_left
              · simp only [Act.put, List.setIfInBounds_toArray, List.set_cons_zero, List.set_cons_succ, i64_w, i32_w]
                rfl
              refine take_ (i := 8) (N := some 22) (v := ?_) (a' := ?_) #[true, true, true, true, true, true, false, false, true, false, false, false, false] rfl rfl (take_ofW HT_.out HW_.out (by kernel_rfl)) (fun _ _ _ h => h) (Or.inl ⟨by rfl, ?_⟩) hHeld ?_ ?_
              rotate_left
              · rintro w' ⟨s0, s1, s2, s3⟩
                go_simp
                with_reducible rfl
              rotate_left
              · simp only [Act.put, List.setIfInBounds_toArray, List.set_cons_zero, List.set_cons_succ, i64_w, i32_w]
                rfl
              refine take_ (i := 9) (N := some 23) (v := ?_) (a' := ?_) #[true, true, true, true, true, true, false, false, true, true, false, false, false] rfl rfl (take_ofW HT_.out HW_.out (by kernel_rfl)) (fun _ _ _ h => h) (Or.inl ⟨by rfl, ?_⟩) hHeld ?_ ?_
              rotate_left
              · rintro w' ⟨s0, s1, s2, s3⟩
                go_simp
                with_reducible rfl
              rotate_left
              · simp only [Act.put, List.setIfInBounds_toArray, List.set_cons_zero, List.set_cons_succ, i64_w, i32_w]
                rfl
              refine pure_ (i := 10) (N := some 24) (v := ?_) (a' := ?_) #[true, true, true, true, true, true, false, false, true, true, true, false, false] rfl rfl (any_of HT_.out (by kernel_rfl)) (fun _ _ _ h => h) (Or.inl ⟨by rfl, ?_⟩) ?_ ?_
              rotate_left
              · intro w'
                go_simp
                with_reducible rfl
              rotate_left
              · simp only [Act.put, List.setIfInBounds_toArray, List.set_cons_zero, List.set_cons_succ, i64_w, i32_w]
                rfl
              refine one_ (i := 6) (N := some 20) #[true, true, true, true, true, true, true, false, true, true, true, false, false] rfl rfl (one_of HT_.out (by kernel_rfl)) (by decide) (fun K hK => ?_)
              refine goes_ Try.func16 (by kernel_rfl) rfl #[.agg #[.int .u64 a1_0, .int .u64 a1_1]] (by rfl) rfl rfl (by (try simp only [List.map_toArray, List.map_cons, List.map_nil]); first | done | rfl | (simp only [List.length_drop, List.length_take]; rfl) | (go_simp; simp only [u8_w, w64_u8]; done) | (go_simp; simp only [u8_w, w64_u8]; rfl)) ?_
              with_reducible refine (wide_Print.calls k a1_0 a1_1 t684 _ A7.out).mono ?_
              rintro e w42 ⟨rfl, hb⟩
              refine ⟨_, rfl, ?_⟩
              have n0_ := blkB BK680 hb
              have n1_ := blkB BK681 hb
              have n2_ := Aside0.mk (below_step (bL HB) hb)
              clear BK680
              clear BK681
              clear HB
              have BK680 := n0_
              have BK681 := n1_
              have HB := n2_
              clear n0_ n1_ n2_
              (try clear hb)
              (try clear hb2)
              (try clear hk)
              (try clear hi)
              refine hK.out _ _ ⟨(blk_cell BK681.out 0).trans rfl, (blk_cell BK681.out 1).trans rfl, (blk_cell BK680.out 0).trans rfl, (blk_cell BK680.out 1).trans rfl⟩ (fun hHeld => ?_)
              clear hK K
              refine norm_ (a' := ?_) ?_ ?_
              rotate_left
              · show Act.put _ (some 20) _ = _
                simp only [Act.put, List.setIfInBounds_toArray, List.set_cons_zero, List.set_cons_succ, i64_w, i32_w]
                rfl
              refine pure_ (i := 7) (N := some 21) (v := ?_) (a' := ?_) #[true, true, true, true, true, true, true, true, true, true, true, false, false] rfl rfl (any_of HT_.out (by kernel_rfl)) (fun _ _ _ h => h) (Or.inl ⟨by rfl, ?_⟩) ?_ ?_
              rotate_left
              · intro w'
                go_simp
                with_reducible rfl
              rotate_left
              · simp only [Act.put, List.setIfInBounds_toArray, List.set_cons_zero, List.set_cons_succ, i64_w, i32_w]
                rfl
              refine pure_ (i := 11) (N := some 25) (v := ?_) (a' := ?_) #[true, true, true, true, true, true, true, true, true, true, true, true, false] rfl rfl (any_of HT_.out (by kernel_rfl)) (fun _ _ _ h => h) (Or.inl ⟨by rfl, ?_⟩) ?_ ?_
              rotate_left
              · intro w'
                go_simp
                with_reducible rfl
              rotate_left
              · simp only [Act.put, List.setIfInBounds_toArray, List.set_cons_zero, List.set_cons_succ, i64_w, i32_w]
                rfl
              refine pure_ (i := 12) (N := some 26) (v := ?_) (a' := ?_) #[true, true, true, true, true, true, true, true, true, true, true, true, true] rfl rfl (any_of HT_.out (by kernel_rfl)) (fun _ _ _ h => h) (Or.inl ⟨by rfl, ?_⟩) ?_ ?_
              rotate_left
              · intro w'
                go_simp
                with_reducible rfl
              rotate_left
              · simp only [Act.put, List.setIfInBounds_toArray, List.set_cons_zero, List.set_cons_succ, i64_w, i32_w]
                rfl
              refine done_ (done_of HT_.out (by kernel_rfl)) ?_
              have p10 : 0 ≤ (0 : Int) := (by omega)
              have q10 : 0 < t683.size := (by have : (0 : Int) < (t683.size : Int) := of_decide_eq_true (by first | (with_reducible assumption) | assumption); omega)
              have hx10 : ∀ h : 0 < t683.size, ((t683[0]'h).toNat : Int) = bt t683 0 := bt_at t683 0
              clear p10
              have qi10 : (0 < (t683.size : Int)) = True := eq_true (of_decide_eq_true (by first | (with_reducible assumption) | assumption))
              replace q10 := eq_true q10
              have hcz43_0 : w42.cell? ⟨gb680, 0, none⟩ = some (.int .u64 a0_0) := (blk_cell BK680.out 0).trans rfl
              have hcz43_1 : w42.cell? ⟨gb680, 1, none⟩ = some (.int .u64 a0_1) := (blk_cell BK680.out 1).trans rfl
              have hfz43_0 := blk_frozen BK680.out 0
              have hfz43_1 := blk_frozen BK680.out 1
              try go_wp2_with (first | ((with_reducible refine gate_callee (f := 21) rfl ?_); refine goesL_ (some 32) rfl rfl Try.func21 (by kernel_rfl) rfl #[.agg #[.int .u64 a0_0, .int .u64 a0_1]] rfl (by (try simp only [List.map_toArray, List.map_cons, List.map_nil]); first | done | rfl | (simp only [List.length_drop, List.length_take]; rfl) | (go_simp; simp only [u8_w, w64_u8]; done) | (go_simp; simp only [u8_w, w64_u8]; rfl)) ?_; (with_reducible refine (wide_Neg.calls a0_0 a0_1 t685 t686 t687 _ A12.out).mono ?_); rintro e w44 ⟨rfl, hb⟩; refine ⟨_, rfl, ?_⟩; have n0_ := blkB BK680 hb; have n1_ := blkB BK681 hb; have n2_ := Aside0.mk (below_step (bL HB) hb); clear BK680 BK681 HB; have BK680 := n0_; have BK681 := n1_; have HB := n2_; clear n0_ n1_ n2_; (try clear hb); (try clear hb2); (try clear hk); (try clear hi)) | ((with_reducible refine gate_dst (N := 6) rfl ?_); refine box_event ?hg (N := 6) ?hd (cs := #[.int .u64 0, .int .u64 0]) (t := 24) ?hr ?_; (case hd => rfl); (case hg => rfl); (case hr => first | (go_simp; done) | (go_simp; rfl)); intro gb688 hg w45 hbox hb; have n0_ := blkB BK680 hb; have n1_ := blkB BK681 hb; have n2_ := Aside0.mk (below_step (bL HB) hb); have n3_ := Aside0.mk (hbox); have n4_ := Aside0.mk ((by rw [hg]; exact (below_size (bL HB)) : w.heap.size ≤ gb688)); have n5_ := Aside0.mk ((by rw [hg]; exact (below_size (bL HB)) : w.heap.size ≤ gb688)); have n6_ := blkL BK680 hg; have n7_ := blkG BK680 hg; have n8_ := blkL BK681 hg; have n9_ := blkG BK681 hg; clear BK680 BK681 HB; have BK680 := n0_; have BK681 := n1_; have HB := n2_; have BK688 := n3_; have GW688 := n4_; have GE688 := n5_; have NB680_688 := n6_; have NB688_680 := n7_; have NB681_688 := n8_; have NB688_681 := n9_; clear n0_ n1_ n2_ n3_ n4_ n5_ n6_ n7_ n8_ n9_; clear hb hbox hg; have hnb46 := NB688_680.out; have hnc46 := NB680_688.out; have hnb47 := NB688_681.out; have hnc47 := NB681_688.out; have hcz48_0 : w45.cell? ⟨gb688, 0, none⟩ = some (.int .u64 0) := (blk_cell BK688.out 0).trans rfl; have hcz48_1 : w45.cell? ⟨gb688, 1, none⟩ = some (.int .u64 0) := (blk_cell BK688.out 1).trans rfl; have hfz48_0 := blk_frozen BK688.out 0; have hfz48_1 := blk_frozen BK688.out 1))
              have n0_ : Aside0 (((w45.setCell ⟨gb688, 0, none⟩ (.int .u64 t685)).setCell ⟨gb688, 1, none⟩ (.int .u64 t686)).heap[gb680]? = some (.cells #[.int .u64 a0_0, .int .u64 a0_1] 24 (0, 0))) := ⟨by (with_reducible repeat (first | refine blk_drewN ?_ _ | refine blk_drew ?_ | refine blk_alloc ?_ _)); refine blk_far ?_ NB680_688.out _; (with_reducible repeat (first | refine blk_drewN ?_ _ | refine blk_drew ?_ | refine blk_alloc ?_ _)); refine blk_far ?_ NB680_688.out _; (with_reducible repeat (first | refine blk_drewN ?_ _ | refine blk_drew ?_ | refine blk_alloc ?_ _)); exact BK680.out⟩
              have n1_ : Aside0 (((w45.setCell ⟨gb688, 0, none⟩ (.int .u64 t685)).setCell ⟨gb688, 1, none⟩ (.int .u64 t686)).heap[gb681]? = some (.cells #[.int .u64 a1_0, .int .u64 a1_1] 24 (0, 0))) := ⟨by (with_reducible repeat (first | refine blk_drewN ?_ _ | refine blk_drew ?_ | refine blk_alloc ?_ _)); refine blk_far ?_ NB681_688.out _; (with_reducible repeat (first | refine blk_drewN ?_ _ | refine blk_drew ?_ | refine blk_alloc ?_ _)); refine blk_far ?_ NB681_688.out _; (with_reducible repeat (first | refine blk_drewN ?_ _ | refine blk_drew ?_ | refine blk_alloc ?_ _)); exact BK681.out⟩
              have n2_ : Aside0 (((w45.setCell ⟨gb688, 0, none⟩ (.int .u64 t685)).setCell ⟨gb688, 1, none⟩ (.int .u64 t686)).heap[gb688]? = some (.cells #[.int .u64 t685, .int .u64 t686] 24 (0, 0))) := ⟨by (with_reducible repeat (first | refine blk_drewN ?_ _ | refine blk_drew ?_ | refine blk_alloc ?_ _)); refine blk_put (cs := #[.int .u64 t685, .int .u64 0]) ?_ 1 _ rfl; (with_reducible repeat (first | refine blk_drewN ?_ _ | refine blk_drew ?_ | refine blk_alloc ?_ _)); refine blk_put (cs := #[.int .u64 0, .int .u64 0]) ?_ 0 _ rfl; (with_reducible repeat (first | refine blk_drewN ?_ _ | refine blk_drew ?_ | refine blk_alloc ?_ _)); exact BK688.out⟩
              have n3_ : Aside0 (Below w.heap.size w ((w45.setCell ⟨gb688, 0, none⟩ (.int .u64 t685)).setCell ⟨gb688, 1, none⟩ (.int .u64 t686))) := ⟨by repeat (first | (with_reducible first | exact HB.out | apply below_alloc | apply pw_below_drewN | apply below_drew1 | refine below_set ?_ GE680.out | refine below_set ?_ GE681.out | refine below_set ?_ GE688.out) | exact HB.out)⟩
              (try clear BK680)
              (try clear BK681)
              (try clear BK688)
              (try clear HB)
              generalize ((w45.setCell ⟨gb688, 0, none⟩ (.int .u64 t685)).setCell ⟨gb688, 1, none⟩ (.int .u64 t686)) = w49 at n0_ n1_ n2_ n3_ ⊢
              have BK680 := n0_
              have BK681 := n1_
              have BK688 := n2_
              have HB := n3_
              clear n0_ n1_ n2_ n3_
              have n0_ := Aside0.mk (blk_drew BK680.out)
              have n1_ := Aside0.mk (blk_drew BK681.out)
              have n2_ := Aside0.mk (blk_drew BK688.out)
              have n3_ := Aside0.mk (below_drew1 HB.out)
              clear BK680
              clear BK681
              clear BK688
              clear HB
              have BK680 := n0_
              have BK681 := n1_
              have BK688 := n2_
              have HB := n3_
              clear n0_ n1_ n2_ n3_
              refine start_ (n := 5) (S := fun w' => w'.cell? ⟨gb680, 0, none⟩ = some (.int .u64 a0_0) ∧ w'.cell? ⟨gb680, 1, none⟩ = some (.int .u64 a0_1)) (ds := []) #[false, false, false, false, false] (by kernel_rfl) rfl rfl ⟨(blk_cell BK680.out 0).trans rfl, (blk_cell BK680.out 1).trans rfl⟩ (fun hHeld => ?_)
              generalize w49.drew = w50 at BK680 BK681 BK688 HB hHeld ⊢
              refine take_ (i := 0) (N := some 37) (v := ?_) (a' := ?_) #[true, false, false, false, false] rfl rfl (by kernel_rfl) (fun _ _ _ h => h) (Or.inl ⟨by rfl, ?_⟩) hHeld ?_ ?_
              rotate_left
              · rintro w' ⟨s0, s1⟩
                go_simp
                with_reducible rfl
              rotate_left
              · simp only [Act.put, List.setIfInBounds_toArray, List.set_cons_zero, List.set_cons_succ, i64_w, i32_w]
                rfl
              refine one_ (i := 1) (N := some 38) #[true, true, false, false, false] rfl rfl (by kernel_rfl) (by decide) (fun K hK => ?_)
              refine goes_ Try.func12 (by kernel_rfl) rfl #[.int .i64 0] (by rfl) rfl rfl (by (try simp only [List.map_toArray, List.map_cons, List.map_nil]); first | done | rfl | (simp only [List.length_drop, List.length_take]; rfl) | (go_simp; simp only [u8_w, w64_u8]; done) | (go_simp; simp only [u8_w, w64_u8]; rfl)) ?_
              with_reducible refine (wide_Of.calls 0 t690 t691 _ A33.out).mono ?_
              rintro e w51 ⟨rfl, hb⟩
              refine ⟨_, rfl, ?_⟩
              have n0_ := blkB BK680 hb
              have n1_ := blkB BK681 hb
              have n2_ := blkB BK688 hb
              have n3_ := Aside0.mk (below_step (bL HB) hb)
              clear BK680
              clear BK681
              clear BK688
              clear HB
              have BK680 := n0_
              have BK681 := n1_
              have BK688 := n2_
              have HB := n3_
              clear n0_ n1_ n2_ n3_
              (try clear hb)
              (try clear hb2)
              (try clear hk)
              (try clear hi)
              refine hK.out _ _ ⟨(blk_cell BK680.out 0).trans rfl, (blk_cell BK680.out 1).trans rfl⟩ (fun hHeld => ?_)
              clear hK K
              refine norm_ (a' := ?_) ?_ ?_
              rotate_left
              · show Act.put _ (some 38) _ = _
                simp only [Act.put, List.setIfInBounds_toArray, List.set_cons_zero, List.set_cons_succ, i64_w, i32_w]
                rfl
              refine one_ (i := 2) (N := some 39) #[true, true, true, false, false] rfl rfl (by kernel_rfl) (by decide) (fun K hK => ?_)
              refine goes_ Try.func27 (by kernel_rfl) rfl #[.agg #[.int .u64 a0_0, .int .u64 a0_1], .agg #[.int .u64 t690, .int .u64 t691]] (by rfl) rfl rfl (by (try simp only [List.map_toArray, List.map_cons, List.map_nil]); first | done | rfl | (simp only [List.length_drop, List.length_take]; rfl) | (go_simp; simp only [u8_w, w64_u8]; done) | (go_simp; simp only [u8_w, w64_u8]; rfl)) ?_
              with_reducible refine (wide_Cmp.calls a0_0 a0_1 t690 t691 t692 _ A34.out).mono ?_
              rintro e w52 ⟨rfl, hb⟩
              refine ⟨_, rfl, ?_⟩
              have n0_ := blkB BK680 hb
              have n1_ := blkB BK681 hb
              have n2_ := blkB BK688 hb
              have n3_ := Aside0.mk (below_step (bL HB) hb)
              clear BK680
              clear BK681
              clear BK688
              clear HB
              have BK680 := n0_
              have BK681 := n1_
              have BK688 := n2_
              have HB := n3_
              clear n0_ n1_ n2_ n3_
              (try clear hb)
              (try clear hb2)
              (try clear hk)
              (try clear hi)
              refine hK.out _ _ ⟨(blk_cell BK680.out 0).trans rfl, (blk_cell BK680.out 1).trans rfl⟩ (fun hHeld => ?_)
              clear hK K
              refine norm_ (a' := ?_) ?_ ?_
              rotate_left
              · show Act.put _ (some 39) _ = _
                simp only [Act.put, List.setIfInBounds_toArray, List.set_cons_zero, List.set_cons_succ, i64_w, i32_w]
                rfl
              refine pure_ (i := 3) (N := some 40) (v := ?_) (a' := ?_) #[true, true, true, true, false] rfl rfl (by kernel_rfl) (fun _ _ _ h => h) (Or.inl ⟨by rfl, ?_⟩) ?_ ?_
              rotate_left
              · intro w'
                go_simp
                with_reducible rfl
              rotate_left
              · simp only [Act.put, List.setIfInBounds_toArray, List.set_cons_zero, List.set_cons_succ, i64_w, i32_w]
                rfl
              refine pure_ (i := 4) (N := some 4) (v := ?_) (a' := ?_) #[true, true, true, true, true] rfl rfl (by kernel_rfl) (fun _ _ _ h => h) (Or.inl ⟨by rfl, ?_⟩) ?_ ?_
              rotate_left
              · intro w'
                go_simp
                with_reducible rfl
              rotate_left
              · simp only [Act.put, List.setIfInBounds_toArray, List.set_cons_zero, List.set_cons_succ, i64_w, i32_w]
                rfl
              refine done_ (by kernel_rfl) ?_
              try go_wp2
              go_ret
              exact ⟨by first | rfl | (simp [errW_none, errW_some] <;> rfl) | (simp [*, errW_none, errW_some] <;> rfl), by repeat (first | (with_reducible first | exact HB.out | apply below_alloc | apply pw_below_drewN | apply below_drew1 | refine below_set ?_ GE680.out | refine below_set ?_ GE681.out | refine below_set ?_ GE688.out) | exact HB.out)⟩
          · rw [if_neg c11] at H
            have c11b0 : ((bt t683 0) == 45) = false := beq_eq_false_iff_ne.mpr c11
            have c11b1 : ((bt t683 0) != 45) = true := bne_iff_ne.mpr c11
            replace H := Option.bind_eq_some_iff.mp H
            obtain ⟨⟨t693, t694, t695⟩, A530, H⟩ := H
            replace H : (if (t693 == a0_0 && (t694 == a0_1)) = true then (some (t695 == 0)) else (none)) = some r := H
            have A53 := Aside0.mk A530
            clear A530
            by_cases c54 : (t693 == a0_0 && (t694 == a0_1)) = true
            · rw [if_pos c54] at H
              have c54b0 : (t693 == a0_0 && (t694 == a0_1)) = true := c54
              (try (have c54b1 : decide (t693 = a0_0 && (t694 == a0_1)) = true := by simpa using c54))
              (try (have c54b2 : (t693 == a0_0 && (t694 == a0_1)) = true := by simpa using c54))
              clear c54
              obtain rfl := Option.some.inj H
              go_enter Try.func6, Try.ntmps6
              try go_wp2_with (first | ((with_reducible refine gate_dst (N := 2) rfl ?_); refine box_event ?hg (N := 2) ?hd (cs := #[.int .u64 a0_0, .int .u64 a0_1]) (t := 24) ?hr ?_; (case hd => rfl); (case hg => rfl); (case hr => first | (go_simp; done) | (go_simp; rfl)); intro gb680 hg w55 hbox hb; have n0_ := Aside0.mk (below_step (bL HB) hb); have n1_ := Aside0.mk (hbox); have n2_ := Aside0.mk ((by rw [hg]; exact (below_size (bL HB)) : w.heap.size ≤ gb680)); have n3_ := Aside0.mk ((by rw [hg]; exact (below_size (bL HB)) : w.heap.size ≤ gb680)); clear HB; have HB := n0_; have BK680 := n1_; have GW680 := n2_; have GE680 := n3_; clear n0_ n1_ n2_ n3_; clear hb hbox hg) | ((with_reducible refine gate_dst (N := 3) rfl ?_); refine box_event ?hg (N := 3) ?hd (cs := #[.int .u64 a1_0, .int .u64 a1_1]) (t := 24) ?hr ?_; (case hd => rfl); (case hg => rfl); (case hr => first | (go_simp; done) | (go_simp; rfl)); intro gb681 hg w56 hbox hb; have n0_ := blkB BK680 hb; have n1_ := Aside0.mk (below_step (bL HB) hb); have n2_ := Aside0.mk (hbox); have n3_ := Aside0.mk ((by rw [hg]; exact (below_size (bL HB)) : w.heap.size ≤ gb681)); have n4_ := Aside0.mk ((by rw [hg]; exact (below_size (bL HB)) : w.heap.size ≤ gb681)); have n5_ := blkL BK680 hg; have n6_ := blkG BK680 hg; clear BK680 HB; have BK680 := n0_; have HB := n1_; have BK681 := n2_; have GW681 := n3_; have GE681 := n4_; have NB680_681 := n5_; have NB681_680 := n6_; clear n0_ n1_ n2_ n3_ n4_ n5_ n6_; clear hb hbox hg) | ((with_reducible refine gate_callee (f := 8) rfl ?_); refine goesL_ (some 10) rfl rfl Try.func8 (by kernel_rfl) rfl #[] rfl (by (try simp only [List.map_toArray, List.map_cons, List.map_nil]); first | done | rfl | (simp only [List.length_drop, List.length_take]; rfl) | (go_simp; simp only [u8_w, w64_u8]; done) | (go_simp; simp only [u8_w, w64_u8]; rfl)) ?_; (with_reducible refine (lorgnettelaw01_awake.calls k  true _ A3.out).mono ?_); rintro e w57 ⟨rfl, hb⟩; refine ⟨_, rfl, ?_⟩; have n0_ := blkB BK680 hb; have n1_ := blkB BK681 hb; have n2_ := Aside0.mk (below_step (bL HB) hb); clear BK680 BK681 HB; have BK680 := n0_; have BK681 := n1_; have HB := n2_; clear n0_ n1_ n2_; (try clear hb); (try clear hb2); (try clear hk); (try clear hi); have hnb58 := NB680_681.out; have hnc58 := NB681_680.out; have hcz59_0 : w57.cell? ⟨gb680, 0, none⟩ = some (.int .u64 a0_0) := (blk_cell BK680.out 0).trans rfl; have hcz59_1 : w57.cell? ⟨gb680, 1, none⟩ = some (.int .u64 a0_1) := (blk_cell BK680.out 1).trans rfl; have hfz59_0 := blk_frozen BK680.out 0; have hfz59_1 := blk_frozen BK680.out 1) | ((with_reducible refine gate_callee (f := 16) rfl ?_); refine goesL_ (some 13) rfl rfl Try.func16 (by kernel_rfl) rfl #[.agg #[.int .u64 a0_0, .int .u64 a0_1]] rfl (by (try simp only [List.map_toArray, List.map_cons, List.map_nil]); first | done | rfl | (simp only [List.length_drop, List.length_take]; rfl) | (go_simp; simp only [u8_w, w64_u8]; done) | (go_simp; simp only [u8_w, w64_u8]; rfl)) ?_; (with_reducible refine (wide_Print.calls k a0_0 a0_1 t683 _ A5.out).mono ?_); rintro e w60 ⟨rfl, hb⟩; refine ⟨_, rfl, ?_⟩; have n0_ := blkB BK680 hb; have n1_ := blkB BK681 hb; have n2_ := Aside0.mk (below_step (bL HB) hb); clear BK680 BK681 HB; have BK680 := n0_; have BK681 := n1_; have HB := n2_; clear n0_ n1_ n2_; (try clear hb); (try clear hb2); (try clear hk); (try clear hi)))
              have n0_ := Aside0.mk (blk_drew BK680.out)
              have n1_ := Aside0.mk (blk_drew BK681.out)
              have n2_ := Aside0.mk (below_drew1 HB.out)
              clear BK680
              clear BK681
              clear HB
              have BK680 := n0_
              have BK681 := n1_
              have HB := n2_
              clear n0_ n1_ n2_
              refine start_ (n := 13) (S := fun w' => w'.cell? ⟨gb681, 0, none⟩ = some (.int .u64 a1_0) ∧ w'.cell? ⟨gb681, 1, none⟩ = some (.int .u64 a1_1) ∧ w'.cell? ⟨gb680, 0, none⟩ = some (.int .u64 a0_0) ∧ w'.cell? ⟨gb680, 1, none⟩ = some (.int .u64 a0_1)) (ds := []) #[false, false, false, false, false, false, false, false, false, false, false, false, false] (by kernel_rfl) rfl rfl ⟨(blk_cell BK681.out 0).trans rfl, (blk_cell BK681.out 1).trans rfl, (blk_cell BK680.out 0).trans rfl, (blk_cell BK680.out 1).trans rfl⟩ (fun hHeld => ?_); refine with_tabW lorgnettelaw01_WideBack.tab4 lorgnettelaw01_WideBack.bits4 (fun HT_ HW_ => ?_)
              generalize w60.drew = w61 at BK680 BK681 HB hHeld ⊢
              refine pure_ (i := 0) (N := some 14) (v := ?_) (a' := ?_) #[true, false, false, false, false, false, false, false, false, false, false, false, false] rfl rfl (any_of HT_.out (by kernel_rfl)) (fun _ _ _ h => h) (Or.inl ⟨by rfl, ?_⟩) ?_ ?_
              rotate_left
              · intro w'
                go_simp
                with_reducible rfl
              rotate_left
              · simp only [Act.put, List.setIfInBounds_toArray, List.set_cons_zero, List.set_cons_succ, i64_w, i32_w]
                rfl
              refine pure_ (i := 1) (N := some 15) (v := ?_) (a' := ?_) #[true, true, false, false, false, false, false, false, false, false, false, false, false] rfl rfl (any_of HT_.out (by kernel_rfl)) (fun _ _ _ h => h) (Or.inl ⟨by rfl, ?_⟩) ?_ ?_
              rotate_left
              · intro w'
                go_simp
                with_reducible rfl
              rotate_left
              · simp only [Act.put, List.setIfInBounds_toArray, List.set_cons_zero, List.set_cons_succ, i64_w, i32_w]
                rfl
              refine pure_ (i := 2) (N := some 16) (v := ?_) (a' := ?_) #[true, true, true, false, false, false, false, false, false, false, false, false, false] rfl rfl (any_of HT_.out (by kernel_rfl)) (fun _ _ _ h => h) (Or.inl ⟨by rfl, ?_⟩) ?_ ?_
              rotate_left
              · intro w'
                go_simp
                with_reducible rfl
              rotate_left
              · simp only [Act.put, List.setIfInBounds_toArray, List.set_cons_zero, List.set_cons_succ, i64_w, i32_w]
                rfl
              refine pure_ (i := 3) (N := some 17) (v := ?_) (a' := ?_) #[true, true, true, true, false, false, false, false, false, false, false, false, false] rfl rfl (any_of HT_.out (by kernel_rfl)) (fun _ _ _ h => h) (Or.inl ⟨by rfl, ?_⟩) ?_ ?_
              rotate_left
              · intro w'
                go_simp
                with_reducible rfl
              rotate_left
              · simp only [Act.put, List.setIfInBounds_toArray, List.set_cons_zero, List.set_cons_succ, i64_w, i32_w]
                rfl
              refine pure_ (i := 4) (N := some 18) (v := ?_) (a' := ?_) #[true, true, true, true, true, false, false, false, false, false, false, false, false] rfl rfl (any_of HT_.out (by kernel_rfl)) (fun _ _ _ h => h) (Or.inl ⟨by rfl, ?_⟩) ?_ ?_
              rotate_left
              · intro w'
                go_simp
                with_reducible rfl
              rotate_left
              · simp only [Act.put, List.setIfInBounds_toArray, List.set_cons_zero, List.set_cons_succ, i64_w, i32_w]
                rfl
              refine take_ (i := 5) (N := some 19) (v := ?_) (a' := ?_) #[true, true, true, true, true, true, false, false, false, false, false, false, false] rfl rfl (take_ofW HT_.out HW_.out (by kernel_rfl)) (fun _ _ _ h => h) (Or.inl ⟨by rfl, ?_⟩) hHeld ?_ ?_
              rotate_left
              · rintro w' ⟨s0, s1, s2, s3⟩
                go_simp
                with_reducible rfl
              rotate_left
              · simp only [Act.put, List.setIfInBounds_toArray, List.set_cons_zero, List.set_cons_succ, i64_w, i32_w]
                rfl
              refine take_ (i := 8) (N := some 22) (v := ?_) (a' := ?_) #[true, true, true, true, true, true, false, false, true, false, false, false, false] rfl rfl (take_ofW HT_.out HW_.out (by kernel_rfl)) (fun _ _ _ h => h) (Or.inl ⟨by rfl, ?_⟩) hHeld ?_ ?_
              rotate_left
              · rintro w' ⟨s0, s1, s2, s3⟩
                go_simp
                with_reducible rfl
              rotate_left
              · simp only [Act.put, List.setIfInBounds_toArray, List.set_cons_zero, List.set_cons_succ, i64_w, i32_w]
                rfl
              refine take_ (i := 9) (N := some 23) (v := ?_) (a' := ?_) #[true, true, true, true, true, true, false, false, true, true, false, false, false] rfl rfl (take_ofW HT_.out HW_.out (by kernel_rfl)) (fun _ _ _ h => h) (Or.inl ⟨by rfl, ?_⟩) hHeld ?_ ?_
              rotate_left
              · rintro w' ⟨s0, s1, s2, s3⟩
                go_simp
                with_reducible rfl
              rotate_left
              · simp only [Act.put, List.setIfInBounds_toArray, List.set_cons_zero, List.set_cons_succ, i64_w, i32_w]
                rfl
              refine pure_ (i := 10) (N := some 24) (v := ?_) (a' := ?_) #[true, true, true, true, true, true, false, false, true, true, true, false, false] rfl rfl (any_of HT_.out (by kernel_rfl)) (fun _ _ _ h => h) (Or.inl ⟨by rfl, ?_⟩) ?_ ?_
              rotate_left
              · intro w'
                go_simp
                with_reducible rfl
              rotate_left
              · simp only [Act.put, List.setIfInBounds_toArray, List.set_cons_zero, List.set_cons_succ, i64_w, i32_w]
                rfl
              refine one_ (i := 6) (N := some 20) #[true, true, true, true, true, true, true, false, true, true, true, false, false] rfl rfl (one_of HT_.out (by kernel_rfl)) (by decide) (fun K hK => ?_)
              refine goes_ Try.func16 (by kernel_rfl) rfl #[.agg #[.int .u64 a1_0, .int .u64 a1_1]] (by rfl) rfl rfl (by (try simp only [List.map_toArray, List.map_cons, List.map_nil]); first | done | rfl | (simp only [List.length_drop, List.length_take]; rfl) | (go_simp; simp only [u8_w, w64_u8]; done) | (go_simp; simp only [u8_w, w64_u8]; rfl)) ?_
              with_reducible refine (wide_Print.calls k a1_0 a1_1 t684 _ A7.out).mono ?_
              rintro e w62 ⟨rfl, hb⟩
              refine ⟨_, rfl, ?_⟩
              have n0_ := blkB BK680 hb
              have n1_ := blkB BK681 hb
              have n2_ := Aside0.mk (below_step (bL HB) hb)
              clear BK680
              clear BK681
              clear HB
              have BK680 := n0_
              have BK681 := n1_
              have HB := n2_
              clear n0_ n1_ n2_
              (try clear hb)
              (try clear hb2)
              (try clear hk)
              (try clear hi)
              refine hK.out _ _ ⟨(blk_cell BK681.out 0).trans rfl, (blk_cell BK681.out 1).trans rfl, (blk_cell BK680.out 0).trans rfl, (blk_cell BK680.out 1).trans rfl⟩ (fun hHeld => ?_)
              clear hK K
              refine norm_ (a' := ?_) ?_ ?_
              rotate_left
              · show Act.put _ (some 20) _ = _
                simp only [Act.put, List.setIfInBounds_toArray, List.set_cons_zero, List.set_cons_succ, i64_w, i32_w]
                rfl
              refine pure_ (i := 7) (N := some 21) (v := ?_) (a' := ?_) #[true, true, true, true, true, true, true, true, true, true, true, false, false] rfl rfl (any_of HT_.out (by kernel_rfl)) (fun _ _ _ h => h) (Or.inl ⟨by rfl, ?_⟩) ?_ ?_
              rotate_left
              · intro w'
                go_simp
                with_reducible rfl
              rotate_left
              · simp only [Act.put, List.setIfInBounds_toArray, List.set_cons_zero, List.set_cons_succ, i64_w, i32_w]
                rfl
              refine pure_ (i := 11) (N := some 25) (v := ?_) (a' := ?_) #[true, true, true, true, true, true, true, true, true, true, true, true, false] rfl rfl (any_of HT_.out (by kernel_rfl)) (fun _ _ _ h => h) (Or.inl ⟨by rfl, ?_⟩) ?_ ?_
              rotate_left
              · intro w'
                go_simp
                with_reducible rfl
              rotate_left
              · simp only [Act.put, List.setIfInBounds_toArray, List.set_cons_zero, List.set_cons_succ, i64_w, i32_w]
                rfl
              refine pure_ (i := 12) (N := some 26) (v := ?_) (a' := ?_) #[true, true, true, true, true, true, true, true, true, true, true, true, true] rfl rfl (any_of HT_.out (by kernel_rfl)) (fun _ _ _ h => h) (Or.inl ⟨by rfl, ?_⟩) ?_ ?_
              rotate_left
              · intro w'
                go_simp
                with_reducible rfl
              rotate_left
              · simp only [Act.put, List.setIfInBounds_toArray, List.set_cons_zero, List.set_cons_succ, i64_w, i32_w]
                rfl
              refine done_ (done_of HT_.out (by kernel_rfl)) ?_
              have p10 : 0 ≤ (0 : Int) := (by omega)
              have q10 : 0 < t683.size := (by have : (0 : Int) < (t683.size : Int) := of_decide_eq_true (by first | (with_reducible assumption) | assumption); omega)
              have hx10 : ∀ h : 0 < t683.size, ((t683[0]'h).toNat : Int) = bt t683 0 := bt_at t683 0
              clear p10
              have qi10 : (0 < (t683.size : Int)) = True := eq_true (of_decide_eq_true (by first | (with_reducible assumption) | assumption))
              replace q10 := eq_true q10
              try go_wp2_with (first | ((with_reducible refine gate_callee (f := 13) rfl ?_); refine goesL_ (some 48) rfl rfl Try.func13 (by kernel_rfl) rfl #[.string t683] rfl (by (try simp only [List.map_toArray, List.map_cons, List.map_nil]); first | done | rfl | (simp only [List.length_drop, List.length_take]; rfl) | (go_simp; simp only [u8_w, w64_u8]; done) | (go_simp; simp only [u8_w, w64_u8]; rfl)) ?_; (with_reducible refine (wide_Parse.calls k t683 t693 t694 t695 _ A53.out).mono ?_); rintro e w63 ⟨rfl, hb⟩; refine ⟨_, rfl, ?_⟩; have n0_ := blkB BK680 hb; have n1_ := blkB BK681 hb; have n2_ := Aside0.mk (below_step (bL HB) hb); clear BK680 BK681 HB; have BK680 := n0_; have BK681 := n1_; have HB := n2_; clear n0_ n1_ n2_; (try clear hb); (try clear hb2); (try clear hk); (try clear hi)) | ((with_reducible refine gate_dst (N := 8) rfl ?_); refine box_event ?hg (N := 8) ?hd (cs := #[.int .u64 0, .int .u64 0]) (t := 24) ?hr ?_; (case hd => rfl); (case hg => rfl); (case hr => first | (go_simp; done) | (go_simp; rfl)); intro gb696 hg w64 hbox hb; have n0_ := blkB BK680 hb; have n1_ := blkB BK681 hb; have n2_ := Aside0.mk (below_step (bL HB) hb); have n3_ := Aside0.mk (hbox); have n4_ := Aside0.mk ((by rw [hg]; exact (below_size (bL HB)) : w.heap.size ≤ gb696)); have n5_ := Aside0.mk ((by rw [hg]; exact (below_size (bL HB)) : w.heap.size ≤ gb696)); have n6_ := blkL BK680 hg; have n7_ := blkG BK680 hg; have n8_ := blkL BK681 hg; have n9_ := blkG BK681 hg; clear BK680 BK681 HB; have BK680 := n0_; have BK681 := n1_; have HB := n2_; have BK696 := n3_; have GW696 := n4_; have GE696 := n5_; have NB680_696 := n6_; have NB696_680 := n7_; have NB681_696 := n8_; have NB696_681 := n9_; clear n0_ n1_ n2_ n3_ n4_ n5_ n6_ n7_ n8_ n9_; clear hb hbox hg; have hnb65 := NB696_680.out; have hnc65 := NB680_696.out; have hnb66 := NB696_681.out; have hnc66 := NB681_696.out; have hcz67_0 : w64.cell? ⟨gb696, 0, none⟩ = some (.int .u64 0) := (blk_cell BK696.out 0).trans rfl; have hcz67_1 : w64.cell? ⟨gb696, 1, none⟩ = some (.int .u64 0) := (blk_cell BK696.out 1).trans rfl; have hfz67_0 := blk_frozen BK696.out 0; have hfz67_1 := blk_frozen BK696.out 1; have hcz68_0 : w64.cell? ⟨gb680, 0, none⟩ = some (.int .u64 a0_0) := (blk_cell BK680.out 0).trans rfl; have hcz68_1 : w64.cell? ⟨gb680, 1, none⟩ = some (.int .u64 a0_1) := (blk_cell BK680.out 1).trans rfl; have hfz68_0 := blk_frozen BK680.out 0; have hfz68_1 := blk_frozen BK680.out 1))
              go_ret
              exact ⟨by first | rfl | (simp [errW_none, errW_some] <;> rfl) | (simp [*, errW_none, errW_some] <;> rfl), by repeat (first | (with_reducible first | exact HB.out | apply below_alloc | apply pw_below_drewN | apply below_drew1 | refine below_set ?_ GE680.out | refine below_set ?_ GE681.out | refine below_set ?_ GE696.out) | exact HB.out)⟩
            · rw [if_neg c54] at H
              exact absurd H (by simp)
        · rw [if_neg c9] at H
          exact absurd H (by simp)
  · replace c4 := Bool.eq_false_iff.mpr c4
    subst c4
    have H1 : (none) = some r := by rw [if_neg (show ¬ (false = true) by decide)] at H; exact H
    clear H
    have H := H1
    clear H1
    exact absurd H (by simp)

end Go.Proofs.Ytjnaebcdidilgaa.Q
