/- Functions of the program as Lean functions, and their walks: printed by print.py as this session changed it (mkprint.py). Lean checks it. No condition. (halved) -/
import Derived.Test.YtjnaebcdidilgaaQx0
import Derived.Test.YtjnaebcdidilgaaQx1
import Derived.Test.YtjnaebcdidilgaaQx3
import Derived.Test.YtjnaebcdidilgaaQx7
import Derived.Test.YtjnaebcdidilgaaQx11
import Derived.Test.YtjnaebcdidilgaaQx13
import Derived.Test.YtjnaebcdidilgaaQx17
import Derived.Test.YtjnaebcdidilgaaQx18
import Derived.Test.YtjnaebcdidilgaaQx20
import Derived.Test.YtjnaebcdidilgaaQx21
import Derived.Test.YtjnaebcdidilgaaQx25
import Derived.Test.YtjnaebcdidilgaaQx26
namespace Go.Proofs.Ytjnaebcdidilgaa.Q
open Go.RowKit Go.Proofs.YtjnaebcdidilgaaW.PrintWords Go.Proofs.YtjnaebcdidilgaaW.PrintLast Go.Proofs.YtjnaebcdidilgaaW.PrintMore
attribute [local go_sem] max2_int min2_int max_two min_two max_three min_three max_four min_four   -- for this text's walks alone
attribute [local go_sem] Instr.field asAgg
set_option linter.unusedVariables false
set_option linter.unusedSimpArgs false
abbrev ba_27_0 : Array Bool := #[false, false, false, false, false, false, false, false, false, false, false, false, false, false, false, false, false, false, false, false, false, false, false, false, false, false, false]
abbrev ba_27_1 : Array Bool := #[false, false, true, false, false, false, false, false, false, false, false, false, false, false, false, false, false, false, false, false, false, false, false, false, false, false, false]
abbrev ba_27_2 : Array Bool := #[false, false, true, true, false, false, false, false, false, false, false, false, false, false, false, false, false, false, false, false, false, false, false, false, false, false, false]
abbrev ba_27_3 : Array Bool := #[true, false, true, true, false, false, false, false, false, false, false, false, false, false, false, false, false, false, false, false, false, false, false, false, false, false, false]
abbrev ba_27_4 : Array Bool := #[true, true, true, true, false, false, false, false, false, false, false, false, false, false, false, false, false, false, false, false, false, false, false, false, false, false, false]
abbrev ba_27_5 : Array Bool := #[true, true, true, true, true, false, false, false, false, false, false, false, false, false, false, false, false, false, false, false, false, false, false, false, false, false, false]
abbrev ba_27_6 : Array Bool := #[true, true, true, true, true, true, false, false, false, false, false, false, false, false, false, false, false, false, false, false, false, false, false, false, false, false, false]
abbrev ba_27_7 : Array Bool := #[true, true, true, true, true, true, true, false, false, false, false, false, false, false, false, false, false, false, false, false, false, false, false, false, false, false, false]
abbrev ba_27_8 : Array Bool := #[true, true, true, true, true, true, true, true, false, false, false, false, false, false, false, false, false, false, false, false, false, false, false, false, false, false, false]
abbrev ba_27_9 : Array Bool := #[true, true, true, true, true, true, true, true, true, false, false, false, false, false, false, false, false, false, false, false, false, false, false, false, false, false, false]
abbrev ba_27_10 : Array Bool := #[true, true, true, true, true, true, true, true, true, true, false, false, false, false, false, false, false, false, false, false, false, false, false, false, false, false, false]
abbrev ba_27_11 : Array Bool := #[true, true, true, true, true, true, true, true, true, true, true, false, false, false, false, false, false, false, false, false, false, false, false, false, false, false, false]
abbrev ba_27_12 : Array Bool := #[true, true, true, true, true, true, true, true, true, true, true, true, false, false, false, false, false, false, false, false, false, false, false, false, false, false, false]
abbrev ba_27_13 : Array Bool := #[true, true, true, true, true, true, true, true, true, true, true, true, true, false, false, false, false, false, false, false, false, false, false, false, false, false, false]
abbrev ba_27_14 : Array Bool := #[true, true, true, true, true, true, true, true, true, true, true, true, true, true, false, false, false, false, false, false, false, false, false, false, false, false, false]
abbrev ba_27_15 : Array Bool := #[true, true, true, true, true, true, true, true, true, true, true, true, true, true, true, false, false, false, false, false, false, false, false, false, false, false, false]
abbrev ba_27_16 : Array Bool := #[true, true, true, true, true, true, true, true, true, true, true, true, true, true, true, true, false, false, false, false, false, false, false, false, false, false, false]
abbrev ba_27_17 : Array Bool := #[true, true, true, true, true, true, true, true, true, true, true, true, true, true, true, true, true, false, false, false, false, false, false, false, false, false, false]
abbrev ba_27_18 : Array Bool := #[true, true, true, true, true, true, true, true, true, true, true, true, true, true, true, true, true, true, false, false, false, false, false, false, false, false, false]
abbrev ba_27_19 : Array Bool := #[true, true, true, true, true, true, true, true, true, true, true, true, true, true, true, true, true, true, true, false, false, false, false, false, false, false, false]
abbrev ba_27_20 : Array Bool := #[true, true, true, true, true, true, true, true, true, true, true, true, true, true, true, true, true, true, true, true, false, false, false, false, false, false, false]
abbrev ba_27_21 : Array Bool := #[true, true, true, true, true, true, true, true, true, true, true, true, true, true, true, true, true, true, true, true, true, false, false, false, false, false, false]
abbrev ba_27_22 : Array Bool := #[true, true, true, true, true, true, true, true, true, true, true, true, true, true, true, true, true, true, true, true, true, true, false, false, false, false, false]
abbrev ba_27_23 : Array Bool := #[true, true, true, true, true, true, true, true, true, true, true, true, true, true, true, true, true, true, true, true, true, true, true, false, false, false, false]
abbrev ba_27_24 : Array Bool := #[true, true, true, true, true, true, true, true, true, true, true, true, true, true, true, true, true, true, true, true, true, true, true, true, false, false, false]
abbrev ba_27_25 : Array Bool := #[true, true, true, true, true, true, true, true, true, true, true, true, true, true, true, true, true, true, true, true, true, true, true, true, true, false, false]
abbrev ba_27_26 : Array Bool := #[true, true, true, true, true, true, true, true, true, true, true, true, true, true, true, true, true, true, true, true, true, true, true, true, true, true, false]
abbrev ba_27_27 : Array Bool := #[true, true, true, true, true, true, true, true, true, true, true, true, true, true, true, true, true, true, true, true, true, true, true, true, true, true, true]
abbrev ba_27_28 : Array Bool := #[true, true, true, true, true, true, true, true, true, true, false, true, false, false, false, false, false, false, false, false, false, false, false, false, false, false, false]

attribute [local go_sem high] eqA24
/-! ### lorgnettelaw01_WideTexts: function 3 -/
def lorgnettelaw01_WideTexts.j0 : Nat → ByteArray → Int → Bool → Int → Int → Bool → List Int → Option (Bool)
 | 0, _, _, _, _, _, _, _ => none
 | k + 1, x1, x2, x54, x433000, x433001, x439000, x439001 => if x54 = true then (none) else ((wide_Parse.f k x1).bind fun bt444 => ((lorgnetteref01_Parse.f k x1).bind fun bt448 => (if bt448.2.2 = true then ((wide_Of.f x2).bind fun bt454 => ((wide_Int.f bt454.1 bt454.2).bind fun bt456 => ((lorgnettelaw01_alike.f k bt444.1 bt444.2.1 bt444.2.2 bt448.1 bt448.2.1).bind fun t458 => (if t458 = true then ((wide_Print.f k x433000 x433001).bind fun t459 => ((lorgnetteref01_Print.f k x439000 x439001).bind fun t460 => (if t459.toList = t460.toList then (if bt456.1 = x2 then (some (bt456.2 == 0)) else (none)) else (none)))) else (none))))) else (if (bt444.1 == 0 && (bt444.2.1 == 0)) = true then (some (bt444.2.2 == 17)) else (none)))))
def lorgnettelaw01_WideTexts.f (k : Nat) (a0_0 : Int) (a0_1 : Int) (a1 : ByteArray) (a2 : Int) : Option (Bool) := (lorgnettelaw01_awake.f k).bind fun t433 => (if t433 = true then (if (a1.size : Int) > 200 then (some true) else ((lorgnetteref01_Of.f k a0_0 a0_1).bind fun bt434 => ((wide_Int.f a0_0 a0_1).bind fun bt439 => ((lorgnetteref01_Small.f k bt434.1 bt434.2).bind fun t441 => (if (t441 != (bt439.2 == 0)) = true then (lorgnettelaw01_WideTexts.j0 k a1 a2 true a0_0 a0_1 bt434.1 bt434.2) else (if bt439.2 = 0 then ((wide_Of.f bt439.1).bind fun bt442 => (if (!(bt442.1 == a0_0) || (!(bt442.2 == a0_1))) = true then (lorgnettelaw01_WideTexts.j0 k a1 a2 true a0_0 a0_1 bt434.1 bt434.2) else (lorgnettelaw01_WideTexts.j0 k a1 a2 false a0_0 a0_1 bt434.1 bt434.2))) else (if bt439.2 = 10 then (lorgnettelaw01_WideTexts.j0 k a1 a2 (bt439.1 != 0) a0_0 a0_1 bt434.1 bt434.2) else (lorgnettelaw01_WideTexts.j0 k a1 a2 true a0_0 a0_1 bt434.1 bt434.2)))))))) else (none))
theorem lorgnettelaw01_WideTexts.mono_l : ∀ k, (∀ y0 y1 y2 y3 y4 y5 y6, LeO (lorgnettelaw01_WideTexts.j0 k y0 y1 y2 y3 y4 y5 y6) (lorgnettelaw01_WideTexts.j0 (k + 1) y0 y1 y2 y3 y4 y5 y6))
 | 0 => fun _ _ _ _ _ _ _ r h => by simp [lorgnettelaw01_WideTexts.j0] at h
 | k + 1 => by
  have ih0 := lorgnettelaw01_WideTexts.mono_l k
  ·intro y0 y1 y2 y3 y4 y5 y6
   unfold lorgnettelaw01_WideTexts.j0
   repeat' first
   | (with_reducible exact ih0 _ _ _ _ _ _ _)
   | (with_reducible exact lorgnettelaw01_alike.mono _ _ _ _ _ _)
   | (with_reducible exact lorgnettelaw01_awake.mono _)
   | (with_reducible exact lorgnetteref01_Of.mono _ _ _)
   | (with_reducible exact lorgnetteref01_Parse.mono _ _)
   | (with_reducible exact lorgnetteref01_Print.mono _ _ _)
   | (with_reducible exact lorgnetteref01_Small.mono _ _ _)
   | (with_reducible exact wide_Parse.mono _ _)
   | (with_reducible exact wide_Print.mono _ _ _)
   | (with_reducible exact LeO.refl _)
   | (with_reducible exact LeO.none _)
   | (with_reducible refine LeO.ite ?_ ?_)
   | (with_reducible refine LeO.bind ?_ (fun _ => ?_))
theorem lorgnettelaw01_WideTexts.mono : ∀ a0 a1 a2 a3 k, LeO (lorgnettelaw01_WideTexts.f k a0 a1 a2 a3) (lorgnettelaw01_WideTexts.f (k + 1) a0 a1 a2 a3) := by
 intro a0 a1 a2 a3 k
 have ih0 := lorgnettelaw01_WideTexts.mono_l k
 unfold lorgnettelaw01_WideTexts.f
 repeat' first
   | (with_reducible exact ih0 _ _ _ _ _ _ _)
   | (with_reducible exact lorgnettelaw01_alike.mono _ _ _ _ _ _)
   | (with_reducible exact lorgnettelaw01_awake.mono _)
   | (with_reducible exact lorgnetteref01_Of.mono _ _ _)
   | (with_reducible exact lorgnetteref01_Parse.mono _ _)
   | (with_reducible exact lorgnetteref01_Print.mono _ _ _)
   | (with_reducible exact lorgnetteref01_Small.mono _ _ _)
   | (with_reducible exact wide_Parse.mono _ _)
   | (with_reducible exact wide_Print.mono _ _ _)
   | (with_reducible exact LeO.refl _)
   | (with_reducible exact LeO.none _)
   | (with_reducible refine LeO.ite ?_ ?_)
   | (with_reducible refine LeO.bind ?_ (fun _ => ?_))
def lorgnettelaw01_WideTexts.T7 : Bool × List (List Nat × List Nat) := (true, [([], []), ([0], [0]), ([], []), ([2], [2]), ([1, 3], [1, 3]), ([4, 1], [4]), ([5], [5]), ([6, 5], [5, 6]), ([7, 5, 5], [5, 7]), ([8], [8]), ([9, 8, 8], [8, 9]), ([8], [8]), ([10, 11, 8], [8, 10, 11]), ([8, 12, 5], [5, 8, 12]), ([5, 13], [5, 13]), ([14, 10], [14]), ([15], [15]), ([16, 15], [15, 16]), ([17, 15, 15], [15, 17]), ([18], [18]), ([19, 18], [18, 19]), ([20, 18, 18], [18, 20]), ([21], [21]), ([22, 21], [21, 22]), ([21, 23, 18], [18, 21, 23]), ([18, 24, 15], [15, 18, 24]), ([15, 25], [15, 25])])
def lorgnettelaw01_WideTexts.B7 : List Nat := [0, 1, 0, 4, 15, 31, 63, 127, 255, 511, 1023, 511, 4095, 8191, 16383, 32767, 65535, 131071, 262143, 524287, 1048575, 2097151, 4194303, 8388607, 16777215, 33554431, 67108863]
theorem lorgnettelaw01_WideTexts.tab7 : rtab .any (opsOf Try.f3 7) = lorgnettelaw01_WideTexts.T7 := by kernel_rfl
theorem lorgnettelaw01_WideTexts.bits7 : waitsOk lorgnettelaw01_WideTexts.T7.2 lorgnettelaw01_WideTexts.B7 = true := by kernel_rfl
def lorgnettelaw01_WideTexts.T14 : Bool × List (List Nat × List Nat) := (true, [([], []), ([], []), ([], []), ([0, 1, 2], [0, 1, 2]), ([3, 3], [3]), ([4], [4]), ([5, 4, 4], [4, 5]), ([4], [4]), ([7, 6, 4], [4, 7]), ([6, 8, 4], [4, 6, 8]), ([4, 9], [4, 9]), ([10, 8], [10]), ([11], [11]), ([11], [11]), ([12, 13, 11], [11, 12, 13]), ([11, 14], [11, 14]), ([15, 11], [15]), ([16], [16]), ([17, 16], [16, 17]), ([16, 18], [16, 18]), ([19, 16, 0, 1, 2, 3, 4, 5, 6, 7, 8, 9, 10, 11, 12, 13, 14, 15, 16, 17, 18, 19], [19])])
def lorgnettelaw01_WideTexts.B14 : List Nat := [0, 0, 0, 7, 15, 31, 63, 31, 255, 511, 1023, 2047, 4095, 4095, 16383, 32767, 65535, 131071, 262143, 524287, 1048575]
theorem lorgnettelaw01_WideTexts.tab14 : rtab .any (opsOf Try.f3 14) = lorgnettelaw01_WideTexts.T14 := by kernel_rfl
theorem lorgnettelaw01_WideTexts.bits14 : waitsOk lorgnettelaw01_WideTexts.T14.2 lorgnettelaw01_WideTexts.B14 = true := by kernel_rfl
set_option maxHeartbeats 8000000 in
set_option maxRecDepth 100000 in
theorem lorgnettelaw01_WideTexts.calls (k : Nat) (a0_0 : Int) (a0_1 : Int) (a1 : ByteArray) (a2 : Int) (r : Bool) (w : World) (h : lorgnettelaw01_WideTexts.f k a0_0 a0_1 a1 a2 = some r) :
  Calls Try.prog 3 #[.agg #[.int .u64 a0_0, .int .u64 a0_1], .string a1, .int .i64 a2] w fun e w' => e = .returned (.bool r) ∧ Below w.heap.size w w' := by
 have hu24 := Try.underlying24
 have hu28 := Try.underlying28
 have HB := Aside0.mk (Below.refl w.heap.size w)
 have H : ((lorgnettelaw01_awake.f k).bind fun t433 => (if t433 = true then (if (a1.size : Int) > 200 then (some true) else ((lorgnetteref01_Of.f k a0_0 a0_1).bind fun bt434 => ((wide_Int.f a0_0 a0_1).bind fun bt439 => ((lorgnetteref01_Small.f k bt434.1 bt434.2).bind fun t441 => (if (t441 != (bt439.2 == 0)) = true then (lorgnettelaw01_WideTexts.j0 k a1 a2 true a0_0 a0_1 bt434.1 bt434.2) else (if bt439.2 = 0 then ((wide_Of.f bt439.1).bind fun bt442 => (if (!(bt442.1 == a0_0) || (!(bt442.2 == a0_1))) = true then (lorgnettelaw01_WideTexts.j0 k a1 a2 true a0_0 a0_1 bt434.1 bt434.2) else (lorgnettelaw01_WideTexts.j0 k a1 a2 false a0_0 a0_1 bt434.1 bt434.2))) else (if bt439.2 = 10 then (lorgnettelaw01_WideTexts.j0 k a1 a2 (bt439.1 != 0) a0_0 a0_1 bt434.1 bt434.2) else (lorgnettelaw01_WideTexts.j0 k a1 a2 true a0_0 a0_1 bt434.1 bt434.2)))))))) else (none))) = some r := h
 clear h
 replace H := Option.bind_eq_some_iff.mp H
 obtain ⟨t433, A40, H⟩ := H
 replace H : (if t433 = true then (if (a1.size : Int) > 200 then (some true) else ((lorgnetteref01_Of.f k a0_0 a0_1).bind fun bt434 => ((wide_Int.f a0_0 a0_1).bind fun bt439 => ((lorgnetteref01_Small.f k bt434.1 bt434.2).bind fun t441 => (if (t441 != (bt439.2 == 0)) = true then (lorgnettelaw01_WideTexts.j0 k a1 a2 true a0_0 a0_1 bt434.1 bt434.2) else (if bt439.2 = 0 then ((wide_Of.f bt439.1).bind fun bt442 => (if (!(bt442.1 == a0_0) || (!(bt442.2 == a0_1))) = true then (lorgnettelaw01_WideTexts.j0 k a1 a2 true a0_0 a0_1 bt434.1 bt434.2) else (lorgnettelaw01_WideTexts.j0 k a1 a2 false a0_0 a0_1 bt434.1 bt434.2))) else (if bt439.2 = 10 then (lorgnettelaw01_WideTexts.j0 k a1 a2 (bt439.1 != 0) a0_0 a0_1 bt434.1 bt434.2) else (lorgnettelaw01_WideTexts.j0 k a1 a2 true a0_0 a0_1 bt434.1 bt434.2)))))))) else (none)) = some r := H
 have A4 := Aside0.mk A40
 clear A40
 by_cases c5 : t433 = true
 ·subst c5
  have H1 : (if (a1.size : Int) > 200 then (some true) else ((lorgnetteref01_Of.f k a0_0 a0_1).bind fun bt434 => ((wide_Int.f a0_0 a0_1).bind fun bt439 => ((lorgnetteref01_Small.f k bt434.1 bt434.2).bind fun t441 => (if (t441 != (bt439.2 == 0)) = true then (lorgnettelaw01_WideTexts.j0 k a1 a2 true a0_0 a0_1 bt434.1 bt434.2) else (if bt439.2 = 0 then ((wide_Of.f bt439.1).bind fun bt442 => (if (!(bt442.1 == a0_0) || (!(bt442.2 == a0_1))) = true then (lorgnettelaw01_WideTexts.j0 k a1 a2 true a0_0 a0_1 bt434.1 bt434.2) else (lorgnettelaw01_WideTexts.j0 k a1 a2 false a0_0 a0_1 bt434.1 bt434.2))) else (if bt439.2 = 10 then (lorgnettelaw01_WideTexts.j0 k a1 a2 (bt439.1 != 0) a0_0 a0_1 bt434.1 bt434.2) else (lorgnettelaw01_WideTexts.j0 k a1 a2 true a0_0 a0_1 bt434.1 bt434.2)))))))) = some r := by rw [if_pos rfl] at H; exact H
  clear H
  have H := H1
  clear H1
  by_cases c6 : (a1.size : Int) > 200
  ·rw [if_pos c6] at H
   have c6b0 : decide (200 < (a1.size : Int)) = true := decide_eq_true c6
   have c6b1 : decide (200 < a1.size) = true := decide_eq_true (by omega)
   clear c6
   obtain rfl := Option.some.inj H
   go_enter Try.func3, Try.ntmps3
   go_wp2_with (first | ((with_reducible refine gate_dst (N := 3) rfl ?_); refine box_event ?hg (N := 3) ?hd (cs := #[.int .u64 a0_0, .int .u64 a0_1]) (t := 24) ?hr ?_; (case hd => rfl); (case hg => rfl); (case hr => first | (go_simp; done) | (go_simp; rfl)); intro gb432 hg w7 hbox hb; have n0_ := Aside0.mk (below_step (bL HB) hb); have n1_ := Aside0.mk (hbox); have n2_ := Aside0.mk ((by rw [hg]; exact (below_size (bL HB)) : w.heap.size ≤ gb432)); have n3_ := Aside0.mk ((by rw [hg]; exact (below_size (bL HB)) : w.heap.size ≤ gb432)); clear HB; have HB := n0_; have BK432 := n1_; have GW432 := n2_; have GE432 := n3_; clear n0_ n1_ n2_ n3_; clear hb hbox hg) | ((with_reducible refine gate_callee (f := 8) rfl ?_); refine goesL_ (some 16) rfl rfl Try.func8 (by kernel_rfl) rfl #[] rfl (by (try simp only [List.map_toArray, List.map_cons, List.map_nil]); first | done | rfl | (simp only [List.length_drop, List.length_take]; rfl) | (go_simp; simp only [u8_w, w64_u8]; done) | (go_simp; simp only [u8_w, w64_u8]; rfl)) ?_; (with_reducible refine (lorgnettelaw01_awake.calls k  true _ A4.out).mono ?_); rintro e w8 ⟨rfl, hb⟩; refine ⟨_, rfl, ?_⟩; have n0_ := blkB BK432 hb; have n1_ := Aside0.mk (below_step (bL HB) hb); clear BK432 HB; have BK432 := n0_; have HB := n1_; clear n0_ n1_; (try clear hb); (try clear hb2); (try clear hk); (try clear hi)))
   go_ret
   exact ⟨by first | rfl | (simp [errW_none, errW_some] <;> rfl) | (simp [*, errW_none, errW_some] <;> rfl), by repeat (first | (with_reducible first | exact HB.out | apply below_alloc | apply pw_below_drewN | apply below_drew1 | refine below_set ?_ GE432.out) | exact HB.out)⟩
  ·rw [if_neg c6] at H
   have c6b0 : decide (200 < (a1.size : Int)) = false := decide_eq_false c6
   have c6b1 : decide (200 < a1.size) = false := decide_eq_false (by omega)
   clear c6
   replace H := Option.bind_eq_some_iff.mp H
   obtain ⟨⟨t434, t435⟩, A90, H⟩ := H
   replace H : ((wide_Int.f a0_0 a0_1).bind fun bt439 => ((lorgnetteref01_Small.f k t434 t435).bind fun t441 => (if (t441 != (bt439.2 == 0)) = true then (lorgnettelaw01_WideTexts.j0 k a1 a2 true a0_0 a0_1 t434 t435) else (if bt439.2 = 0 then ((wide_Of.f bt439.1).bind fun bt442 => (if (!(bt442.1 == a0_0) || (!(bt442.2 == a0_1))) = true then (lorgnettelaw01_WideTexts.j0 k a1 a2 true a0_0 a0_1 t434 t435) else (lorgnettelaw01_WideTexts.j0 k a1 a2 false a0_0 a0_1 t434 t435))) else (if bt439.2 = 10 then (lorgnettelaw01_WideTexts.j0 k a1 a2 (bt439.1 != 0) a0_0 a0_1 t434 t435) else (lorgnettelaw01_WideTexts.j0 k a1 a2 true a0_0 a0_1 t434 t435)))))) = some r := H
   have A9 := Aside0.mk A90
   clear A90
   replace H := Option.bind_eq_some_iff.mp H
   obtain ⟨⟨t439, t440⟩, A100, H⟩ := H
   replace H : ((lorgnetteref01_Small.f k t434 t435).bind fun t441 => (if (t441 != (t440 == 0)) = true then (lorgnettelaw01_WideTexts.j0 k a1 a2 true a0_0 a0_1 t434 t435) else (if t440 = 0 then ((wide_Of.f t439).bind fun bt442 => (if (!(bt442.1 == a0_0) || (!(bt442.2 == a0_1))) = true then (lorgnettelaw01_WideTexts.j0 k a1 a2 true a0_0 a0_1 t434 t435) else (lorgnettelaw01_WideTexts.j0 k a1 a2 false a0_0 a0_1 t434 t435))) else (if t440 = 10 then (lorgnettelaw01_WideTexts.j0 k a1 a2 (t439 != 0) a0_0 a0_1 t434 t435) else (lorgnettelaw01_WideTexts.j0 k a1 a2 true a0_0 a0_1 t434 t435))))) = some r := H
   have A10 := Aside0.mk A100
   clear A100
   have HC11 := Aside0.mk H
   clear H
   go_enter Try.func3, Try.ntmps3
   go_upto_region 7 with (first | ((with_reducible refine gate_dst (N := 3) rfl ?_); refine box_event ?hg (N := 3) ?hd (cs := #[.int .u64 a0_0, .int .u64 a0_1]) (t := 24) ?hr ?_; (case hd => rfl); (case hg => rfl); (case hr => first | (go_simp; done) | (go_simp; rfl)); intro gb432 hg w12 hbox hb; have n0_ := Aside0.mk (below_step (bL HB) hb); have n1_ := Aside0.mk (hbox); have n2_ := Aside0.mk ((by rw [hg]; exact (below_size (bL HB)) : w.heap.size ≤ gb432)); have n3_ := Aside0.mk ((by rw [hg]; exact (below_size (bL HB)) : w.heap.size ≤ gb432)); clear HB; have HB := n0_; have BK432 := n1_; have GW432 := n2_; have GE432 := n3_; clear n0_ n1_ n2_ n3_; clear hb hbox hg) | ((with_reducible refine gate_callee (f := 8) rfl ?_); refine goesL_ (some 16) rfl rfl Try.func8 (by kernel_rfl) rfl #[] rfl (by (try simp only [List.map_toArray, List.map_cons, List.map_nil]); first | done | rfl | (simp only [List.length_drop, List.length_take]; rfl) | (go_simp; simp only [u8_w, w64_u8]; done) | (go_simp; simp only [u8_w, w64_u8]; rfl)) ?_; (with_reducible refine (lorgnettelaw01_awake.calls k  true _ A4.out).mono ?_); rintro e w13 ⟨rfl, hb⟩; refine ⟨_, rfl, ?_⟩; have n0_ := blkB BK432 hb; have n1_ := Aside0.mk (below_step (bL HB) hb); clear BK432 HB; have BK432 := n0_; have HB := n1_; clear n0_ n1_; (try clear hb); (try clear hb2); (try clear hk); (try clear hi); have hcz14_0 : w13.cell? ⟨gb432, 0, none⟩ = some (.int .u64 a0_0) := (blk_cell BK432.out 0).trans rfl; have hcz14_1 : w13.cell? ⟨gb432, 1, none⟩ = some (.int .u64 a0_1) := (blk_cell BK432.out 1).trans rfl; have hfz14_0 := blk_frozen BK432.out 0; have hfz14_1 := blk_frozen BK432.out 1) | ((with_reducible refine gate_callee (f := 9) rfl ?_); refine goesL_ (some 22) rfl rfl Try.func9 (by kernel_rfl) rfl #[.agg #[.int .u64 a0_0, .int .u64 a0_1]] rfl (by (try simp only [List.map_toArray, List.map_cons, List.map_nil]); first | done | rfl | (simp only [List.length_drop, List.length_take]; rfl) | (go_simp; simp only [u8_w, w64_u8]; done) | (go_simp; simp only [u8_w, w64_u8]; rfl)) ?_; (with_reducible refine (lorgnetteref01_Of.calls k a0_0 a0_1 t434 t435 _ A9.out).mono ?_); rintro e w15 ⟨v436, rfl, ho0, hb⟩; refine ⟨_, rfl, ?_⟩; have n0_ := Aside0.mk (Kd.R_lower ho0 (below_size (bL HB))); have n1_ := blkB BK432 hb; have n2_ := Aside0.mk (below_step (bL HB) hb); clear BK432 HB; have HO437 := n0_; have BK432 := n1_; have HB := n2_; clear n0_ n1_ n2_; (try clear hb); (try clear hb2); (try clear hk); (try clear hi); (try clear ho0)) | ((with_reducible refine gate_dst (N := 7) rfl ?_); refine box_event ?hg (N := 7) ?hd (cs := #[.bool false, .slice none 0 0]) (t := 28) ?hr ?_; (case hd => rfl); (case hg => rfl); (case hr => first | (go_simp; done) | (go_simp; rfl)); intro gb438 hg w16 hbox hb; have n0_ := Aside0.mk (Kd.R_below (rN HO437) hb); have n1_ := blkB BK432 hb; have n2_ := Aside0.mk (below_step (bL HB) hb); have n3_ := Aside0.mk (hbox); have n4_ := Aside0.mk ((by rw [hg]; exact (below_size (bL HB)) : w.heap.size ≤ gb438)); have n5_ := Aside0.mk ((by rw [hg]; exact (below_size (bL HB)) : w.heap.size ≤ gb438)); have n6_ := blkL BK432 hg; have n7_ := blkG BK432 hg; clear HO437 BK432 HB; have HO437 := n0_; have BK432 := n1_; have HB := n2_; have BK438 := n3_; have GW438 := n4_; have GE438 := n5_; have NB432_438 := n6_; have NB438_432 := n7_; clear n0_ n1_ n2_ n3_ n4_ n5_ n6_ n7_; clear hb hbox hg; have hnb17 := NB438_432.out; have hnc17 := NB432_438.out; have hcz18_0 : w16.cell? ⟨gb438, 0, none⟩ = some (.bool false) := (blk_cell BK438.out 0).trans rfl; have hcz18_1 : w16.cell? ⟨gb438, 1, none⟩ = some (.slice none 0 0) := (blk_cell BK438.out 1).trans rfl; have hfz18_0 := blk_frozen BK438.out 0; have hfz18_1 := blk_frozen BK438.out 1; obtain ⟨Ao19, co19, eo19⟩ := Kd.R_slice HO437.out; subst eo19; have hcz20_0 : w16.cell? ⟨gb432, 0, none⟩ = some (.int .u64 a0_0) := (blk_cell BK432.out 0).trans rfl; have hcz20_1 : w16.cell? ⟨gb432, 1, none⟩ = some (.int .u64 a0_1) := (blk_cell BK432.out 1).trans rfl; have hfz20_0 := blk_frozen BK432.out 0; have hfz20_1 := blk_frozen BK432.out 1) | ((with_reducible refine gate_callee (f := 10) rfl ?_); refine goesL_ (some 25) rfl rfl Try.func10 (by kernel_rfl) rfl #[.agg #[.int .u64 a0_0, .int .u64 a0_1]] rfl (by (try simp only [List.map_toArray, List.map_cons, List.map_nil]); first | done | rfl | (simp only [List.length_drop, List.length_take]; rfl) | (go_simp; simp only [u8_w, w64_u8]; done) | (go_simp; simp only [u8_w, w64_u8]; rfl)) ?_; (with_reducible refine (wide_Int.calls a0_0 a0_1 t439 t440 _ A10.out).mono ?_); rintro e w21 ⟨rfl, hb⟩; refine ⟨_, rfl, ?_⟩; have n0_ := Aside0.mk (Kd.R_below (by (with_reducible repeat (first | apply Kd.R_alloc | apply Kd.R_drewN | apply Kd.R_drew)); exact (Kd.R_mono (Kd.R_far (p := ⟨gb438, 1, none⟩) (Kd.R_far (p := ⟨gb438, 0, none⟩) (Kd.R_types HO437.out BK438.out (by decide)) (fun _ hk => hk.2) (.bool t434)) (fun _ hk => hk.2) (.slice Ao19 t435.length co19)) (fun _ h_ => h_.1))) hb); have n1_ := Aside0.mk (blk_below (g := gb432) (o := .cells #[.int .u64 a0_0, .int .u64 a0_1] 24 (0, 0)) (bF BK432) hb); have n2_ := Aside0.mk (blk_below (g := gb438) (o := .cells #[.bool t434, .slice Ao19 t435.length co19] 28 (0, 0)) (by (with_reducible repeat (first | refine blk_drewN ?_ _ | refine blk_drew ?_ | refine blk_alloc ?_ _)); refine blk_put (cs := #[.bool t434, .slice none 0 0]) ?_ 1 _ rfl; (with_reducible repeat (first | refine blk_drewN ?_ _ | refine blk_drew ?_ | refine blk_alloc ?_ _)); refine blk_put (cs := #[.bool false, .slice none 0 0]) ?_ 0 _ rfl; (with_reducible repeat (first | refine blk_drewN ?_ _ | refine blk_drew ?_ | refine blk_alloc ?_ _)); exact BK438.out) hb); have n3_ := Aside0.mk (below_step (bL HB) hb); clear HO437 BK432 BK438 HB; have HO437 := n0_; have BK432 := n1_; have BK438 := n2_; have HB := n3_; clear n0_ n1_ n2_ n3_; (try clear hb); (try clear hb2); (try clear hk); (try clear hi)))
   (try simp only [Act.put, List.setIfInBounds_toArray, List.set_cons_zero, List.set_cons_succ])
   go_cut [54] (fun v54 wc => ∃ (kq : Nat) (x54_10 : Bool), v54 = .bool x54_10 ∧ Aside0 (lorgnettelaw01_WideTexts.j0 kq a1 a2 x54_10 a0_0 a0_1 t434 t435 = some r) ∧ Aside0 (kq ≤ k) ∧ Aside0 (Kd.R (Kd.int .i64) 3 wc w.heap.size (fun _ => True) (.slice Ao19 t435.length co19) t435) ∧ Aside0 (wc.heap[gb432]? = some (.cells #[.int .u64 a0_0, .int .u64 a0_1] 24 (0, 0))) ∧ Aside0 (wc.heap[gb438]? = some (.cells #[.bool t434, (.slice Ao19 t435.length co19)] 28 (0, 0))) ∧ Aside0 (Below w.heap.size w wc))
   case first =>
    have H := HC11.out
    clear HC11
    replace H := Option.bind_eq_some_iff.mp H
    obtain ⟨t441, A220, H⟩ := H
    replace H : (if (t441 != (t440 == 0)) = true then (lorgnettelaw01_WideTexts.j0 k a1 a2 true a0_0 a0_1 t434 t435) else (if t440 = 0 then ((wide_Of.f t439).bind fun bt442 => (if (!(bt442.1 == a0_0) || (!(bt442.2 == a0_1))) = true then (lorgnettelaw01_WideTexts.j0 k a1 a2 true a0_0 a0_1 t434 t435) else (lorgnettelaw01_WideTexts.j0 k a1 a2 false a0_0 a0_1 t434 t435))) else (if t440 = 10 then (lorgnettelaw01_WideTexts.j0 k a1 a2 (t439 != 0) a0_0 a0_1 t434 t435) else (lorgnettelaw01_WideTexts.j0 k a1 a2 true a0_0 a0_1 t434 t435)))) = some r := H
    have A22 := Aside0.mk A220
    clear A220
    by_cases c23 : (t441 != (t440 == 0)) = true
    ·rw [if_pos c23] at H
     have c23b0 : (t441 != (t440 == 0)) = true := c23
     (try (have c23b1 : decide (t441 = (t440 == 0)) = false := by simpa using c23))
     (try (have c23b2 : (t441 == (t440 == 0)) = false := by simpa using c23))
     (try (have c23b3 : ¬ (t441 = (t440 == 0)) := by simpa using c23))
     clear c23
     (first | rw [c23b0] | (simp only [i64_w, i32_w]; rw [c23b0]) | skip)
     have H' := Aside0.mk H
     clear H
     try go_wp2
     have n0_ := Aside0.mk (Kd.R_drew HO437.out)
     have n1_ := Aside0.mk (blk_drew BK432.out)
     have n2_ := Aside0.mk (blk_drew BK438.out)
     have n3_ := Aside0.mk (below_drew1 HB.out)
     clear HO437
     clear BK432
     clear BK438
     clear HB
     have HO437 := n0_
     have BK432 := n1_
     have BK438 := n2_
     have HB := n3_
     clear n0_ n1_ n2_ n3_
     refine start_ (n := 27) (S := fun w' => w'.cell? ⟨gb438, 0, none⟩ = some (.bool t434) ∧ w'.cell? ⟨gb438, 1, none⟩ = some (.slice Ao19 t435.length co19)) (ds := []) ba_27_0 (by kernel_rfl) rfl rfl ⟨(blk_cell BK438.out 0).trans rfl, (blk_cell BK438.out 1).trans rfl⟩ (fun hHeld => ?_); refine with_tabW lorgnettelaw01_WideTexts.tab7 lorgnettelaw01_WideTexts.bits7 (fun HT_ HW_ => ?_)
     generalize w21.drew = w24 at HO437 BK432 BK438 HB hHeld ⊢
     refine pure_ (i := 2) (N := some 30) (v := ?_) (a' := ?_) ba_27_1 rfl rfl (any_of HT_.out (by kernel_rfl)) (fun _ _ _ h => h) (Or.inl ⟨by rfl, ?_⟩) ?_ ?_
     rotate_left
     ·intro w'
      go_simp
      with_reducible rfl
     rotate_left
     ·simp only [Act.put, List.setIfInBounds_toArray, List.set_cons_zero, List.set_cons_succ, i64_w, i32_w]
      rfl
     refine pure_ (i := 3) (N := some 31) (v := ?_) (a' := ?_) ba_27_2 rfl rfl (any_of HT_.out (by kernel_rfl)) (fun _ _ _ h => h) (Or.inl ⟨by rfl, ?_⟩) ?_ ?_
     rotate_left
     ·intro w'
      go_simp
      with_reducible rfl
     rotate_left
     ·simp only [Act.put, List.setIfInBounds_toArray, List.set_cons_zero, List.set_cons_succ, i64_w, i32_w]
      rfl
     refine take_ (i := 0) (N := some 28) (v := ?_) (a' := ?_) ba_27_3 rfl rfl (take_ofW HT_.out HW_.out (by kernel_rfl)) (fun _ _ _ h => h) (Or.inl ⟨by rfl, ?_⟩) hHeld ?_ ?_
     rotate_left
     ·rintro w' ⟨s0, s1⟩
      go_simp
      with_reducible rfl
     rotate_left
     ·simp only [Act.put, List.setIfInBounds_toArray, List.set_cons_zero, List.set_cons_succ, i64_w, i32_w]
      rfl
     refine one_ (i := 1) (N := some 29) ba_27_4 rfl rfl (one_of HT_.out (by kernel_rfl)) (by decide) (fun K hK => ?_)
     refine goes_ Try.func11 (by kernel_rfl) rfl #[.agg #[.bool t434, .slice Ao19 t435.length co19]] (by rfl) rfl rfl (by (try simp only [List.map_toArray, List.map_cons, List.map_nil]); first | done | rfl | (simp only [List.length_drop, List.length_take]; rfl) | (go_simp; simp only [u8_w, w64_u8]; done) | (go_simp; simp only [u8_w, w64_u8]; rfl)) ?_
     with_reducible refine (lorgnetteref01_Small.calls k t434 _ _ t435 t441 _ ?side1 ?side2 A22.out).mono ?_
     (case side1 => repeat (first | exact (Kd.R_reads' HO437.out).2.2 | (with_reducible refine Kd.C_alloc ?_ _) | (with_reducible refine Kd.C_drewN ?_ _) | (with_reducible refine Kd.C_drew ?_)))
     (case side2 => exact (Kd.R_reads' HO437.out).2.1)
     rintro e w25 ⟨rfl, hb⟩
     refine ⟨_, rfl, ?_⟩
     have n0_ := Aside0.mk (Kd.R_below (rN HO437) hb)
     have n1_ := blkB BK432 hb
     have n2_ := blkB BK438 hb
     have n3_ := Aside0.mk (below_step (bL HB) hb)
     clear HO437
     clear BK432
     clear BK438
     clear HB
     have HO437 := n0_
     have BK432 := n1_
     have BK438 := n2_
     have HB := n3_
     clear n0_ n1_ n2_ n3_
     (try clear hb)
     (try clear hb2)
     (try clear hk)
     (try clear hi)
     refine hK.out _ _ ⟨(blk_cell BK438.out 0).trans rfl, (blk_cell BK438.out 1).trans rfl⟩ (fun hHeld => ?_)
     clear hK K
     refine norm_ (a' := ?_) ?_ ?_
     rotate_left
     ·show Act.put _ (some 29) _ = _
      simp only [Act.put, List.setIfInBounds_toArray, List.set_cons_zero, List.set_cons_succ, i64_w, i32_w]
      rfl
     refine pure_ (i := 4) (N := some 32) (v := ?_) (a' := ?_) ba_27_5 rfl rfl (any_of HT_.out (by kernel_rfl)) (fun _ _ _ h => h) (Or.inl ⟨by rfl, ?_⟩) ?_ ?_
     rotate_left
     ·intro w'
      go_simp
      with_reducible rfl
     rotate_left
     ·simp only [Act.put, List.setIfInBounds_toArray, List.set_cons_zero, List.set_cons_succ, i64_w, i32_w]
      rfl
     refine pure_ (i := 5) (N := some 33) (v := ?_) (a' := ?_) ba_27_6 rfl rfl (any_of HT_.out (by kernel_rfl)) (fun _ _ _ h => h) (Or.inl ⟨by rfl, ?_⟩) ?_ ?_
     rotate_left
     ·intro w'
      go_simp
      with_reducible rfl
     rotate_left
     ·simp only [Act.put, List.setIfInBounds_toArray, List.set_cons_zero, List.set_cons_succ, i64_w, i32_w]
      rfl
     refine pure_ (i := 6) (N := some 34) (v := undef) (a' := ?_) ba_27_7 rfl rfl (any_of HT_.out (by kernel_rfl)) (fun _ _ _ h => h) (Or.inr ⟨by rfl, rfl⟩) ?_ ?_
     rotate_left
     ·simp only [Act.put, List.setIfInBounds_toArray, List.set_cons_zero, List.set_cons_succ, i64_w, i32_w]
      rfl
     refine pure_ (i := 7) (N := some 35) (v := undef) (a' := ?_) ba_27_8 rfl rfl (any_of HT_.out (by kernel_rfl)) (fun _ _ _ h => h) (Or.inr ⟨by rfl, rfl⟩) ?_ ?_
     rotate_left
     ·simp only [Act.put, List.setIfInBounds_toArray, List.set_cons_zero, List.set_cons_succ, i64_w, i32_w]
      rfl
     refine pure_ (i := 8) (N := some 36) (v := undef) (a' := ?_) ba_27_9 rfl rfl (any_of HT_.out (by kernel_rfl)) (fun _ _ _ h => h) (Or.inr ⟨by rfl, rfl⟩) ?_ ?_
     rotate_left
     ·simp only [Act.put, List.setIfInBounds_toArray, List.set_cons_zero, List.set_cons_succ, i64_w, i32_w]
      rfl
     refine pure_ (i := 9) (N := some 37) (v := undef) (a' := ?_) ba_27_10 rfl rfl (any_of HT_.out (by kernel_rfl)) (fun _ _ _ h => h) (Or.inr ⟨by rfl, rfl⟩) ?_ ?_
     rotate_left
     ·simp only [Act.put, List.setIfInBounds_toArray, List.set_cons_zero, List.set_cons_succ, i64_w, i32_w]
      rfl
     refine pure_ (i := 10) (N := some 38) (v := undef) (a' := ?_) ba_27_11 rfl rfl (any_of HT_.out (by kernel_rfl)) (fun _ _ _ h => h) (Or.inr ⟨by rfl, rfl⟩) ?_ ?_
     rotate_left
     ·simp only [Act.put, List.setIfInBounds_toArray, List.set_cons_zero, List.set_cons_succ, i64_w, i32_w]
      rfl
     refine pure_ (i := 11) (N := some 39) (v := undef) (a' := ?_) ba_27_12 rfl rfl (any_of HT_.out (by kernel_rfl)) (fun _ _ _ h => h) (Or.inr ⟨by rfl, rfl⟩) ?_ ?_
     rotate_left
     ·simp only [Act.put, List.setIfInBounds_toArray, List.set_cons_zero, List.set_cons_succ, i64_w, i32_w]
      rfl
     refine pure_ (i := 12) (N := some 40) (v := undef) (a' := ?_) ba_27_13 rfl rfl (any_of HT_.out (by kernel_rfl)) (fun _ _ _ h => h) (Or.inr ⟨by rfl, rfl⟩) ?_ ?_
     rotate_left
     ·simp only [Act.put, List.setIfInBounds_toArray, List.set_cons_zero, List.set_cons_succ, i64_w, i32_w]
      rfl
     refine pure_ (i := 13) (N := some 41) (v := undef) (a' := ?_) ba_27_14 rfl rfl (any_of HT_.out (by kernel_rfl)) (fun _ _ _ h => h) (Or.inr ⟨by rfl, rfl⟩) ?_ ?_
     rotate_left
     ·simp only [Act.put, List.setIfInBounds_toArray, List.set_cons_zero, List.set_cons_succ, i64_w, i32_w]
      rfl
     refine pure_ (i := 14) (N := some 42) (v := ?_) (a' := ?_) ba_27_15 rfl rfl (any_of HT_.out (by kernel_rfl)) (fun _ _ _ h => h) (Or.inl ⟨by rfl, ?_⟩) ?_ ?_
     rotate_left
     ·intro w'
      go_simp
      with_reducible rfl
     rotate_left
     ·simp only [Act.put, List.setIfInBounds_toArray, List.set_cons_zero, List.set_cons_succ, i64_w, i32_w]
      rfl
     refine pure_ (i := 15) (N := some 43) (v := ?_) (a' := ?_) ba_27_16 rfl rfl (any_of HT_.out (by kernel_rfl)) (fun _ _ _ h => h) (Or.inl ⟨by rfl, ?_⟩) ?_ ?_
     rotate_left
     ·intro w'
      go_simp
      with_reducible rfl
     rotate_left
     ·simp only [Act.put, List.setIfInBounds_toArray, List.set_cons_zero, List.set_cons_succ, i64_w, i32_w]
      rfl
     refine pure_ (i := 16) (N := some 44) (v := undef) (a' := ?_) ba_27_17 rfl rfl (any_of HT_.out (by kernel_rfl)) (fun _ _ _ h => h) (Or.inr ⟨by rfl, rfl⟩) ?_ ?_
     rotate_left
     ·simp only [Act.put, List.setIfInBounds_toArray, List.set_cons_zero, List.set_cons_succ, i64_w, i32_w]
      rfl
     refine pure_ (i := 17) (N := some 45) (v := undef) (a' := ?_) ba_27_18 rfl rfl (any_of HT_.out (by kernel_rfl)) (fun _ _ _ h => h) (Or.inr ⟨by rfl, rfl⟩) ?_ ?_
     rotate_left
     ·simp only [Act.put, List.setIfInBounds_toArray, List.set_cons_zero, List.set_cons_succ, i64_w, i32_w]
      rfl
     refine pure_ (i := 18) (N := some 46) (v := undef) (a' := ?_) ba_27_19 rfl rfl (any_of HT_.out (by kernel_rfl)) (fun _ _ _ h => h) (Or.inr ⟨by rfl, rfl⟩) ?_ ?_
     rotate_left
     ·simp only [Act.put, List.setIfInBounds_toArray, List.set_cons_zero, List.set_cons_succ, i64_w, i32_w]
      rfl
     refine pure_ (i := 19) (N := some 47) (v := undef) (a' := ?_) ba_27_20 rfl rfl (any_of HT_.out (by kernel_rfl)) (fun _ _ _ h => h) (Or.inr ⟨by rfl, rfl⟩) ?_ ?_
     rotate_left
     ·simp only [Act.put, List.setIfInBounds_toArray, List.set_cons_zero, List.set_cons_succ, i64_w, i32_w]
      rfl
     refine pure_ (i := 20) (N := some 48) (v := undef) (a' := ?_) ba_27_21 rfl rfl (any_of HT_.out (by kernel_rfl)) (fun _ _ _ h => h) (Or.inr ⟨by rfl, rfl⟩) ?_ ?_
     rotate_left
     ·simp only [Act.put, List.setIfInBounds_toArray, List.set_cons_zero, List.set_cons_succ, i64_w, i32_w]
      rfl
     refine pure_ (i := 21) (N := some 49) (v := undef) (a' := ?_) ba_27_22 rfl rfl (any_of HT_.out (by kernel_rfl)) (fun _ _ _ h => h) (Or.inr ⟨by rfl, rfl⟩) ?_ ?_
     rotate_left
     ·simp only [Act.put, List.setIfInBounds_toArray, List.set_cons_zero, List.set_cons_succ, i64_w, i32_w]
      rfl
     refine pure_ (i := 22) (N := some 50) (v := undef) (a' := ?_) ba_27_23 rfl rfl (any_of HT_.out (by kernel_rfl)) (fun _ _ _ h => h) (Or.inr ⟨by rfl, rfl⟩) ?_ ?_
     rotate_left
     ·simp only [Act.put, List.setIfInBounds_toArray, List.set_cons_zero, List.set_cons_succ, i64_w, i32_w]
      rfl
     refine pure_ (i := 23) (N := some 51) (v := undef) (a' := ?_) ba_27_24 rfl rfl (any_of HT_.out (by kernel_rfl)) (fun _ _ _ h => h) (Or.inr ⟨by rfl, rfl⟩) ?_ ?_
     rotate_left
     ·simp only [Act.put, List.setIfInBounds_toArray, List.set_cons_zero, List.set_cons_succ, i64_w, i32_w]
      rfl
     refine pure_ (i := 24) (N := some 52) (v := undef) (a' := ?_) ba_27_25 rfl rfl (any_of HT_.out (by kernel_rfl)) (fun _ _ _ h => h) (Or.inr ⟨by rfl, rfl⟩) ?_ ?_
     rotate_left
     ·simp only [Act.put, List.setIfInBounds_toArray, List.set_cons_zero, List.set_cons_succ, i64_w, i32_w]
      rfl
     refine pure_ (i := 25) (N := some 53) (v := undef) (a' := ?_) ba_27_26 rfl rfl (any_of HT_.out (by kernel_rfl)) (fun _ _ _ h => h) (Or.inr ⟨by rfl, rfl⟩) ?_ ?_
     rotate_left
     ·simp only [Act.put, List.setIfInBounds_toArray, List.set_cons_zero, List.set_cons_succ, i64_w, i32_w]
      rfl
     refine pure_ (i := 26) (N := some 54) (v := ?_) (a' := ?_) ba_27_27 rfl rfl (any_of HT_.out (by kernel_rfl)) (fun _ _ _ h => h) (Or.inl ⟨by rfl, ?_⟩) ?_ ?_
     rotate_left
     ·intro w'
      go_simp
      with_reducible rfl
     rotate_left
     ·simp only [Act.put, List.setIfInBounds_toArray, List.set_cons_zero, List.set_cons_succ, i64_w, i32_w]
      rfl
     refine done_ (done_of HT_.out (by kernel_rfl)) ?_
     try go_wp2
     go_meet
     case rel => exact ⟨_, (true), (by first | rfl | (simp; done) | (simp [*]; done)), H', ⟨by first | omega | exact Nat.le_refl _⟩, ⟨by (with_reducible repeat (first | apply Kd.R_alloc | apply Kd.R_drewN | apply Kd.R_drew)); exact HO437.out⟩, ⟨bN BK432⟩, ⟨bN BK438⟩, ⟨by repeat (first | (with_reducible first | exact HB.out | apply below_alloc | apply pw_below_drewN | apply below_drew1 | refine below_set ?_ GE432.out | refine below_set ?_ GE438.out) | exact HB.out)⟩⟩
    ·rw [if_neg c23] at H
     have c23b0 : (t441 != (t440 == 0)) = false := by simpa using c23
     (try (have c23b1 : decide (t441 = (t440 == 0)) = true := by simpa using c23))
     (try (have c23b2 : (t441 == (t440 == 0)) = true := by simpa using c23))
     clear c23
     (first | rw [c23b0] | (simp only [i64_w, i32_w]; rw [c23b0]) | skip)
     by_cases c26 : t440 = 0
     ·rw [if_pos c26] at H
      have c26b0 : (t440 == 0) = true := beq_iff_eq.mpr c26
      have c26b1 : (t440 != 0) = false := bne_eq_false_iff_eq.mpr c26
      have e23_ : t441 = true := by simpa [c26b0] using c23b0
      subst e23_
      clear c26
      replace H := Option.bind_eq_some_iff.mp H
      obtain ⟨⟨t442, t443⟩, A270, H⟩ := H
      replace H : (if (!(t442 == a0_0) || (!(t443 == a0_1))) = true then (lorgnettelaw01_WideTexts.j0 k a1 a2 true a0_0 a0_1 t434 t435) else (lorgnettelaw01_WideTexts.j0 k a1 a2 false a0_0 a0_1 t434 t435)) = some r := H
      have A27 := Aside0.mk A270
      clear A270
      by_cases c28 : (!(t442 == a0_0) || (!(t443 == a0_1))) = true
      ·rw [if_pos c28] at H
       have c28b0 : (!(t442 == a0_0) || (!(t443 == a0_1))) = true := c28
       clear c28
       have H' := Aside0.mk H
       clear H
       try go_wp2
       have n0_ := Aside0.mk (Kd.R_drew HO437.out)
       have n1_ := Aside0.mk (blk_drew BK432.out)
       have n2_ := Aside0.mk (blk_drew BK438.out)
       have n3_ := Aside0.mk (below_drew1 HB.out)
       clear HO437
       clear BK432
       clear BK438
       clear HB
       have HO437 := n0_
       have BK432 := n1_
       have BK438 := n2_
       have HB := n3_
       clear n0_ n1_ n2_ n3_
       refine start_ (n := 27) (S := fun w' => w'.cell? ⟨gb438, 0, none⟩ = some (.bool t434) ∧ w'.cell? ⟨gb438, 1, none⟩ = some (.slice Ao19 t435.length co19) ∧ w'.cell? ⟨gb432, 0, none⟩ = some (.int .u64 a0_0) ∧ w'.cell? ⟨gb432, 1, none⟩ = some (.int .u64 a0_1)) (ds := []) ba_27_0 (by kernel_rfl) rfl rfl ⟨(blk_cell BK438.out 0).trans rfl, (blk_cell BK438.out 1).trans rfl, (blk_cell BK432.out 0).trans rfl, (blk_cell BK432.out 1).trans rfl⟩ (fun hHeld => ?_); refine with_tabW lorgnettelaw01_WideTexts.tab7 lorgnettelaw01_WideTexts.bits7 (fun HT_ HW_ => ?_)
       generalize w21.drew = w29 at HO437 BK432 BK438 HB hHeld ⊢
       refine pure_ (i := 2) (N := some 30) (v := ?_) (a' := ?_) ba_27_1 rfl rfl (any_of HT_.out (by kernel_rfl)) (fun _ _ _ h => h) (Or.inl ⟨by rfl, ?_⟩) ?_ ?_
       rotate_left
       ·intro w'
        go_simp
        with_reducible rfl
       rotate_left
       ·simp only [Act.put, List.setIfInBounds_toArray, List.set_cons_zero, List.set_cons_succ, i64_w, i32_w]
        rfl
       refine pure_ (i := 3) (N := some 31) (v := ?_) (a' := ?_) ba_27_2 rfl rfl (any_of HT_.out (by kernel_rfl)) (fun _ _ _ h => h) (Or.inl ⟨by rfl, ?_⟩) ?_ ?_
       rotate_left
       ·intro w'
        go_simp
        with_reducible rfl
       rotate_left
       ·simp only [Act.put, List.setIfInBounds_toArray, List.set_cons_zero, List.set_cons_succ, i64_w, i32_w]
        rfl
       refine take_ (i := 0) (N := some 28) (v := ?_) (a' := ?_) ba_27_3 rfl rfl (take_ofW HT_.out HW_.out (by kernel_rfl)) (fun _ _ _ h => h) (Or.inl ⟨by rfl, ?_⟩) hHeld ?_ ?_
       rotate_left
       ·rintro w' ⟨s0, s1, s2, s3⟩
        go_simp
        with_reducible rfl
       rotate_left
       ·simp only [Act.put, List.setIfInBounds_toArray, List.set_cons_zero, List.set_cons_succ, i64_w, i32_w]
        rfl
       refine one_ (i := 1) (N := some 29) ba_27_4 rfl rfl (one_of HT_.out (by kernel_rfl)) (by decide) (fun K hK => ?_)
       refine goes_ Try.func11 (by kernel_rfl) rfl #[.agg #[.bool t434, .slice Ao19 t435.length co19]] (by rfl) rfl rfl (by (try simp only [List.map_toArray, List.map_cons, List.map_nil]); first | done | rfl | (simp only [List.length_drop, List.length_take]; rfl) | (go_simp; simp only [u8_w, w64_u8]; done) | (go_simp; simp only [u8_w, w64_u8]; rfl)) ?_
       with_reducible refine (lorgnetteref01_Small.calls k t434 _ _ t435 true _ ?side1 ?side2 A22.out).mono ?_
       (case side1 => repeat (first | exact (Kd.R_reads' HO437.out).2.2 | (with_reducible refine Kd.C_alloc ?_ _) | (with_reducible refine Kd.C_drewN ?_ _) | (with_reducible refine Kd.C_drew ?_)))
       (case side2 => exact (Kd.R_reads' HO437.out).2.1)
       rintro e w30 ⟨rfl, hb⟩
       refine ⟨_, rfl, ?_⟩
       have n0_ := Aside0.mk (Kd.R_below (rN HO437) hb)
       have n1_ := blkB BK432 hb
       have n2_ := blkB BK438 hb
       have n3_ := Aside0.mk (below_step (bL HB) hb)
       clear HO437
       clear BK432
       clear BK438
       clear HB
       have HO437 := n0_
       have BK432 := n1_
       have BK438 := n2_
       have HB := n3_
       clear n0_ n1_ n2_ n3_
       (try clear hb)
       (try clear hb2)
       (try clear hk)
       (try clear hi)
       refine hK.out _ _ ⟨(blk_cell BK438.out 0).trans rfl, (blk_cell BK438.out 1).trans rfl, (blk_cell BK432.out 0).trans rfl, (blk_cell BK432.out 1).trans rfl⟩ (fun hHeld => ?_)
       clear hK K
       refine norm_ (a' := ?_) ?_ ?_
       rotate_left
       ·show Act.put _ (some 29) _ = _
        simp only [Act.put, List.setIfInBounds_toArray, List.set_cons_zero, List.set_cons_succ, i64_w, i32_w]
        rfl
       refine pure_ (i := 4) (N := some 32) (v := ?_) (a' := ?_) ba_27_5 rfl rfl (any_of HT_.out (by kernel_rfl)) (fun _ _ _ h => h) (Or.inl ⟨by rfl, ?_⟩) ?_ ?_
       rotate_left
       ·intro w'
        go_simp
        with_reducible rfl
       rotate_left
       ·simp only [Act.put, List.setIfInBounds_toArray, List.set_cons_zero, List.set_cons_succ, i64_w, i32_w]
        rfl
       refine pure_ (i := 5) (N := some 33) (v := ?_) (a' := ?_) ba_27_6 rfl rfl (any_of HT_.out (by kernel_rfl)) (fun _ _ _ h => h) (Or.inl ⟨by rfl, ?_⟩) ?_ ?_
       rotate_left
       ·intro w'
        go_simp
        with_reducible rfl
       rotate_left
       ·simp only [Act.put, List.setIfInBounds_toArray, List.set_cons_zero, List.set_cons_succ, i64_w, i32_w]
        rfl
       refine pure_ (i := 6) (N := some 34) (v := ?_) (a' := ?_) ba_27_7 rfl rfl (any_of HT_.out (by kernel_rfl)) (fun _ _ _ h => h) (Or.inl ⟨by rfl, ?_⟩) ?_ ?_
       rotate_left
       ·intro w'
        go_simp
        with_reducible rfl
       rotate_left
       ·simp only [Act.put, List.setIfInBounds_toArray, List.set_cons_zero, List.set_cons_succ, i64_w, i32_w]
        rfl
       refine pure_ (i := 7) (N := some 35) (v := ?_) (a' := ?_) ba_27_8 rfl rfl (any_of HT_.out (by kernel_rfl)) (fun _ _ _ h => h) (Or.inl ⟨by rfl, ?_⟩) ?_ ?_
       rotate_left
       ·intro w'
        go_simp
        with_reducible rfl
       rotate_left
       ·simp only [Act.put, List.setIfInBounds_toArray, List.set_cons_zero, List.set_cons_succ, i64_w, i32_w]
        rfl
       refine pure_ (i := 8) (N := some 36) (v := ?_) (a' := ?_) ba_27_9 rfl rfl (any_of HT_.out (by kernel_rfl)) (fun _ _ _ h => h) (Or.inl ⟨by rfl, ?_⟩) ?_ ?_
       rotate_left
       ·intro w'
        go_simp
        with_reducible rfl
       rotate_left
       ·simp only [Act.put, List.setIfInBounds_toArray, List.set_cons_zero, List.set_cons_succ, i64_w, i32_w]
        rfl
       refine pure_ (i := 9) (N := some 37) (v := ?_) (a' := ?_) ba_27_10 rfl rfl (any_of HT_.out (by kernel_rfl)) (fun _ _ _ h => h) (Or.inl ⟨by rfl, ?_⟩) ?_ ?_
       rotate_left
       ·intro w'
        go_simp
        with_reducible rfl
       rotate_left
       ·simp only [Act.put, List.setIfInBounds_toArray, List.set_cons_zero, List.set_cons_succ, i64_w, i32_w]
        rfl
       refine take_ (i := 11) (N := some 39) (v := ?_) (a' := ?_) ba_27_28 rfl rfl (take_ofW HT_.out HW_.out (by kernel_rfl)) (fun _ _ _ h => h) (Or.inl ⟨by rfl, ?_⟩) hHeld ?_ ?_
       rotate_left
       ·rintro w' ⟨s0, s1, s2, s3⟩
        go_simp
        with_reducible rfl
       rotate_left
       ·simp only [Act.put, List.setIfInBounds_toArray, List.set_cons_zero, List.set_cons_succ, i64_w, i32_w]
        rfl
       refine one_ (i := 10) (N := some 38) ba_27_12 rfl rfl (one_of HT_.out (by kernel_rfl)) (by decide) (fun K hK => ?_)
       refine goes_ Try.func12 (by kernel_rfl) rfl #[.int .i64 t439] (by rfl) rfl rfl (by (try simp only [List.map_toArray, List.map_cons, List.map_nil]); first | done | rfl | (simp only [List.length_drop, List.length_take]; rfl) | (go_simp; simp only [u8_w, w64_u8]; done) | (go_simp; simp only [u8_w, w64_u8]; rfl)) ?_
       with_reducible refine (wide_Of.calls t439 t442 t443 _ A27.out).mono ?_
       rintro e w31 ⟨rfl, hb⟩
       refine ⟨_, rfl, ?_⟩
       have n0_ := Aside0.mk (Kd.R_below (rN HO437) hb)
       have n1_ := blkB BK432 hb
       have n2_ := blkB BK438 hb
       have n3_ := Aside0.mk (below_step (bL HB) hb)
       clear HO437
       clear BK432
       clear BK438
       clear HB
       have HO437 := n0_
       have BK432 := n1_
       have BK438 := n2_
       have HB := n3_
       clear n0_ n1_ n2_ n3_
       (try clear hb)
       (try clear hb2)
       (try clear hk)
       (try clear hi)
       refine hK.out _ _ ⟨(blk_cell BK438.out 0).trans rfl, (blk_cell BK438.out 1).trans rfl, (blk_cell BK432.out 0).trans rfl, (blk_cell BK432.out 1).trans rfl⟩ (fun hHeld => ?_)
       clear hK K
       refine norm_ (a' := ?_) ?_ ?_
       rotate_left
       ·show Act.put _ (some 38) _ = _
        simp only [Act.put, List.setIfInBounds_toArray, List.set_cons_zero, List.set_cons_succ, i64_w, i32_w]
        rfl
       refine pure_ (i := 12) (N := some 40) (v := ?_) (a' := ?_) ba_27_13 rfl rfl (any_of HT_.out (by kernel_rfl)) (fun _ _ _ h => h) (Or.inl ⟨by rfl, ?_⟩) ?_ ?_
       rotate_left
       ·intro w'
        go_simp
        with_reducible rfl
       rotate_left
       ·simp only [Act.put, List.setIfInBounds_toArray, List.set_cons_zero, List.set_cons_succ, i64_w, i32_w]
        rfl
       refine pure_ (i := 13) (N := some 41) (v := ?_) (a' := ?_) ba_27_14 rfl rfl (any_of HT_.out (by kernel_rfl)) (fun _ _ _ h => h) (Or.inl ⟨by rfl, ?_⟩) ?_ ?_
       rotate_left
       ·intro w'
        go_simp
        with_reducible rfl
       rotate_left
       ·simp only [Act.put, List.setIfInBounds_toArray, List.set_cons_zero, List.set_cons_succ, i64_w, i32_w]
        rfl
       refine pure_ (i := 14) (N := some 42) (v := ?_) (a' := ?_) ba_27_15 rfl rfl (any_of HT_.out (by kernel_rfl)) (fun _ _ _ h => h) (Or.inl ⟨by rfl, ?_⟩) ?_ ?_
       rotate_left
       ·intro w'
        go_simp
        with_reducible rfl
       rotate_left
       ·simp only [Act.put, List.setIfInBounds_toArray, List.set_cons_zero, List.set_cons_succ, i64_w, i32_w]
        rfl
       refine pure_ (i := 15) (N := some 43) (v := ?_) (a' := ?_) ba_27_16 rfl rfl (any_of HT_.out (by kernel_rfl)) (fun _ _ _ h => h) (Or.inl ⟨by rfl, ?_⟩) ?_ ?_
       rotate_left
       ·intro w'
        go_simp
        with_reducible rfl
       rotate_left
       ·simp only [Act.put, List.setIfInBounds_toArray, List.set_cons_zero, List.set_cons_succ, i64_w, i32_w]
        rfl
       refine pure_ (i := 16) (N := some 44) (v := undef) (a' := ?_) ba_27_17 rfl rfl (any_of HT_.out (by kernel_rfl)) (fun _ _ _ h => h) (Or.inr ⟨by rfl, rfl⟩) ?_ ?_
       rotate_left
       ·simp only [Act.put, List.setIfInBounds_toArray, List.set_cons_zero, List.set_cons_succ, i64_w, i32_w]
        rfl
       refine pure_ (i := 17) (N := some 45) (v := undef) (a' := ?_) ba_27_18 rfl rfl (any_of HT_.out (by kernel_rfl)) (fun _ _ _ h => h) (Or.inr ⟨by rfl, rfl⟩) ?_ ?_
       rotate_left
       ·simp only [Act.put, List.setIfInBounds_toArray, List.set_cons_zero, List.set_cons_succ, i64_w, i32_w]
        rfl
       refine pure_ (i := 18) (N := some 46) (v := undef) (a' := ?_) ba_27_19 rfl rfl (any_of HT_.out (by kernel_rfl)) (fun _ _ _ h => h) (Or.inr ⟨by rfl, rfl⟩) ?_ ?_
       rotate_left
       ·simp only [Act.put, List.setIfInBounds_toArray, List.set_cons_zero, List.set_cons_succ, i64_w, i32_w]
        rfl
       refine pure_ (i := 19) (N := some 47) (v := undef) (a' := ?_) ba_27_20 rfl rfl (any_of HT_.out (by kernel_rfl)) (fun _ _ _ h => h) (Or.inr ⟨by rfl, rfl⟩) ?_ ?_
       rotate_left
       ·simp only [Act.put, List.setIfInBounds_toArray, List.set_cons_zero, List.set_cons_succ, i64_w, i32_w]
        rfl
       refine pure_ (i := 20) (N := some 48) (v := undef) (a' := ?_) ba_27_21 rfl rfl (any_of HT_.out (by kernel_rfl)) (fun _ _ _ h => h) (Or.inr ⟨by rfl, rfl⟩) ?_ ?_
       rotate_left
       ·simp only [Act.put, List.setIfInBounds_toArray, List.set_cons_zero, List.set_cons_succ, i64_w, i32_w]
        rfl
       refine pure_ (i := 21) (N := some 49) (v := undef) (a' := ?_) ba_27_22 rfl rfl (any_of HT_.out (by kernel_rfl)) (fun _ _ _ h => h) (Or.inr ⟨by rfl, rfl⟩) ?_ ?_
       rotate_left
       ·simp only [Act.put, List.setIfInBounds_toArray, List.set_cons_zero, List.set_cons_succ, i64_w, i32_w]
        rfl
       refine pure_ (i := 22) (N := some 50) (v := undef) (a' := ?_) ba_27_23 rfl rfl (any_of HT_.out (by kernel_rfl)) (fun _ _ _ h => h) (Or.inr ⟨by rfl, rfl⟩) ?_ ?_
       rotate_left
       ·simp only [Act.put, List.setIfInBounds_toArray, List.set_cons_zero, List.set_cons_succ, i64_w, i32_w]
        rfl
       refine pure_ (i := 23) (N := some 51) (v := undef) (a' := ?_) ba_27_24 rfl rfl (any_of HT_.out (by kernel_rfl)) (fun _ _ _ h => h) (Or.inr ⟨by rfl, rfl⟩) ?_ ?_
       rotate_left
       ·simp only [Act.put, List.setIfInBounds_toArray, List.set_cons_zero, List.set_cons_succ, i64_w, i32_w]
        rfl
       refine pure_ (i := 24) (N := some 52) (v := undef) (a' := ?_) ba_27_25 rfl rfl (any_of HT_.out (by kernel_rfl)) (fun _ _ _ h => h) (Or.inr ⟨by rfl, rfl⟩) ?_ ?_
       rotate_left
       ·simp only [Act.put, List.setIfInBounds_toArray, List.set_cons_zero, List.set_cons_succ, i64_w, i32_w]
        rfl
       refine pure_ (i := 25) (N := some 53) (v := undef) (a' := ?_) ba_27_26 rfl rfl (any_of HT_.out (by kernel_rfl)) (fun _ _ _ h => h) (Or.inr ⟨by rfl, rfl⟩) ?_ ?_
       rotate_left
       ·simp only [Act.put, List.setIfInBounds_toArray, List.set_cons_zero, List.set_cons_succ, i64_w, i32_w]
        rfl
       refine pure_ (i := 26) (N := some 54) (v := ?_) (a' := ?_) ba_27_27 rfl rfl (any_of HT_.out (by kernel_rfl)) (fun _ _ _ h => h) (Or.inl ⟨by rfl, ?_⟩) ?_ ?_
       rotate_left
       ·intro w'
        go_simp
        with_reducible rfl
       rotate_left
       ·simp only [Act.put, List.setIfInBounds_toArray, List.set_cons_zero, List.set_cons_succ, i64_w, i32_w]
        rfl
       refine done_ (done_of HT_.out (by kernel_rfl)) ?_
       try go_wp2
       go_meet
       case rel => exact ⟨_, (true), (by first | rfl | (simp; done) | (simp [*]; done)), H', ⟨by first | omega | exact Nat.le_refl _⟩, ⟨by (with_reducible repeat (first | apply Kd.R_alloc | apply Kd.R_drewN | apply Kd.R_drew)); exact HO437.out⟩, ⟨bN BK432⟩, ⟨bN BK438⟩, ⟨by repeat (first | (with_reducible first | exact HB.out | apply below_alloc | apply pw_below_drewN | apply below_drew1 | refine below_set ?_ GE432.out | refine below_set ?_ GE438.out) | exact HB.out)⟩⟩
      ·rw [if_neg c28] at H
       have c28b0 : (!(t442 == a0_0) || (!(t443 == a0_1))) = false := by simpa using c28
       clear c28
       have H' := Aside0.mk H
       clear H
       try go_wp2
       have n0_ := Aside0.mk (Kd.R_drew HO437.out)
       have n1_ := Aside0.mk (blk_drew BK432.out)
       have n2_ := Aside0.mk (blk_drew BK438.out)
       have n3_ := Aside0.mk (below_drew1 HB.out)
       clear HO437
       clear BK432
       clear BK438
       clear HB
       have HO437 := n0_
       have BK432 := n1_
       have BK438 := n2_
       have HB := n3_
       clear n0_ n1_ n2_ n3_
       refine start_ (n := 27) (S := fun w' => w'.cell? ⟨gb438, 0, none⟩ = some (.bool t434) ∧ w'.cell? ⟨gb438, 1, none⟩ = some (.slice Ao19 t435.length co19) ∧ w'.cell? ⟨gb432, 0, none⟩ = some (.int .u64 a0_0) ∧ w'.cell? ⟨gb432, 1, none⟩ = some (.int .u64 a0_1)) (ds := []) ba_27_0 (by kernel_rfl) rfl rfl ⟨(blk_cell BK438.out 0).trans rfl, (blk_cell BK438.out 1).trans rfl, (blk_cell BK432.out 0).trans rfl, (blk_cell BK432.out 1).trans rfl⟩ (fun hHeld => ?_); refine with_tabW lorgnettelaw01_WideTexts.tab7 lorgnettelaw01_WideTexts.bits7 (fun HT_ HW_ => ?_)
       generalize w21.drew = w32 at HO437 BK432 BK438 HB hHeld ⊢
       refine pure_ (i := 2) (N := some 30) (v := ?_) (a' := ?_) ba_27_1 rfl rfl (any_of HT_.out (by kernel_rfl)) (fun _ _ _ h => h) (Or.inl ⟨by rfl, ?_⟩) ?_ ?_
       rotate_left
       ·intro w'
        go_simp
        with_reducible rfl
       rotate_left
       ·simp only [Act.put, List.setIfInBounds_toArray, List.set_cons_zero, List.set_cons_succ, i64_w, i32_w]
        rfl
       refine pure_ (i := 3) (N := some 31) (v := ?_) (a' := ?_) ba_27_2 rfl rfl (any_of HT_.out (by kernel_rfl)) (fun _ _ _ h => h) (Or.inl ⟨by rfl, ?_⟩) ?_ ?_
       rotate_left
       ·intro w'
        go_simp
        with_reducible rfl
       rotate_left
       ·simp only [Act.put, List.setIfInBounds_toArray, List.set_cons_zero, List.set_cons_succ, i64_w, i32_w]
        rfl
       refine take_ (i := 0) (N := some 28) (v := ?_) (a' := ?_) ba_27_3 rfl rfl (take_ofW HT_.out HW_.out (by kernel_rfl)) (fun _ _ _ h => h) (Or.inl ⟨by rfl, ?_⟩) hHeld ?_ ?_
       rotate_left
       ·rintro w' ⟨s0, s1, s2, s3⟩
        go_simp
        with_reducible rfl
       rotate_left
       ·simp only [Act.put, List.setIfInBounds_toArray, List.set_cons_zero, List.set_cons_succ, i64_w, i32_w]
        rfl
       refine one_ (i := 1) (N := some 29) ba_27_4 rfl rfl (one_of HT_.out (by kernel_rfl)) (by decide) (fun K hK => ?_)
       refine goes_ Try.func11 (by kernel_rfl) rfl #[.agg #[.bool t434, .slice Ao19 t435.length co19]] (by rfl) rfl rfl (by (try simp only [List.map_toArray, List.map_cons, List.map_nil]); first | done | rfl | (simp only [List.length_drop, List.length_take]; rfl) | (go_simp; simp only [u8_w, w64_u8]; done) | (go_simp; simp only [u8_w, w64_u8]; rfl)) ?_
       with_reducible refine (lorgnetteref01_Small.calls k t434 _ _ t435 true _ ?side1 ?side2 A22.out).mono ?_
       (case side1 => repeat (first | exact (Kd.R_reads' HO437.out).2.2 | (with_reducible refine Kd.C_alloc ?_ _) | (with_reducible refine Kd.C_drewN ?_ _) | (with_reducible refine Kd.C_drew ?_)))
       (case side2 => exact (Kd.R_reads' HO437.out).2.1)
       rintro e w33 ⟨rfl, hb⟩
       refine ⟨_, rfl, ?_⟩
       have n0_ := Aside0.mk (Kd.R_below (rN HO437) hb)
       have n1_ := blkB BK432 hb
       have n2_ := blkB BK438 hb
       have n3_ := Aside0.mk (below_step (bL HB) hb)
       clear HO437
       clear BK432
       clear BK438
       clear HB
       have HO437 := n0_
       have BK432 := n1_
       have BK438 := n2_
       have HB := n3_
       clear n0_ n1_ n2_ n3_
       (try clear hb)
       (try clear hb2)
       (try clear hk)
       (try clear hi)
       refine hK.out _ _ ⟨(blk_cell BK438.out 0).trans rfl, (blk_cell BK438.out 1).trans rfl, (blk_cell BK432.out 0).trans rfl, (blk_cell BK432.out 1).trans rfl⟩ (fun hHeld => ?_)
       clear hK K
       refine norm_ (a' := ?_) ?_ ?_
       rotate_left
       ·show Act.put _ (some 29) _ = _
        simp only [Act.put, List.setIfInBounds_toArray, List.set_cons_zero, List.set_cons_succ, i64_w, i32_w]
        rfl
       refine pure_ (i := 4) (N := some 32) (v := ?_) (a' := ?_) ba_27_5 rfl rfl (any_of HT_.out (by kernel_rfl)) (fun _ _ _ h => h) (Or.inl ⟨by rfl, ?_⟩) ?_ ?_
       rotate_left
       ·intro w'
        go_simp
        with_reducible rfl
       rotate_left
       ·simp only [Act.put, List.setIfInBounds_toArray, List.set_cons_zero, List.set_cons_succ, i64_w, i32_w]
        rfl
       refine pure_ (i := 5) (N := some 33) (v := ?_) (a' := ?_) ba_27_6 rfl rfl (any_of HT_.out (by kernel_rfl)) (fun _ _ _ h => h) (Or.inl ⟨by rfl, ?_⟩) ?_ ?_
       rotate_left
       ·intro w'
        go_simp
        with_reducible rfl
       rotate_left
       ·simp only [Act.put, List.setIfInBounds_toArray, List.set_cons_zero, List.set_cons_succ, i64_w, i32_w]
        rfl
       refine pure_ (i := 6) (N := some 34) (v := ?_) (a' := ?_) ba_27_7 rfl rfl (any_of HT_.out (by kernel_rfl)) (fun _ _ _ h => h) (Or.inl ⟨by rfl, ?_⟩) ?_ ?_
       rotate_left
       ·intro w'
        go_simp
        with_reducible rfl
       rotate_left
       ·simp only [Act.put, List.setIfInBounds_toArray, List.set_cons_zero, List.set_cons_succ, i64_w, i32_w]
        rfl
       refine pure_ (i := 7) (N := some 35) (v := ?_) (a' := ?_) ba_27_8 rfl rfl (any_of HT_.out (by kernel_rfl)) (fun _ _ _ h => h) (Or.inl ⟨by rfl, ?_⟩) ?_ ?_
       rotate_left
       ·intro w'
        go_simp
        with_reducible rfl
       rotate_left
       ·simp only [Act.put, List.setIfInBounds_toArray, List.set_cons_zero, List.set_cons_succ, i64_w, i32_w]
        rfl
       refine pure_ (i := 8) (N := some 36) (v := ?_) (a' := ?_) ba_27_9 rfl rfl (any_of HT_.out (by kernel_rfl)) (fun _ _ _ h => h) (Or.inl ⟨by rfl, ?_⟩) ?_ ?_
       rotate_left
       ·intro w'
        go_simp
        with_reducible rfl
       rotate_left
       ·simp only [Act.put, List.setIfInBounds_toArray, List.set_cons_zero, List.set_cons_succ, i64_w, i32_w]
        rfl
       refine pure_ (i := 9) (N := some 37) (v := ?_) (a' := ?_) ba_27_10 rfl rfl (any_of HT_.out (by kernel_rfl)) (fun _ _ _ h => h) (Or.inl ⟨by rfl, ?_⟩) ?_ ?_
       rotate_left
       ·intro w'
        go_simp
        with_reducible rfl
       rotate_left
       ·simp only [Act.put, List.setIfInBounds_toArray, List.set_cons_zero, List.set_cons_succ, i64_w, i32_w]
        rfl
       refine take_ (i := 11) (N := some 39) (v := ?_) (a' := ?_) ba_27_28 rfl rfl (take_ofW HT_.out HW_.out (by kernel_rfl)) (fun _ _ _ h => h) (Or.inl ⟨by rfl, ?_⟩) hHeld ?_ ?_
       rotate_left
       ·rintro w' ⟨s0, s1, s2, s3⟩
        go_simp
        with_reducible rfl
       rotate_left
       ·simp only [Act.put, List.setIfInBounds_toArray, List.set_cons_zero, List.set_cons_succ, i64_w, i32_w]
        rfl
       refine one_ (i := 10) (N := some 38) ba_27_12 rfl rfl (one_of HT_.out (by kernel_rfl)) (by decide) (fun K hK => ?_)
       refine goes_ Try.func12 (by kernel_rfl) rfl #[.int .i64 t439] (by rfl) rfl rfl (by (try simp only [List.map_toArray, List.map_cons, List.map_nil]); first | done | rfl | (simp only [List.length_drop, List.length_take]; rfl) | (go_simp; simp only [u8_w, w64_u8]; done) | (go_simp; simp only [u8_w, w64_u8]; rfl)) ?_
       with_reducible refine (wide_Of.calls t439 t442 t443 _ A27.out).mono ?_
       rintro e w34 ⟨rfl, hb⟩
       refine ⟨_, rfl, ?_⟩
       have n0_ := Aside0.mk (Kd.R_below (rN HO437) hb)
       have n1_ := blkB BK432 hb
       have n2_ := blkB BK438 hb
       have n3_ := Aside0.mk (below_step (bL HB) hb)
       clear HO437
       clear BK432
       clear BK438
       clear HB
       have HO437 := n0_
       have BK432 := n1_
       have BK438 := n2_
       have HB := n3_
       clear n0_ n1_ n2_ n3_
       (try clear hb)
       (try clear hb2)
       (try clear hk)
       (try clear hi)
       refine hK.out _ _ ⟨(blk_cell BK438.out 0).trans rfl, (blk_cell BK438.out 1).trans rfl, (blk_cell BK432.out 0).trans rfl, (blk_cell BK432.out 1).trans rfl⟩ (fun hHeld => ?_)
       clear hK K
       refine norm_ (a' := ?_) ?_ ?_
       rotate_left
       ·show Act.put _ (some 38) _ = _
        simp only [Act.put, List.setIfInBounds_toArray, List.set_cons_zero, List.set_cons_succ, i64_w, i32_w]
        rfl
       refine pure_ (i := 12) (N := some 40) (v := ?_) (a' := ?_) ba_27_13 rfl rfl (any_of HT_.out (by kernel_rfl)) (fun _ _ _ h => h) (Or.inl ⟨by rfl, ?_⟩) ?_ ?_
       rotate_left
       ·intro w'
        go_simp
        with_reducible rfl
       rotate_left
       ·simp only [Act.put, List.setIfInBounds_toArray, List.set_cons_zero, List.set_cons_succ, i64_w, i32_w]
        rfl
       refine pure_ (i := 13) (N := some 41) (v := ?_) (a' := ?_) ba_27_14 rfl rfl (any_of HT_.out (by kernel_rfl)) (fun _ _ _ h => h) (Or.inl ⟨by rfl, ?_⟩) ?_ ?_
       rotate_left
       ·intro w'
        go_simp
        with_reducible rfl
       rotate_left
       ·simp only [Act.put, List.setIfInBounds_toArray, List.set_cons_zero, List.set_cons_succ, i64_w, i32_w]
        rfl
       refine pure_ (i := 14) (N := some 42) (v := ?_) (a' := ?_) ba_27_15 rfl rfl (any_of HT_.out (by kernel_rfl)) (fun _ _ _ h => h) (Or.inl ⟨by rfl, ?_⟩) ?_ ?_
       rotate_left
       ·intro w'
        go_simp
        with_reducible rfl
       rotate_left
       ·simp only [Act.put, List.setIfInBounds_toArray, List.set_cons_zero, List.set_cons_succ, i64_w, i32_w]
        rfl
       refine pure_ (i := 15) (N := some 43) (v := ?_) (a' := ?_) ba_27_16 rfl rfl (any_of HT_.out (by kernel_rfl)) (fun _ _ _ h => h) (Or.inl ⟨by rfl, ?_⟩) ?_ ?_
       rotate_left
       ·intro w'
        go_simp
        with_reducible rfl
       rotate_left
       ·simp only [Act.put, List.setIfInBounds_toArray, List.set_cons_zero, List.set_cons_succ, i64_w, i32_w]
        rfl
       refine pure_ (i := 16) (N := some 44) (v := ?_) (a' := ?_) ba_27_17 rfl rfl (any_of HT_.out (by kernel_rfl)) (fun _ _ _ h => h) (Or.inl ⟨by rfl, ?_⟩) ?_ ?_
       rotate_left
       ·intro w'
        go_simp
        with_reducible rfl
       rotate_left
       ·simp only [Act.put, List.setIfInBounds_toArray, List.set_cons_zero, List.set_cons_succ, i64_w, i32_w]
        rfl
       refine pure_ (i := 17) (N := some 45) (v := ?_) (a' := ?_) ba_27_18 rfl rfl (any_of HT_.out (by kernel_rfl)) (fun _ _ _ h => h) (Or.inl ⟨by rfl, ?_⟩) ?_ ?_
       rotate_left
       ·intro w'
        go_simp
        with_reducible rfl
       rotate_left
       ·simp only [Act.put, List.setIfInBounds_toArray, List.set_cons_zero, List.set_cons_succ, i64_w, i32_w]
        rfl
       refine pure_ (i := 18) (N := some 46) (v := ?_) (a' := ?_) ba_27_19 rfl rfl (any_of HT_.out (by kernel_rfl)) (fun _ _ _ h => h) (Or.inl ⟨by rfl, ?_⟩) ?_ ?_
       rotate_left
       ·intro w'
        go_simp
        with_reducible rfl
       rotate_left
       ·simp only [Act.put, List.setIfInBounds_toArray, List.set_cons_zero, List.set_cons_succ, i64_w, i32_w]
        rfl
       refine pure_ (i := 19) (N := some 47) (v := undef) (a' := ?_) ba_27_20 rfl rfl (any_of HT_.out (by kernel_rfl)) (fun _ _ _ h => h) (Or.inr ⟨by rfl, rfl⟩) ?_ ?_
       rotate_left
       ·simp only [Act.put, List.setIfInBounds_toArray, List.set_cons_zero, List.set_cons_succ, i64_w, i32_w]
        rfl
       refine pure_ (i := 20) (N := some 48) (v := undef) (a' := ?_) ba_27_21 rfl rfl (any_of HT_.out (by kernel_rfl)) (fun _ _ _ h => h) (Or.inr ⟨by rfl, rfl⟩) ?_ ?_
       rotate_left
       ·simp only [Act.put, List.setIfInBounds_toArray, List.set_cons_zero, List.set_cons_succ, i64_w, i32_w]
        rfl
       refine pure_ (i := 21) (N := some 49) (v := undef) (a' := ?_) ba_27_22 rfl rfl (any_of HT_.out (by kernel_rfl)) (fun _ _ _ h => h) (Or.inr ⟨by rfl, rfl⟩) ?_ ?_
       rotate_left
       ·simp only [Act.put, List.setIfInBounds_toArray, List.set_cons_zero, List.set_cons_succ, i64_w, i32_w]
        rfl
       refine pure_ (i := 22) (N := some 50) (v := undef) (a' := ?_) ba_27_23 rfl rfl (any_of HT_.out (by kernel_rfl)) (fun _ _ _ h => h) (Or.inr ⟨by rfl, rfl⟩) ?_ ?_
       rotate_left
       ·simp only [Act.put, List.setIfInBounds_toArray, List.set_cons_zero, List.set_cons_succ, i64_w, i32_w]
        rfl
       refine pure_ (i := 23) (N := some 51) (v := undef) (a' := ?_) ba_27_24 rfl rfl (any_of HT_.out (by kernel_rfl)) (fun _ _ _ h => h) (Or.inr ⟨by rfl, rfl⟩) ?_ ?_
       rotate_left
       ·simp only [Act.put, List.setIfInBounds_toArray, List.set_cons_zero, List.set_cons_succ, i64_w, i32_w]
        rfl
       refine pure_ (i := 24) (N := some 52) (v := undef) (a' := ?_) ba_27_25 rfl rfl (any_of HT_.out (by kernel_rfl)) (fun _ _ _ h => h) (Or.inr ⟨by rfl, rfl⟩) ?_ ?_
       rotate_left
       ·simp only [Act.put, List.setIfInBounds_toArray, List.set_cons_zero, List.set_cons_succ, i64_w, i32_w]
        rfl
       refine pure_ (i := 25) (N := some 53) (v := ?_) (a' := ?_) ba_27_26 rfl rfl (any_of HT_.out (by kernel_rfl)) (fun _ _ _ h => h) (Or.inl ⟨by rfl, ?_⟩) ?_ ?_
       rotate_left
       ·intro w'
        go_simp
        with_reducible rfl
       rotate_left
       ·simp only [Act.put, List.setIfInBounds_toArray, List.set_cons_zero, List.set_cons_succ, i64_w, i32_w]
        rfl
       refine pure_ (i := 26) (N := some 54) (v := ?_) (a' := ?_) ba_27_27 rfl rfl (any_of HT_.out (by kernel_rfl)) (fun _ _ _ h => h) (Or.inl ⟨by rfl, ?_⟩) ?_ ?_
       rotate_left
       ·intro w'
        go_simp
        with_reducible rfl
       rotate_left
       ·simp only [Act.put, List.setIfInBounds_toArray, List.set_cons_zero, List.set_cons_succ, i64_w, i32_w]
        rfl
       refine done_ (done_of HT_.out (by kernel_rfl)) ?_
       try go_wp2
       go_meet
       case rel => exact ⟨_, (false), (by first | rfl | (simp; done) | (simp [*]; done)), H', ⟨by first | omega | exact Nat.le_refl _⟩, ⟨by (with_reducible repeat (first | apply Kd.R_alloc | apply Kd.R_drewN | apply Kd.R_drew)); exact HO437.out⟩, ⟨bN BK432⟩, ⟨bN BK438⟩, ⟨by repeat (first | (with_reducible first | exact HB.out | apply below_alloc | apply pw_below_drewN | apply below_drew1 | refine below_set ?_ GE432.out | refine below_set ?_ GE438.out) | exact HB.out)⟩⟩
     ·rw [if_neg c26] at H
      have c26b0 : (t440 == 0) = false := beq_eq_false_iff_ne.mpr c26
      have c26b1 : (t440 != 0) = true := bne_iff_ne.mpr c26
      have e23_ : t441 = false := by simpa [c26b0] using c23b0
      subst e23_
      by_cases c35 : t440 = 10
      ·rw [if_pos c35] at H
       have c35b0 : (t440 == 10) = true := beq_iff_eq.mpr c35
       have c35b1 : (t440 != 10) = false := bne_eq_false_iff_eq.mpr c35
       clear c35
       have H' := Aside0.mk H
       clear H
       try go_wp2
       have n0_ := Aside0.mk (Kd.R_drew HO437.out)
       have n1_ := Aside0.mk (blk_drew BK432.out)
       have n2_ := Aside0.mk (blk_drew BK438.out)
       have n3_ := Aside0.mk (below_drew1 HB.out)
       clear HO437
       clear BK432
       clear BK438
       clear HB
       have HO437 := n0_
       have BK432 := n1_
       have BK438 := n2_
       have HB := n3_
       clear n0_ n1_ n2_ n3_
       refine start_ (n := 27) (S := fun w' => w'.cell? ⟨gb438, 0, none⟩ = some (.bool t434) ∧ w'.cell? ⟨gb438, 1, none⟩ = some (.slice Ao19 t435.length co19)) (ds := []) ba_27_0 (by kernel_rfl) rfl rfl ⟨(blk_cell BK438.out 0).trans rfl, (blk_cell BK438.out 1).trans rfl⟩ (fun hHeld => ?_); refine with_tabW lorgnettelaw01_WideTexts.tab7 lorgnettelaw01_WideTexts.bits7 (fun HT_ HW_ => ?_)
       generalize w21.drew = w36 at HO437 BK432 BK438 HB hHeld ⊢
       refine pure_ (i := 2) (N := some 30) (v := ?_) (a' := ?_) ba_27_1 rfl rfl (any_of HT_.out (by kernel_rfl)) (fun _ _ _ h => h) (Or.inl ⟨by rfl, ?_⟩) ?_ ?_
       rotate_left
       ·intro w'
        go_simp
        with_reducible rfl
       rotate_left
       ·simp only [Act.put, List.setIfInBounds_toArray, List.set_cons_zero, List.set_cons_succ, i64_w, i32_w]
        rfl
       refine pure_ (i := 3) (N := some 31) (v := ?_) (a' := ?_) ba_27_2 rfl rfl (any_of HT_.out (by kernel_rfl)) (fun _ _ _ h => h) (Or.inl ⟨by rfl, ?_⟩) ?_ ?_
       rotate_left
       ·intro w'
        go_simp
        with_reducible rfl
       rotate_left
       ·simp only [Act.put, List.setIfInBounds_toArray, List.set_cons_zero, List.set_cons_succ, i64_w, i32_w]
        rfl
       refine take_ (i := 0) (N := some 28) (v := ?_) (a' := ?_) ba_27_3 rfl rfl (take_ofW HT_.out HW_.out (by kernel_rfl)) (fun _ _ _ h => h) (Or.inl ⟨by rfl, ?_⟩) hHeld ?_ ?_
       rotate_left
       ·rintro w' ⟨s0, s1⟩
        go_simp
        with_reducible rfl
       rotate_left
       ·simp only [Act.put, List.setIfInBounds_toArray, List.set_cons_zero, List.set_cons_succ, i64_w, i32_w]
        rfl
       refine one_ (i := 1) (N := some 29) ba_27_4 rfl rfl (one_of HT_.out (by kernel_rfl)) (by decide) (fun K hK => ?_)
       refine goes_ Try.func11 (by kernel_rfl) rfl #[.agg #[.bool t434, .slice Ao19 t435.length co19]] (by rfl) rfl rfl (by (try simp only [List.map_toArray, List.map_cons, List.map_nil]); first | done | rfl | (simp only [List.length_drop, List.length_take]; rfl) | (go_simp; simp only [u8_w, w64_u8]; done) | (go_simp; simp only [u8_w, w64_u8]; rfl)) ?_
       with_reducible refine (lorgnetteref01_Small.calls k t434 _ _ t435 false _ ?side1 ?side2 A22.out).mono ?_
       (case side1 => repeat (first | exact (Kd.R_reads' HO437.out).2.2 | (with_reducible refine Kd.C_alloc ?_ _) | (with_reducible refine Kd.C_drewN ?_ _) | (with_reducible refine Kd.C_drew ?_)))
       (case side2 => exact (Kd.R_reads' HO437.out).2.1)
       rintro e w37 ⟨rfl, hb⟩
       refine ⟨_, rfl, ?_⟩
       have n0_ := Aside0.mk (Kd.R_below (rN HO437) hb)
       have n1_ := blkB BK432 hb
       have n2_ := blkB BK438 hb
       have n3_ := Aside0.mk (below_step (bL HB) hb)
       clear HO437
       clear BK432
       clear BK438
       clear HB
       have HO437 := n0_
       have BK432 := n1_
       have BK438 := n2_
       have HB := n3_
       clear n0_ n1_ n2_ n3_
       (try clear hb)
       (try clear hb2)
       (try clear hk)
       (try clear hi)
       refine hK.out _ _ ⟨(blk_cell BK438.out 0).trans rfl, (blk_cell BK438.out 1).trans rfl⟩ (fun hHeld => ?_)
       clear hK K
       refine norm_ (a' := ?_) ?_ ?_
       rotate_left
       ·show Act.put _ (some 29) _ = _
        simp only [Act.put, List.setIfInBounds_toArray, List.set_cons_zero, List.set_cons_succ, i64_w, i32_w]
        rfl
       refine pure_ (i := 4) (N := some 32) (v := ?_) (a' := ?_) ba_27_5 rfl rfl (any_of HT_.out (by kernel_rfl)) (fun _ _ _ h => h) (Or.inl ⟨by rfl, ?_⟩) ?_ ?_
       rotate_left
       ·intro w'
        go_simp
        with_reducible rfl
       rotate_left
       ·simp only [Act.put, List.setIfInBounds_toArray, List.set_cons_zero, List.set_cons_succ, i64_w, i32_w]
        rfl
       refine pure_ (i := 5) (N := some 33) (v := ?_) (a' := ?_) ba_27_6 rfl rfl (any_of HT_.out (by kernel_rfl)) (fun _ _ _ h => h) (Or.inl ⟨by rfl, ?_⟩) ?_ ?_
       rotate_left
       ·intro w'
        go_simp
        with_reducible rfl
       rotate_left
       ·simp only [Act.put, List.setIfInBounds_toArray, List.set_cons_zero, List.set_cons_succ, i64_w, i32_w]
        rfl
       refine pure_ (i := 6) (N := some 34) (v := ?_) (a' := ?_) ba_27_7 rfl rfl (any_of HT_.out (by kernel_rfl)) (fun _ _ _ h => h) (Or.inl ⟨by rfl, ?_⟩) ?_ ?_
       rotate_left
       ·intro w'
        go_simp
        with_reducible rfl
       rotate_left
       ·simp only [Act.put, List.setIfInBounds_toArray, List.set_cons_zero, List.set_cons_succ, i64_w, i32_w]
        rfl
       refine pure_ (i := 7) (N := some 35) (v := ?_) (a' := ?_) ba_27_8 rfl rfl (any_of HT_.out (by kernel_rfl)) (fun _ _ _ h => h) (Or.inl ⟨by rfl, ?_⟩) ?_ ?_
       rotate_left
       ·intro w'
        go_simp
        with_reducible rfl
       rotate_left
       ·simp only [Act.put, List.setIfInBounds_toArray, List.set_cons_zero, List.set_cons_succ, i64_w, i32_w]
        rfl
       refine pure_ (i := 8) (N := some 36) (v := ?_) (a' := ?_) ba_27_9 rfl rfl (any_of HT_.out (by kernel_rfl)) (fun _ _ _ h => h) (Or.inl ⟨by rfl, ?_⟩) ?_ ?_
       rotate_left
       ·intro w'
        go_simp
        with_reducible rfl
       rotate_left
       ·simp only [Act.put, List.setIfInBounds_toArray, List.set_cons_zero, List.set_cons_succ, i64_w, i32_w]
        rfl
       refine pure_ (i := 9) (N := some 37) (v := undef) (a' := ?_) ba_27_10 rfl rfl (any_of HT_.out (by kernel_rfl)) (fun _ _ _ h => h) (Or.inr ⟨by rfl, rfl⟩) ?_ ?_
       rotate_left
       ·simp only [Act.put, List.setIfInBounds_toArray, List.set_cons_zero, List.set_cons_succ, i64_w, i32_w]
        rfl
       refine pure_ (i := 10) (N := some 38) (v := undef) (a' := ?_) ba_27_11 rfl rfl (any_of HT_.out (by kernel_rfl)) (fun _ _ _ h => h) (Or.inr ⟨by rfl, rfl⟩) ?_ ?_
       rotate_left
       ·simp only [Act.put, List.setIfInBounds_toArray, List.set_cons_zero, List.set_cons_succ, i64_w, i32_w]
        rfl
       refine pure_ (i := 11) (N := some 39) (v := undef) (a' := ?_) ba_27_12 rfl rfl (any_of HT_.out (by kernel_rfl)) (fun _ _ _ h => h) (Or.inr ⟨by rfl, rfl⟩) ?_ ?_
       rotate_left
       ·simp only [Act.put, List.setIfInBounds_toArray, List.set_cons_zero, List.set_cons_succ, i64_w, i32_w]
        rfl
       refine pure_ (i := 12) (N := some 40) (v := undef) (a' := ?_) ba_27_13 rfl rfl (any_of HT_.out (by kernel_rfl)) (fun _ _ _ h => h) (Or.inr ⟨by rfl, rfl⟩) ?_ ?_
       rotate_left
       ·simp only [Act.put, List.setIfInBounds_toArray, List.set_cons_zero, List.set_cons_succ, i64_w, i32_w]
        rfl
       refine pure_ (i := 13) (N := some 41) (v := ?_) (a' := ?_) ba_27_14 rfl rfl (any_of HT_.out (by kernel_rfl)) (fun _ _ _ h => h) (Or.inl ⟨by rfl, ?_⟩) ?_ ?_
       rotate_left
       ·intro w'
        go_simp
        with_reducible rfl
       rotate_left
       ·simp only [Act.put, List.setIfInBounds_toArray, List.set_cons_zero, List.set_cons_succ, i64_w, i32_w]
        rfl
       refine pure_ (i := 14) (N := some 42) (v := ?_) (a' := ?_) ba_27_15 rfl rfl (any_of HT_.out (by kernel_rfl)) (fun _ _ _ h => h) (Or.inl ⟨by rfl, ?_⟩) ?_ ?_
       rotate_left
       ·intro w'
        go_simp
        with_reducible rfl
       rotate_left
       ·simp only [Act.put, List.setIfInBounds_toArray, List.set_cons_zero, List.set_cons_succ, i64_w, i32_w]
        rfl
       refine pure_ (i := 15) (N := some 43) (v := ?_) (a' := ?_) ba_27_16 rfl rfl (any_of HT_.out (by kernel_rfl)) (fun _ _ _ h => h) (Or.inl ⟨by rfl, ?_⟩) ?_ ?_
       rotate_left
       ·intro w'
        go_simp
        with_reducible rfl
       rotate_left
       ·simp only [Act.put, List.setIfInBounds_toArray, List.set_cons_zero, List.set_cons_succ, i64_w, i32_w]
        rfl
       refine pure_ (i := 16) (N := some 44) (v := ?_) (a' := ?_) ba_27_17 rfl rfl (any_of HT_.out (by kernel_rfl)) (fun _ _ _ h => h) (Or.inl ⟨by rfl, ?_⟩) ?_ ?_
       rotate_left
       ·intro w'
        go_simp
        with_reducible rfl
       rotate_left
       ·simp only [Act.put, List.setIfInBounds_toArray, List.set_cons_zero, List.set_cons_succ, i64_w, i32_w]
        rfl
       refine pure_ (i := 17) (N := some 45) (v := ?_) (a' := ?_) ba_27_18 rfl rfl (any_of HT_.out (by kernel_rfl)) (fun _ _ _ h => h) (Or.inl ⟨by rfl, ?_⟩) ?_ ?_
       rotate_left
       ·intro w'
        go_simp
        with_reducible rfl
       rotate_left
       ·simp only [Act.put, List.setIfInBounds_toArray, List.set_cons_zero, List.set_cons_succ, i64_w, i32_w]
        rfl
       refine pure_ (i := 18) (N := some 46) (v := ?_) (a' := ?_) ba_27_19 rfl rfl (any_of HT_.out (by kernel_rfl)) (fun _ _ _ h => h) (Or.inl ⟨by rfl, ?_⟩) ?_ ?_
       rotate_left
       ·intro w'
        go_simp
        with_reducible rfl
       rotate_left
       ·simp only [Act.put, List.setIfInBounds_toArray, List.set_cons_zero, List.set_cons_succ, i64_w, i32_w]
        rfl
       refine pure_ (i := 19) (N := some 47) (v := ?_) (a' := ?_) ba_27_20 rfl rfl (any_of HT_.out (by kernel_rfl)) (fun _ _ _ h => h) (Or.inl ⟨by rfl, ?_⟩) ?_ ?_
       rotate_left
       ·intro w'
        go_simp
        with_reducible rfl
       rotate_left
       ·simp only [Act.put, List.setIfInBounds_toArray, List.set_cons_zero, List.set_cons_succ, i64_w, i32_w]
        rfl
       refine pure_ (i := 20) (N := some 48) (v := ?_) (a' := ?_) ba_27_21 rfl rfl (any_of HT_.out (by kernel_rfl)) (fun _ _ _ h => h) (Or.inl ⟨by rfl, ?_⟩) ?_ ?_
       rotate_left
       ·intro w'
        go_simp
        with_reducible rfl
       rotate_left
       ·simp only [Act.put, List.setIfInBounds_toArray, List.set_cons_zero, List.set_cons_succ, i64_w, i32_w]
        rfl
       refine pure_ (i := 21) (N := some 49) (v := ?_) (a' := ?_) ba_27_22 rfl rfl (any_of HT_.out (by kernel_rfl)) (fun _ _ _ h => h) (Or.inl ⟨by rfl, ?_⟩) ?_ ?_
       rotate_left
       ·intro w'
        go_simp
        with_reducible rfl
       rotate_left
       ·simp only [Act.put, List.setIfInBounds_toArray, List.set_cons_zero, List.set_cons_succ, i64_w, i32_w]
        rfl
       refine pure_ (i := 22) (N := some 50) (v := ?_) (a' := ?_) ba_27_23 rfl rfl (any_of HT_.out (by kernel_rfl)) (fun _ _ _ h => h) (Or.inl ⟨by rfl, ?_⟩) ?_ ?_
       rotate_left
       ·intro w'
        go_simp
        with_reducible rfl
       rotate_left
       ·simp only [Act.put, List.setIfInBounds_toArray, List.set_cons_zero, List.set_cons_succ, i64_w, i32_w]
        rfl
       refine pure_ (i := 23) (N := some 51) (v := ?_) (a' := ?_) ba_27_24 rfl rfl (any_of HT_.out (by kernel_rfl)) (fun _ _ _ h => h) (Or.inl ⟨by rfl, ?_⟩) ?_ ?_
       rotate_left
       ·intro w'
        go_simp
        with_reducible rfl
       rotate_left
       ·simp only [Act.put, List.setIfInBounds_toArray, List.set_cons_zero, List.set_cons_succ, i64_w, i32_w]
        rfl
       refine pure_ (i := 24) (N := some 52) (v := ?_) (a' := ?_) ba_27_25 rfl rfl (any_of HT_.out (by kernel_rfl)) (fun _ _ _ h => h) (Or.inl ⟨by rfl, ?_⟩) ?_ ?_
       rotate_left
       ·intro w'
        go_simp
        with_reducible rfl
       rotate_left
       ·simp only [Act.put, List.setIfInBounds_toArray, List.set_cons_zero, List.set_cons_succ, i64_w, i32_w]
        rfl
       refine pure_ (i := 25) (N := some 53) (v := ?_) (a' := ?_) ba_27_26 rfl rfl (any_of HT_.out (by kernel_rfl)) (fun _ _ _ h => h) (Or.inl ⟨by rfl, ?_⟩) ?_ ?_
       rotate_left
       ·intro w'
        go_simp
        with_reducible rfl
       rotate_left
       ·simp only [Act.put, List.setIfInBounds_toArray, List.set_cons_zero, List.set_cons_succ, i64_w, i32_w]
        rfl
       refine pure_ (i := 26) (N := some 54) (v := ?_) (a' := ?_) ba_27_27 rfl rfl (any_of HT_.out (by kernel_rfl)) (fun _ _ _ h => h) (Or.inl ⟨by rfl, ?_⟩) ?_ ?_
       rotate_left
       ·intro w'
        go_simp
        with_reducible rfl
       rotate_left
       ·simp only [Act.put, List.setIfInBounds_toArray, List.set_cons_zero, List.set_cons_succ, i64_w, i32_w]
        rfl
       refine done_ (done_of HT_.out (by kernel_rfl)) ?_
       try go_wp2
       go_meet
       case rel => exact ⟨_, ((t439 != 0)), (by first | rfl | (simp; done) | (simp [*]; done)), H', ⟨by first | omega | exact Nat.le_refl _⟩, ⟨by (with_reducible repeat (first | apply Kd.R_alloc | apply Kd.R_drewN | apply Kd.R_drew)); exact HO437.out⟩, ⟨bN BK432⟩, ⟨bN BK438⟩, ⟨by repeat (first | (with_reducible first | exact HB.out | apply below_alloc | apply pw_below_drewN | apply below_drew1 | refine below_set ?_ GE432.out | refine below_set ?_ GE438.out) | exact HB.out)⟩⟩
      ·rw [if_neg c35] at H
       have c35b0 : (t440 == 10) = false := beq_eq_false_iff_ne.mpr c35
       have c35b1 : (t440 != 10) = true := bne_iff_ne.mpr c35
       have H' := Aside0.mk H
       clear H
       try go_wp2
       have n0_ := Aside0.mk (Kd.R_drew HO437.out)
       have n1_ := Aside0.mk (blk_drew BK432.out)
       have n2_ := Aside0.mk (blk_drew BK438.out)
       have n3_ := Aside0.mk (below_drew1 HB.out)
       clear HO437
       clear BK432
       clear BK438
       clear HB
       have HO437 := n0_
       have BK432 := n1_
       have BK438 := n2_
       have HB := n3_
       clear n0_ n1_ n2_ n3_
       refine start_ (n := 27) (S := fun w' => w'.cell? ⟨gb438, 0, none⟩ = some (.bool t434) ∧ w'.cell? ⟨gb438, 1, none⟩ = some (.slice Ao19 t435.length co19)) (ds := []) ba_27_0 (by kernel_rfl) rfl rfl ⟨(blk_cell BK438.out 0).trans rfl, (blk_cell BK438.out 1).trans rfl⟩ (fun hHeld => ?_); refine with_tabW lorgnettelaw01_WideTexts.tab7 lorgnettelaw01_WideTexts.bits7 (fun HT_ HW_ => ?_)
       generalize w21.drew = w38 at HO437 BK432 BK438 HB hHeld ⊢
       refine pure_ (i := 2) (N := some 30) (v := ?_) (a' := ?_) ba_27_1 rfl rfl (any_of HT_.out (by kernel_rfl)) (fun _ _ _ h => h) (Or.inl ⟨by rfl, ?_⟩) ?_ ?_
       rotate_left
       ·intro w'
        go_simp
        with_reducible rfl
       rotate_left
       ·simp only [Act.put, List.setIfInBounds_toArray, List.set_cons_zero, List.set_cons_succ, i64_w, i32_w]
        rfl
       refine pure_ (i := 3) (N := some 31) (v := ?_) (a' := ?_) ba_27_2 rfl rfl (any_of HT_.out (by kernel_rfl)) (fun _ _ _ h => h) (Or.inl ⟨by rfl, ?_⟩) ?_ ?_
       rotate_left
       ·intro w'
        go_simp
        with_reducible rfl
       rotate_left
       ·simp only [Act.put, List.setIfInBounds_toArray, List.set_cons_zero, List.set_cons_succ, i64_w, i32_w]
        rfl
       refine take_ (i := 0) (N := some 28) (v := ?_) (a' := ?_) ba_27_3 rfl rfl (take_ofW HT_.out HW_.out (by kernel_rfl)) (fun _ _ _ h => h) (Or.inl ⟨by rfl, ?_⟩) hHeld ?_ ?_
       rotate_left
       ·rintro w' ⟨s0, s1⟩
        go_simp
        with_reducible rfl
       rotate_left
       ·simp only [Act.put, List.setIfInBounds_toArray, List.set_cons_zero, List.set_cons_succ, i64_w, i32_w]
        rfl
       refine one_ (i := 1) (N := some 29) ba_27_4 rfl rfl (one_of HT_.out (by kernel_rfl)) (by decide) (fun K hK => ?_)
       refine goes_ Try.func11 (by kernel_rfl) rfl #[.agg #[.bool t434, .slice Ao19 t435.length co19]] (by rfl) rfl rfl (by (try simp only [List.map_toArray, List.map_cons, List.map_nil]); first | done | rfl | (simp only [List.length_drop, List.length_take]; rfl) | (go_simp; simp only [u8_w, w64_u8]; done) | (go_simp; simp only [u8_w, w64_u8]; rfl)) ?_
       with_reducible refine (lorgnetteref01_Small.calls k t434 _ _ t435 false _ ?side1 ?side2 A22.out).mono ?_
       (case side1 => repeat (first | exact (Kd.R_reads' HO437.out).2.2 | (with_reducible refine Kd.C_alloc ?_ _) | (with_reducible refine Kd.C_drewN ?_ _) | (with_reducible refine Kd.C_drew ?_)))
       (case side2 => exact (Kd.R_reads' HO437.out).2.1)
       rintro e w39 ⟨rfl, hb⟩
       refine ⟨_, rfl, ?_⟩
       have n0_ := Aside0.mk (Kd.R_below (rN HO437) hb)
       have n1_ := blkB BK432 hb
       have n2_ := blkB BK438 hb
       have n3_ := Aside0.mk (below_step (bL HB) hb)
       clear HO437
       clear BK432
       clear BK438
       clear HB
       have HO437 := n0_
       have BK432 := n1_
       have BK438 := n2_
       have HB := n3_
       clear n0_ n1_ n2_ n3_
       (try clear hb)
       (try clear hb2)
       (try clear hk)
       (try clear hi)
       refine hK.out _ _ ⟨(blk_cell BK438.out 0).trans rfl, (blk_cell BK438.out 1).trans rfl⟩ (fun hHeld => ?_)
       clear hK K
       refine norm_ (a' := ?_) ?_ ?_
       rotate_left
       ·show Act.put _ (some 29) _ = _
        simp only [Act.put, List.setIfInBounds_toArray, List.set_cons_zero, List.set_cons_succ, i64_w, i32_w]
        rfl
       refine pure_ (i := 4) (N := some 32) (v := ?_) (a' := ?_) ba_27_5 rfl rfl (any_of HT_.out (by kernel_rfl)) (fun _ _ _ h => h) (Or.inl ⟨by rfl, ?_⟩) ?_ ?_
       rotate_left
       ·intro w'
        go_simp
        with_reducible rfl
       rotate_left
       ·simp only [Act.put, List.setIfInBounds_toArray, List.set_cons_zero, List.set_cons_succ, i64_w, i32_w]
        rfl
       refine pure_ (i := 5) (N := some 33) (v := ?_) (a' := ?_) ba_27_6 rfl rfl (any_of HT_.out (by kernel_rfl)) (fun _ _ _ h => h) (Or.inl ⟨by rfl, ?_⟩) ?_ ?_
       rotate_left
       ·intro w'
        go_simp
        with_reducible rfl
       rotate_left
       ·simp only [Act.put, List.setIfInBounds_toArray, List.set_cons_zero, List.set_cons_succ, i64_w, i32_w]
        rfl
       refine pure_ (i := 6) (N := some 34) (v := ?_) (a' := ?_) ba_27_7 rfl rfl (any_of HT_.out (by kernel_rfl)) (fun _ _ _ h => h) (Or.inl ⟨by rfl, ?_⟩) ?_ ?_
       rotate_left
       ·intro w'
        go_simp
        with_reducible rfl
       rotate_left
       ·simp only [Act.put, List.setIfInBounds_toArray, List.set_cons_zero, List.set_cons_succ, i64_w, i32_w]
        rfl
       refine pure_ (i := 7) (N := some 35) (v := ?_) (a' := ?_) ba_27_8 rfl rfl (any_of HT_.out (by kernel_rfl)) (fun _ _ _ h => h) (Or.inl ⟨by rfl, ?_⟩) ?_ ?_
       rotate_left
       ·intro w'
        go_simp
        with_reducible rfl
       rotate_left
       ·simp only [Act.put, List.setIfInBounds_toArray, List.set_cons_zero, List.set_cons_succ, i64_w, i32_w]
        rfl
       refine pure_ (i := 8) (N := some 36) (v := ?_) (a' := ?_) ba_27_9 rfl rfl (any_of HT_.out (by kernel_rfl)) (fun _ _ _ h => h) (Or.inl ⟨by rfl, ?_⟩) ?_ ?_
       rotate_left
       ·intro w'
        go_simp
        with_reducible rfl
       rotate_left
       ·simp only [Act.put, List.setIfInBounds_toArray, List.set_cons_zero, List.set_cons_succ, i64_w, i32_w]
        rfl
       refine pure_ (i := 9) (N := some 37) (v := undef) (a' := ?_) ba_27_10 rfl rfl (any_of HT_.out (by kernel_rfl)) (fun _ _ _ h => h) (Or.inr ⟨by rfl, rfl⟩) ?_ ?_
       rotate_left
       ·simp only [Act.put, List.setIfInBounds_toArray, List.set_cons_zero, List.set_cons_succ, i64_w, i32_w]
        rfl
       refine pure_ (i := 10) (N := some 38) (v := undef) (a' := ?_) ba_27_11 rfl rfl (any_of HT_.out (by kernel_rfl)) (fun _ _ _ h => h) (Or.inr ⟨by rfl, rfl⟩) ?_ ?_
       rotate_left
       ·simp only [Act.put, List.setIfInBounds_toArray, List.set_cons_zero, List.set_cons_succ, i64_w, i32_w]
        rfl
       refine pure_ (i := 11) (N := some 39) (v := undef) (a' := ?_) ba_27_12 rfl rfl (any_of HT_.out (by kernel_rfl)) (fun _ _ _ h => h) (Or.inr ⟨by rfl, rfl⟩) ?_ ?_
       rotate_left
       ·simp only [Act.put, List.setIfInBounds_toArray, List.set_cons_zero, List.set_cons_succ, i64_w, i32_w]
        rfl
       refine pure_ (i := 12) (N := some 40) (v := undef) (a' := ?_) ba_27_13 rfl rfl (any_of HT_.out (by kernel_rfl)) (fun _ _ _ h => h) (Or.inr ⟨by rfl, rfl⟩) ?_ ?_
       rotate_left
       ·simp only [Act.put, List.setIfInBounds_toArray, List.set_cons_zero, List.set_cons_succ, i64_w, i32_w]
        rfl
       refine pure_ (i := 13) (N := some 41) (v := ?_) (a' := ?_) ba_27_14 rfl rfl (any_of HT_.out (by kernel_rfl)) (fun _ _ _ h => h) (Or.inl ⟨by rfl, ?_⟩) ?_ ?_
       rotate_left
       ·intro w'
        go_simp
        with_reducible rfl
       rotate_left
       ·simp only [Act.put, List.setIfInBounds_toArray, List.set_cons_zero, List.set_cons_succ, i64_w, i32_w]
        rfl
       refine pure_ (i := 14) (N := some 42) (v := ?_) (a' := ?_) ba_27_15 rfl rfl (any_of HT_.out (by kernel_rfl)) (fun _ _ _ h => h) (Or.inl ⟨by rfl, ?_⟩) ?_ ?_
       rotate_left
       ·intro w'
        go_simp
        with_reducible rfl
       rotate_left
       ·simp only [Act.put, List.setIfInBounds_toArray, List.set_cons_zero, List.set_cons_succ, i64_w, i32_w]
        rfl
       refine pure_ (i := 15) (N := some 43) (v := ?_) (a' := ?_) ba_27_16 rfl rfl (any_of HT_.out (by kernel_rfl)) (fun _ _ _ h => h) (Or.inl ⟨by rfl, ?_⟩) ?_ ?_
       rotate_left
       ·intro w'
        go_simp
        with_reducible rfl
       rotate_left
       ·simp only [Act.put, List.setIfInBounds_toArray, List.set_cons_zero, List.set_cons_succ, i64_w, i32_w]
        rfl
       refine pure_ (i := 16) (N := some 44) (v := ?_) (a' := ?_) ba_27_17 rfl rfl (any_of HT_.out (by kernel_rfl)) (fun _ _ _ h => h) (Or.inl ⟨by rfl, ?_⟩) ?_ ?_
       rotate_left
       ·intro w'
        go_simp
        with_reducible rfl
       rotate_left
       ·simp only [Act.put, List.setIfInBounds_toArray, List.set_cons_zero, List.set_cons_succ, i64_w, i32_w]
        rfl
       refine pure_ (i := 17) (N := some 45) (v := ?_) (a' := ?_) ba_27_18 rfl rfl (any_of HT_.out (by kernel_rfl)) (fun _ _ _ h => h) (Or.inl ⟨by rfl, ?_⟩) ?_ ?_
       rotate_left
       ·intro w'
        go_simp
        with_reducible rfl
       rotate_left
       ·simp only [Act.put, List.setIfInBounds_toArray, List.set_cons_zero, List.set_cons_succ, i64_w, i32_w]
        rfl
       refine pure_ (i := 18) (N := some 46) (v := ?_) (a' := ?_) ba_27_19 rfl rfl (any_of HT_.out (by kernel_rfl)) (fun _ _ _ h => h) (Or.inl ⟨by rfl, ?_⟩) ?_ ?_
       rotate_left
       ·intro w'
        go_simp
        with_reducible rfl
       rotate_left
       ·simp only [Act.put, List.setIfInBounds_toArray, List.set_cons_zero, List.set_cons_succ, i64_w, i32_w]
        rfl
       refine pure_ (i := 19) (N := some 47) (v := ?_) (a' := ?_) ba_27_20 rfl rfl (any_of HT_.out (by kernel_rfl)) (fun _ _ _ h => h) (Or.inl ⟨by rfl, ?_⟩) ?_ ?_
       rotate_left
       ·intro w'
        go_simp
        with_reducible rfl
       rotate_left
       ·simp only [Act.put, List.setIfInBounds_toArray, List.set_cons_zero, List.set_cons_succ, i64_w, i32_w]
        rfl
       refine pure_ (i := 20) (N := some 48) (v := ?_) (a' := ?_) ba_27_21 rfl rfl (any_of HT_.out (by kernel_rfl)) (fun _ _ _ h => h) (Or.inl ⟨by rfl, ?_⟩) ?_ ?_
       rotate_left
       ·intro w'
        go_simp
        with_reducible rfl
       rotate_left
       ·simp only [Act.put, List.setIfInBounds_toArray, List.set_cons_zero, List.set_cons_succ, i64_w, i32_w]
        rfl
       refine pure_ (i := 21) (N := some 49) (v := ?_) (a' := ?_) ba_27_22 rfl rfl (any_of HT_.out (by kernel_rfl)) (fun _ _ _ h => h) (Or.inl ⟨by rfl, ?_⟩) ?_ ?_
       rotate_left
       ·intro w'
        go_simp
        with_reducible rfl
       rotate_left
       ·simp only [Act.put, List.setIfInBounds_toArray, List.set_cons_zero, List.set_cons_succ, i64_w, i32_w]
        rfl
       refine pure_ (i := 22) (N := some 50) (v := undef) (a' := ?_) ba_27_23 rfl rfl (any_of HT_.out (by kernel_rfl)) (fun _ _ _ h => h) (Or.inr ⟨by rfl, rfl⟩) ?_ ?_
       rotate_left
       ·simp only [Act.put, List.setIfInBounds_toArray, List.set_cons_zero, List.set_cons_succ, i64_w, i32_w]
        rfl
       refine pure_ (i := 23) (N := some 51) (v := undef) (a' := ?_) ba_27_24 rfl rfl (any_of HT_.out (by kernel_rfl)) (fun _ _ _ h => h) (Or.inr ⟨by rfl, rfl⟩) ?_ ?_
       rotate_left
       ·simp only [Act.put, List.setIfInBounds_toArray, List.set_cons_zero, List.set_cons_succ, i64_w, i32_w]
        rfl
       refine pure_ (i := 24) (N := some 52) (v := ?_) (a' := ?_) ba_27_25 rfl rfl (any_of HT_.out (by kernel_rfl)) (fun _ _ _ h => h) (Or.inl ⟨by rfl, ?_⟩) ?_ ?_
       rotate_left
       ·intro w'
        go_simp
        with_reducible rfl
       rotate_left
       ·simp only [Act.put, List.setIfInBounds_toArray, List.set_cons_zero, List.set_cons_succ, i64_w, i32_w]
        rfl
       refine pure_ (i := 25) (N := some 53) (v := ?_) (a' := ?_) ba_27_26 rfl rfl (any_of HT_.out (by kernel_rfl)) (fun _ _ _ h => h) (Or.inl ⟨by rfl, ?_⟩) ?_ ?_
       rotate_left
       ·intro w'
        go_simp
        with_reducible rfl
       rotate_left
       ·simp only [Act.put, List.setIfInBounds_toArray, List.set_cons_zero, List.set_cons_succ, i64_w, i32_w]
        rfl
       refine pure_ (i := 26) (N := some 54) (v := ?_) (a' := ?_) ba_27_27 rfl rfl (any_of HT_.out (by kernel_rfl)) (fun _ _ _ h => h) (Or.inl ⟨by rfl, ?_⟩) ?_ ?_
       rotate_left
       ·intro w'
        go_simp
        with_reducible rfl
       rotate_left
       ·simp only [Act.put, List.setIfInBounds_toArray, List.set_cons_zero, List.set_cons_succ, i64_w, i32_w]
        rfl
       refine done_ (done_of HT_.out (by kernel_rfl)) ?_
       try go_wp2
       go_meet
       case rel => exact ⟨_, (true), (by first | rfl | (simp; done) | (simp [*]; done)), H', ⟨by first | omega | exact Nat.le_refl _⟩, ⟨by (with_reducible repeat (first | apply Kd.R_alloc | apply Kd.R_drewN | apply Kd.R_drew)); exact HO437.out⟩, ⟨bN BK432⟩, ⟨bN BK438⟩, ⟨by repeat (first | (with_reducible first | exact HB.out | apply below_alloc | apply pw_below_drewN | apply below_drew1 | refine below_set ?_ GE432.out | refine below_set ?_ GE438.out) | exact HB.out)⟩⟩
   case rest =>
    clear HC11
    try clear c1
    try clear c2
    try clear p2
    try clear c3
    try clear c11
    try clear c26
    try clear c26b0
    try clear c26b1
    try clear c35
    try clear c35b0
    try clear c35b1
    obtain ⟨kq, x54_10, rfl, HA, HJ10, HO_439001, BK432, BK438, HB⟩ := hcut
    cases kq with
    | zero => exact absurd HA.out (by simp [lorgnettelaw01_WideTexts.j0])
    | succ kj10 =>
     have H := HA.out
     clear HA
     simp only [lorgnettelaw01_WideTexts.j0] at H
     by_cases c40 : x54_10 = true
     ·subst c40
      have H1 : (none) = some r := by rw [if_pos rfl] at H; exact H
      clear H
      have H := H1
      clear H1
      exact absurd H (by simp)
     ·replace c40 := Bool.eq_false_iff.mpr c40
      subst c40
      have H1 : ((wide_Parse.f kj10 a1).bind fun bt444 => ((lorgnetteref01_Parse.f kj10 a1).bind fun bt448 => (if bt448.2.2 = true then ((wide_Of.f a2).bind fun bt454 => ((wide_Int.f bt454.1 bt454.2).bind fun bt456 => ((lorgnettelaw01_alike.f kj10 bt444.1 bt444.2.1 bt444.2.2 bt448.1 bt448.2.1).bind fun t458 => (if t458 = true then ((wide_Print.f kj10 a0_0 a0_1).bind fun t459 => ((lorgnetteref01_Print.f kj10 t434 t435).bind fun t460 => (if t459.toList = t460.toList then (if bt456.1 = a2 then (some (bt456.2 == 0)) else (none)) else (none)))) else (none))))) else (if (bt444.1 == 0 && (bt444.2.1 == 0)) = true then (some (bt444.2.2 == 17)) else (none))))) = some r := by rw [if_neg (show ¬ (false = true) by decide)] at H; exact H
      clear H
      have H := H1
      clear H1
      replace H := Option.bind_eq_some_iff.mp H
      obtain ⟨⟨t444, t445, t446⟩, A410, H⟩ := H
      replace H : ((lorgnetteref01_Parse.f kj10 a1).bind fun bt448 => (if bt448.2.2 = true then ((wide_Of.f a2).bind fun bt454 => ((wide_Int.f bt454.1 bt454.2).bind fun bt456 => ((lorgnettelaw01_alike.f kj10 t444 t445 t446 bt448.1 bt448.2.1).bind fun t458 => (if t458 = true then ((wide_Print.f kj10 a0_0 a0_1).bind fun t459 => ((lorgnetteref01_Print.f kj10 t434 t435).bind fun t460 => (if t459.toList = t460.toList then (if bt456.1 = a2 then (some (bt456.2 == 0)) else (none)) else (none)))) else (none))))) else (if (t444 == 0 && (t445 == 0)) = true then (some (t446 == 17)) else (none)))) = some r := H
      have A41 := Aside0.mk A410
      clear A410
      replace H := Option.bind_eq_some_iff.mp H
      obtain ⟨⟨t448, t449, t452⟩, A420, H⟩ := H
      replace H : (if t452 = true then ((wide_Of.f a2).bind fun bt454 => ((wide_Int.f bt454.1 bt454.2).bind fun bt456 => ((lorgnettelaw01_alike.f kj10 t444 t445 t446 t448 t449).bind fun t458 => (if t458 = true then ((wide_Print.f kj10 a0_0 a0_1).bind fun t459 => ((lorgnetteref01_Print.f kj10 t434 t435).bind fun t460 => (if t459.toList = t460.toList then (if bt456.1 = a2 then (some (bt456.2 == 0)) else (none)) else (none)))) else (none))))) else (if (t444 == 0 && (t445 == 0)) = true then (some (t446 == 17)) else (none))) = some r := H
      have A42 := Aside0.mk A420
      clear A420
      by_cases c43 : t452 = true
      ·subst c43
       have H1 : ((wide_Of.f a2).bind fun bt454 => ((wide_Int.f bt454.1 bt454.2).bind fun bt456 => ((lorgnettelaw01_alike.f kj10 t444 t445 t446 t448 t449).bind fun t458 => (if t458 = true then ((wide_Print.f kj10 a0_0 a0_1).bind fun t459 => ((lorgnetteref01_Print.f kj10 t434 t435).bind fun t460 => (if t459.toList = t460.toList then (if bt456.1 = a2 then (some (bt456.2 == 0)) else (none)) else (none)))) else (none))))) = some r := by rw [if_pos rfl] at H; exact H
       clear H
       have H := H1
       clear H1
       replace H := Option.bind_eq_some_iff.mp H
       obtain ⟨⟨t454, t455⟩, A440, H⟩ := H
       replace H : ((wide_Int.f t454 t455).bind fun bt456 => ((lorgnettelaw01_alike.f kj10 t444 t445 t446 t448 t449).bind fun t458 => (if t458 = true then ((wide_Print.f kj10 a0_0 a0_1).bind fun t459 => ((lorgnetteref01_Print.f kj10 t434 t435).bind fun t460 => (if t459.toList = t460.toList then (if bt456.1 = a2 then (some (bt456.2 == 0)) else (none)) else (none)))) else (none)))) = some r := H
       have A44 := Aside0.mk A440
       clear A440
       replace H := Option.bind_eq_some_iff.mp H
       obtain ⟨⟨t456, t457⟩, A450, H⟩ := H
       replace H : ((lorgnettelaw01_alike.f kj10 t444 t445 t446 t448 t449).bind fun t458 => (if t458 = true then ((wide_Print.f kj10 a0_0 a0_1).bind fun t459 => ((lorgnetteref01_Print.f kj10 t434 t435).bind fun t460 => (if t459.toList = t460.toList then (if t456 = a2 then (some (t457 == 0)) else (none)) else (none)))) else (none))) = some r := H
       have A45 := Aside0.mk A450
       clear A450
       replace H := Option.bind_eq_some_iff.mp H
       obtain ⟨t458, A460, H⟩ := H
       replace H : (if t458 = true then ((wide_Print.f kj10 a0_0 a0_1).bind fun t459 => ((lorgnetteref01_Print.f kj10 t434 t435).bind fun t460 => (if t459.toList = t460.toList then (if t456 = a2 then (some (t457 == 0)) else (none)) else (none)))) else (none)) = some r := H
       have A46 := Aside0.mk A460
       clear A460
       by_cases c47 : t458 = true
       ·subst c47
        have H1 : ((wide_Print.f kj10 a0_0 a0_1).bind fun t459 => ((lorgnetteref01_Print.f kj10 t434 t435).bind fun t460 => (if t459.toList = t460.toList then (if t456 = a2 then (some (t457 == 0)) else (none)) else (none)))) = some r := by rw [if_pos rfl] at H; exact H
        clear H
        have H := H1
        clear H1
        replace H := Option.bind_eq_some_iff.mp H
        obtain ⟨t459, A480, H⟩ := H
        replace H : ((lorgnetteref01_Print.f kj10 t434 t435).bind fun t460 => (if t459.toList = t460.toList then (if t456 = a2 then (some (t457 == 0)) else (none)) else (none))) = some r := H
        have A48 := Aside0.mk A480
        clear A480
        replace H := Option.bind_eq_some_iff.mp H
        obtain ⟨t460, A490, H⟩ := H
        replace H : (if t459.toList = t460.toList then (if t456 = a2 then (some (t457 == 0)) else (none)) else (none)) = some r := H
        have A49 := Aside0.mk A490
        clear A490
        by_cases c50 : t459.toList = t460.toList
        ·rw [if_pos c50] at H
         have c50b0 : (t459.toList == t460.toList) = true := beq_iff_eq.mpr c50
         have c50b1 : (t459.toList != t460.toList) = false := bne_eq_false_iff_eq.mpr c50
         clear c50
         by_cases c51 : t456 = a2
         ·rw [if_pos c51] at H
          have c51b0 : (t456 == a2) = true := beq_iff_eq.mpr c51
          have c51b1 : (t456 != a2) = false := bne_eq_false_iff_eq.mpr c51
          clear c51
          obtain rfl := Option.some.inj H
          try go_wp2_with (first | ((with_reducible refine gate_callee (f := 13) rfl ?_); refine goesL_ (some 57) rfl rfl Try.func13 (by kernel_rfl) rfl #[.string a1] rfl (by (try simp only [List.map_toArray, List.map_cons, List.map_nil]); first | done | rfl | (simp only [List.length_drop, List.length_take]; rfl) | (go_simp; simp only [u8_w, w64_u8]; done) | (go_simp; simp only [u8_w, w64_u8]; rfl)) ?_; (with_reducible refine (wide_Parse.calls kj10 a1 t444 t445 t446 _ A41.out).mono ?_); rintro e w52 ⟨rfl, hb⟩; refine ⟨_, rfl, ?_⟩; have n0_ := Aside0.mk (Kd.R_below (rN HO_439001) hb); have n1_ := blkB BK432 hb; have n2_ := blkB BK438 hb; have n3_ := Aside0.mk (below_step (bL HB) hb); clear HO_439001 BK432 BK438 HB; have HO_439001 := n0_; have BK432 := n1_; have BK438 := n2_; have HB := n3_; clear n0_ n1_ n2_ n3_; (try clear hb); (try clear hb2); (try clear hk); (try clear hi)) | ((with_reducible refine gate_dst (N := 10) rfl ?_); refine box_event ?hg (N := 10) ?hd (cs := #[.int .u64 0, .int .u64 0]) (t := 24) ?hr ?_; (case hd => rfl); (case hg => rfl); (case hr => first | (go_simp; done) | (go_simp; rfl)); intro gb447 hg w53 hbox hb; have n0_ := Aside0.mk (Kd.R_below (rN HO_439001) hb); have n1_ := blkB BK432 hb; have n2_ := blkB BK438 hb; have n3_ := Aside0.mk (below_step (bL HB) hb); have n4_ := Aside0.mk (hbox); have n5_ := Aside0.mk ((by rw [hg]; exact (below_size (bL HB)) : w.heap.size ≤ gb447)); have n6_ := Aside0.mk ((by rw [hg]; exact (below_size (bL HB)) : w.heap.size ≤ gb447)); have n7_ := blkL BK432 hg; have n8_ := blkG BK432 hg; have n9_ := blkL BK438 hg; have n10_ := blkG BK438 hg; clear HO_439001 BK432 BK438 HB; have HO_439001 := n0_; have BK432 := n1_; have BK438 := n2_; have HB := n3_; have BK447 := n4_; have GW447 := n5_; have GE447 := n6_; have NB432_447 := n7_; have NB447_432 := n8_; have NB438_447 := n9_; have NB447_438 := n10_; clear n0_ n1_ n2_ n3_ n4_ n5_ n6_ n7_ n8_ n9_ n10_; clear hb hbox hg; have hnb54 := NB447_432.out; have hnc54 := NB432_447.out; have hnb55 := NB447_438.out; have hnc55 := NB438_447.out; have hcz56_0 : w53.cell? ⟨gb447, 0, none⟩ = some (.int .u64 0) := (blk_cell BK447.out 0).trans rfl; have hcz56_1 : w53.cell? ⟨gb447, 1, none⟩ = some (.int .u64 0) := (blk_cell BK447.out 1).trans rfl; have hfz56_0 := blk_frozen BK447.out 0; have hfz56_1 := blk_frozen BK447.out 1) | ((with_reducible refine gate_callee (f := 14) rfl ?_); refine goesL_ (some 62) rfl rfl Try.func14 (by kernel_rfl) rfl #[.string a1] rfl (by (try simp only [List.map_toArray, List.map_cons, List.map_nil]); first | done | rfl | (simp only [List.length_drop, List.length_take]; rfl) | (go_simp; simp only [u8_w, w64_u8]; done) | (go_simp; simp only [u8_w, w64_u8]; rfl)) ?_; (with_reducible refine (lorgnetteref01_Parse.calls kj10 a1 t448 t449 true _ A42.out).mono ?_); rintro e w57 ⟨v450, rfl, ho0, hb⟩; refine ⟨_, rfl, ?_⟩; have n0_ := Aside0.mk (Kd.R_elder' (by (with_reducible repeat (first | apply Kd.R_alloc | apply Kd.R_drewN | apply Kd.R_drew)); exact (Kd.R_mono (Kd.R_far (p := ⟨gb447, 1, none⟩) (Kd.R_far (p := ⟨gb447, 0, none⟩) (Kd.R_types HO_439001.out BK447.out (by decide)) (fun _ hk => hk.2) (.int .u64 t444)) (fun _ hk => hk.2) (.int .u64 t445)) (fun _ h_ => h_.1))) (Kd.R_base ho0) hb); have n1_ := Aside0.mk (Kd.R_lower (Kd.R_new' ho0 (Kd.R_lt (by (with_reducible repeat (first | apply Kd.R_alloc | apply Kd.R_drewN | apply Kd.R_drew)); exact (Kd.R_mono (Kd.R_far (p := ⟨gb447, 1, none⟩) (Kd.R_far (p := ⟨gb447, 0, none⟩) (Kd.R_types HO_439001.out BK447.out (by decide)) (fun _ hk => hk.2) (.int .u64 t444)) (fun _ hk => hk.2) (.int .u64 t445)) (fun _ h_ => h_.1))))) (below_size (bL HB))); have n2_ := Aside0.mk (blk_below (g := gb432) (o := .cells #[.int .u64 a0_0, .int .u64 a0_1] 24 (0, 0)) (bF BK432) hb); have n3_ := Aside0.mk (blk_below (g := gb438) (o := .cells #[.bool t434, .slice Ao19 t435.length co19] 28 (0, 0)) (bF BK438) hb); have n4_ := Aside0.mk (blk_below (g := gb447) (o := .cells #[.int .u64 t444, .int .u64 t445] 24 (0, 0)) (by (with_reducible repeat (first | refine blk_drewN ?_ _ | refine blk_drew ?_ | refine blk_alloc ?_ _)); refine blk_put (cs := #[.int .u64 t444, .int .u64 0]) ?_ 1 _ rfl; (with_reducible repeat (first | refine blk_drewN ?_ _ | refine blk_drew ?_ | refine blk_alloc ?_ _)); refine blk_put (cs := #[.int .u64 0, .int .u64 0]) ?_ 0 _ rfl; (with_reducible repeat (first | refine blk_drewN ?_ _ | refine blk_drew ?_ | refine blk_alloc ?_ _)); exact BK447.out) hb); have n5_ := Aside0.mk (below_step (bL HB) hb); clear HO_439001 BK432 BK438 BK447 HB; have HO_439001 := n0_; have HO451 := n1_; have BK432 := n2_; have BK438 := n3_; have BK447 := n4_; have HB := n5_; clear n0_ n1_ n2_ n3_ n4_ n5_; (try clear hb); (try clear hb2); (try clear hk); (try clear hi); (try clear ho0)) | ((with_reducible refine gate_dst (N := 12) rfl ?_); refine box_event ?hg (N := 12) ?hd (cs := #[.bool false, .slice none 0 0]) (t := 28) ?hr ?_; (case hd => rfl); (case hg => rfl); (case hr => first | (go_simp; done) | (go_simp; rfl)); intro gb453 hg w58 hbox hb; have n0_ := Aside0.mk (Kd.R_below (rN HO_439001) hb); have n1_ := Aside0.mk (Kd.R_below (rN HO451) hb); have n2_ := blkB BK432 hb; have n3_ := blkB BK438 hb; have n4_ := blkB BK447 hb; have n5_ := Aside0.mk (below_step (bL HB) hb); have n6_ := Aside0.mk (hbox); have n7_ := Aside0.mk ((by rw [hg]; exact (below_size (bL HB)) : w.heap.size ≤ gb453)); have n8_ := Aside0.mk ((by rw [hg]; exact (below_size (bL HB)) : w.heap.size ≤ gb453)); have n9_ := blkL BK432 hg; have n10_ := blkG BK432 hg; have n11_ := blkL BK438 hg; have n12_ := blkG BK438 hg; have n13_ := blkL BK447 hg; have n14_ := blkG BK447 hg; clear HO_439001 HO451 BK432 BK438 BK447 HB; have HO_439001 := n0_; have HO451 := n1_; have BK432 := n2_; have BK438 := n3_; have BK447 := n4_; have HB := n5_; have BK453 := n6_; have GW453 := n7_; have GE453 := n8_; have NB432_453 := n9_; have NB453_432 := n10_; have NB438_453 := n11_; have NB453_438 := n12_; have NB447_453 := n13_; have NB453_447 := n14_; clear n0_ n1_ n2_ n3_ n4_ n5_ n6_ n7_ n8_ n9_ n10_ n11_ n12_ n13_ n14_; clear hb hbox hg; have hnb59 := NB453_432.out; have hnc59 := NB432_453.out; have hnb60 := NB453_438.out; have hnc60 := NB438_453.out; have hnb61 := NB453_447.out; have hnc61 := NB447_453.out; have hcz62_0 : w58.cell? ⟨gb453, 0, none⟩ = some (.bool false) := (blk_cell BK453.out 0).trans rfl; have hcz62_1 : w58.cell? ⟨gb453, 1, none⟩ = some (.slice none 0 0) := (blk_cell BK453.out 1).trans rfl; have hfz62_0 := blk_frozen BK453.out 0; have hfz62_1 := blk_frozen BK453.out 1; obtain ⟨Ao63, co63, eo63⟩ := Kd.R_slice HO451.out; subst eo63) | ((with_reducible refine gate_callee (f := 12) rfl ?_); refine goesL_ (some 76) rfl rfl Try.func12 (by kernel_rfl) rfl #[.int .i64 a2] rfl (by (try simp only [List.map_toArray, List.map_cons, List.map_nil]); first | done | rfl | (simp only [List.length_drop, List.length_take]; rfl) | (go_simp; simp only [u8_w, w64_u8]; done) | (go_simp; simp only [u8_w, w64_u8]; rfl)) ?_; (with_reducible refine (wide_Of.calls a2 t454 t455 _ A44.out).mono ?_); rintro e w64 ⟨rfl, hb⟩; refine ⟨_, rfl, ?_⟩; have n0_ := Aside0.mk (Kd.R_below (by (with_reducible repeat (first | apply Kd.R_alloc | apply Kd.R_drewN | apply Kd.R_drew)); exact (Kd.R_mono (Kd.R_far (p := ⟨gb453, 1, none⟩) (Kd.R_far (p := ⟨gb453, 0, none⟩) (Kd.R_types HO_439001.out BK453.out (by decide)) (fun _ hk => hk.2) (.bool t448)) (fun _ hk => hk.2) (.slice Ao63 t449.length co63)) (fun _ h_ => h_.1))) hb); have n1_ := Aside0.mk (Kd.R_below (by (with_reducible repeat (first | apply Kd.R_alloc | apply Kd.R_drewN | apply Kd.R_drew)); exact (Kd.R_mono (Kd.R_far (p := ⟨gb453, 1, none⟩) (Kd.R_far (p := ⟨gb453, 0, none⟩) (Kd.R_types HO451.out BK453.out (by decide)) (fun _ hk => hk.2) (.bool t448)) (fun _ hk => hk.2) (.slice Ao63 t449.length co63)) (fun _ h_ => h_.1))) hb); have n2_ := Aside0.mk (blk_below (g := gb432) (o := .cells #[.int .u64 a0_0, .int .u64 a0_1] 24 (0, 0)) (bF BK432) hb); have n3_ := Aside0.mk (blk_below (g := gb438) (o := .cells #[.bool t434, .slice Ao19 t435.length co19] 28 (0, 0)) (bF BK438) hb); have n4_ := Aside0.mk (blk_below (g := gb447) (o := .cells #[.int .u64 t444, .int .u64 t445] 24 (0, 0)) (bF BK447) hb); have n5_ := Aside0.mk (blk_below (g := gb453) (o := .cells #[.bool t448, .slice Ao63 t449.length co63] 28 (0, 0)) (by (with_reducible repeat (first | refine blk_drewN ?_ _ | refine blk_drew ?_ | refine blk_alloc ?_ _)); refine blk_put (cs := #[.bool t448, .slice none 0 0]) ?_ 1 _ rfl; (with_reducible repeat (first | refine blk_drewN ?_ _ | refine blk_drew ?_ | refine blk_alloc ?_ _)); refine blk_put (cs := #[.bool false, .slice none 0 0]) ?_ 0 _ rfl; (with_reducible repeat (first | refine blk_drewN ?_ _ | refine blk_drew ?_ | refine blk_alloc ?_ _)); exact BK453.out) hb); have n6_ := Aside0.mk (below_step (bL HB) hb); clear HO_439001 HO451 BK432 BK438 BK447 BK453 HB; have HO_439001 := n0_; have HO451 := n1_; have BK432 := n2_; have BK438 := n3_; have BK447 := n4_; have BK453 := n5_; have HB := n6_; clear n0_ n1_ n2_ n3_ n4_ n5_ n6_; (try clear hb); (try clear hb2); (try clear hk); (try clear hi)) | ((with_reducible refine gate_callee (f := 10) rfl ?_); refine goesL_ (some 77) rfl rfl Try.func10 (by kernel_rfl) rfl #[.agg #[.int .u64 t454, .int .u64 t455]] rfl (by (try simp only [List.map_toArray, List.map_cons, List.map_nil]); first | done | rfl | (simp only [List.length_drop, List.length_take]; rfl) | (go_simp; simp only [u8_w, w64_u8]; done) | (go_simp; simp only [u8_w, w64_u8]; rfl)) ?_; (with_reducible refine (wide_Int.calls t454 t455 t456 t457 _ A45.out).mono ?_); rintro e w65 ⟨rfl, hb⟩; refine ⟨_, rfl, ?_⟩; have n0_ := Aside0.mk (Kd.R_below (rN HO_439001) hb); have n1_ := Aside0.mk (Kd.R_below (rN HO451) hb); have n2_ := blkB BK432 hb; have n3_ := blkB BK438 hb; have n4_ := blkB BK447 hb; have n5_ := blkB BK453 hb; have n6_ := Aside0.mk (below_step (bL HB) hb); clear HO_439001 HO451 BK432 BK438 BK447 BK453 HB; have HO_439001 := n0_; have HO451 := n1_; have BK432 := n2_; have BK438 := n3_; have BK447 := n4_; have BK453 := n5_; have HB := n6_; clear n0_ n1_ n2_ n3_ n4_ n5_ n6_; (try clear hb); (try clear hb2); (try clear hk); (try clear hi)))
          have n0_ := Aside0.mk (Kd.R_drew HO_439001.out)
          have n1_ := Aside0.mk (Kd.R_drew HO451.out)
          have n2_ := Aside0.mk (blk_drew BK432.out)
          have n3_ := Aside0.mk (blk_drew BK438.out)
          have n4_ := Aside0.mk (blk_drew BK447.out)
          have n5_ := Aside0.mk (blk_drew BK453.out)
          have n6_ := Aside0.mk (below_drew1 HB.out)
          clear HO_439001
          clear HO451
          clear BK432
          clear BK438
          clear BK447
          clear BK453
          clear HB
          have HO_439001 := n0_
          have HO451 := n1_
          have BK432 := n2_
          have BK438 := n3_
          have BK447 := n4_
          have BK453 := n5_
          have HB := n6_
          clear n0_ n1_ n2_ n3_ n4_ n5_ n6_
          refine start_ (n := 21) (S := fun w' => w'.cell? ⟨gb447, 0, none⟩ = some (.int .u64 t444) ∧ w'.cell? ⟨gb447, 1, none⟩ = some (.int .u64 t445) ∧ w'.cell? ⟨gb453, 0, none⟩ = some (.bool t448) ∧ w'.cell? ⟨gb453, 1, none⟩ = some (.slice Ao63 t449.length co63) ∧ w'.cell? ⟨gb432, 0, none⟩ = some (.int .u64 a0_0) ∧ w'.cell? ⟨gb432, 1, none⟩ = some (.int .u64 a0_1) ∧ w'.cell? ⟨gb438, 0, none⟩ = some (.bool t434) ∧ w'.cell? ⟨gb438, 1, none⟩ = some (.slice Ao19 t435.length co19)) (ds := []) #[false, false, false, false, false, false, false, false, false, false, false, false, false, false, false, false, false, false, false, false, false] (by kernel_rfl) rfl rfl ⟨(blk_cell BK447.out 0).trans rfl, (blk_cell BK447.out 1).trans rfl, (blk_cell BK453.out 0).trans rfl, (blk_cell BK453.out 1).trans rfl, (blk_cell BK432.out 0).trans rfl, (blk_cell BK432.out 1).trans rfl, (blk_cell BK438.out 0).trans rfl, (blk_cell BK438.out 1).trans rfl⟩ (fun hHeld => ?_); refine with_tabW lorgnettelaw01_WideTexts.tab14 lorgnettelaw01_WideTexts.bits14 (fun HT_ HW_ => ?_)
          generalize w65.drew = w66 at HO_439001 HO451 BK432 BK438 BK447 BK453 HB hHeld ⊢
          refine pure_ (i := 1) (N := some 81) (v := ?_) (a' := ?_) #[false, true, false, false, false, false, false, false, false, false, false, false, false, false, false, false, false, false, false, false, false] rfl rfl (any_of HT_.out (by kernel_rfl)) (fun _ _ _ h => h) (Or.inl ⟨by rfl, ?_⟩) ?_ ?_
          rotate_left
          ·intro w'
           go_simp
           with_reducible rfl
          rotate_left
          ·simp only [Act.put, List.setIfInBounds_toArray, List.set_cons_zero, List.set_cons_succ, i64_w, i32_w]
           rfl
          refine take_ (i := 0) (N := some 80) (v := ?_) (a' := ?_) #[true, true, false, false, false, false, false, false, false, false, false, false, false, false, false, false, false, false, false, false, false] rfl rfl (take_ofW HT_.out HW_.out (by kernel_rfl)) (fun _ _ _ h => h) (Or.inl ⟨by rfl, ?_⟩) hHeld ?_ ?_
          rotate_left
          ·rintro w' ⟨s0, s1, s2, s3, s4, s5, s6, s7⟩
           go_simp
           with_reducible rfl
          rotate_left
          ·simp only [Act.put, List.setIfInBounds_toArray, List.set_cons_zero, List.set_cons_succ, i64_w, i32_w]
           rfl
          refine take_ (i := 2) (N := some 82) (v := ?_) (a' := ?_) #[true, true, true, false, false, false, false, false, false, false, false, false, false, false, false, false, false, false, false, false, false] rfl rfl (take_ofW HT_.out HW_.out (by kernel_rfl)) (fun _ _ _ h => h) (Or.inl ⟨by rfl, ?_⟩) hHeld ?_ ?_
          rotate_left
          ·rintro w' ⟨s0, s1, s2, s3, s4, s5, s6, s7⟩
           go_simp
           with_reducible rfl
          rotate_left
          ·simp only [Act.put, List.setIfInBounds_toArray, List.set_cons_zero, List.set_cons_succ, i64_w, i32_w]
           rfl
          refine one_ (i := 3) (N := some 83) #[true, true, true, true, false, false, false, false, false, false, false, false, false, false, false, false, false, false, false, false, false] rfl rfl (one_of HT_.out (by kernel_rfl)) (by decide) (fun K hK => ?_)
          refine goes_ Try.func15 (by kernel_rfl) rfl #[.agg #[.int .u64 t444, .int .u64 t445], .int .i64 t446, .agg #[.bool t448, .slice Ao63 t449.length co63]] (by rfl) rfl rfl (by (try simp only [List.map_toArray, List.map_cons, List.map_nil]); first | done | rfl | (simp only [List.length_drop, List.length_take]; rfl) | (go_simp; simp only [u8_w, w64_u8]; done) | (go_simp; simp only [u8_w, w64_u8]; rfl)) ?_
          with_reducible refine (lorgnettelaw01_alike.calls kj10 t444 t445 t446 t448 (fun k_ => some k_ = (.slice Ao63 t449.length co63 : Value).ownBlock) (.slice Ao63 t449.length co63) t449 true w _ ?side1 ?side2 A46.out).mono ?_
          (case side1 => repeat (first | (with_reducible first | exact HB.out | apply below_alloc | apply pw_below_drewN | apply below_drew1 | refine below_set ?_ GE432.out | refine below_set ?_ GE438.out | refine below_set ?_ GE447.out | refine below_set ?_ GE453.out) | exact HB.out))
          (case side2 => exact Kd.R_tight rfl HO451.out)
          rintro e w67 ⟨rfl, hb, hkp⟩
          refine ⟨_, rfl, ?_⟩
          have n0_ := Aside0.mk (Kd.R_mono (ok' := fun k_ => True) (Kd.R_keptB (HO_439001.out) hkp (fun k_ hk_ hs_ => (hk_.2) hs_)) (fun k_ hk_ => trivial))
          have n1_ := Aside0.mk (blk_kept (bN BK432) hkp (fun hs_ => (fun e_ => (Kd.R_ne HO451.out BK432.out (by decide)) e_) hs_))
          have n2_ := Aside0.mk (blk_kept (bN BK438) hkp (fun hs_ => (fun e_ => (Kd.R_ne HO451.out BK438.out (by decide)) e_) hs_))
          have n3_ := Aside0.mk (blk_kept (bN BK447) hkp (fun hs_ => (fun e_ => (Kd.R_ne HO451.out BK447.out (by decide)) e_) hs_))
          have n4_ := Aside0.mk (blk_kept (bN BK453) hkp (fun hs_ => (fun e_ => (Kd.R_ne HO451.out BK453.out (by decide)) e_) hs_))
          have n5_ := Aside0.mk (hb)
          clear HO_439001
          clear BK432
          clear BK438
          clear BK447
          clear BK453
          clear HB
          clear HO451
          have HO_439001 := n0_
          have BK432 := n1_
          have BK438 := n2_
          have BK447 := n3_
          have BK453 := n4_
          have HB := n5_
          clear n0_ n1_ n2_ n3_ n4_ n5_
          (try clear hb)
          (try clear hkp)
          refine hK.out _ _ ⟨(blk_cell BK447.out 0).trans rfl, (blk_cell BK447.out 1).trans rfl, (blk_cell BK453.out 0).trans rfl, (blk_cell BK453.out 1).trans rfl, (blk_cell BK432.out 0).trans rfl, (blk_cell BK432.out 1).trans rfl, (blk_cell BK438.out 0).trans rfl, (blk_cell BK438.out 1).trans rfl⟩ (fun hHeld => ?_)
          clear hK K
          refine norm_ (a' := ?_) ?_ ?_
          rotate_left
          ·show Act.put _ (some 83) _ = _
           simp only [Act.put, List.setIfInBounds_toArray, List.set_cons_zero, List.set_cons_succ, i64_w, i32_w]
           rfl
          refine pure_ (i := 4) (N := some 84) (v := ?_) (a' := ?_) #[true, true, true, true, true, false, false, false, false, false, false, false, false, false, false, false, false, false, false, false, false] rfl rfl (any_of HT_.out (by kernel_rfl)) (fun _ _ _ h => h) (Or.inl ⟨by rfl, ?_⟩) ?_ ?_
          rotate_left
          ·intro w'
           go_simp
           with_reducible rfl
          rotate_left
          ·simp only [Act.put, List.setIfInBounds_toArray, List.set_cons_zero, List.set_cons_succ, i64_w, i32_w]
           rfl
          refine take_ (i := 5) (N := some 85) (v := ?_) (a' := ?_) #[true, true, true, true, true, true, false, false, false, false, false, false, false, false, false, false, false, false, false, false, false] rfl rfl (take_ofW HT_.out HW_.out (by kernel_rfl)) (fun _ _ _ h => h) (Or.inl ⟨by rfl, ?_⟩) hHeld ?_ ?_
          rotate_left
          ·rintro w' ⟨s0, s1, s2, s3, s4, s5, s6, s7⟩
           go_simp
           with_reducible rfl
          rotate_left
          ·simp only [Act.put, List.setIfInBounds_toArray, List.set_cons_zero, List.set_cons_succ, i64_w, i32_w]
           rfl
          refine take_ (i := 7) (N := some 87) (v := ?_) (a' := ?_) #[true, true, true, true, true, true, false, true, false, false, false, false, false, false, false, false, false, false, false, false, false] rfl rfl (take_ofW HT_.out HW_.out (by kernel_rfl)) (fun _ _ _ h => h) (Or.inl ⟨by rfl, ?_⟩) hHeld ?_ ?_
          rotate_left
          ·rintro w' ⟨s0, s1, s2, s3, s4, s5, s6, s7⟩
           go_simp
           with_reducible rfl
          rotate_left
          ·simp only [Act.put, List.setIfInBounds_toArray, List.set_cons_zero, List.set_cons_succ, i64_w, i32_w]
           rfl
          refine one_ (i := 6) (N := some 86) #[true, true, true, true, true, true, true, true, false, false, false, false, false, false, false, false, false, false, false, false, false] rfl rfl (one_of HT_.out (by kernel_rfl)) (by decide) (fun K hK => ?_)
          refine goes_ Try.func16 (by kernel_rfl) rfl #[.agg #[.int .u64 a0_0, .int .u64 a0_1]] (by rfl) rfl rfl (by (try simp only [List.map_toArray, List.map_cons, List.map_nil]); first | done | rfl | (simp only [List.length_drop, List.length_take]; rfl) | (go_simp; simp only [u8_w, w64_u8]; done) | (go_simp; simp only [u8_w, w64_u8]; rfl)) ?_
          with_reducible refine (wide_Print.calls kj10 a0_0 a0_1 t459 _ A48.out).mono ?_
          rintro e w68 ⟨rfl, hb⟩
          refine ⟨_, rfl, ?_⟩
          have n0_ := Aside0.mk (Kd.R_below (rN HO_439001) hb)
          have n1_ := blkB BK432 hb
          have n2_ := blkB BK438 hb
          have n3_ := blkB BK447 hb
          have n4_ := blkB BK453 hb
          have n5_ := Aside0.mk (below_step (bL HB) hb)
          clear HO_439001
          clear BK432
          clear BK438
          clear BK447
          clear BK453
          clear HB
          have HO_439001 := n0_
          have BK432 := n1_
          have BK438 := n2_
          have BK447 := n3_
          have BK453 := n4_
          have HB := n5_
          clear n0_ n1_ n2_ n3_ n4_ n5_
          (try clear hb)
          (try clear hb2)
          (try clear hk)
          (try clear hi)
          refine hK.out _ _ ⟨(blk_cell BK447.out 0).trans rfl, (blk_cell BK447.out 1).trans rfl, (blk_cell BK453.out 0).trans rfl, (blk_cell BK453.out 1).trans rfl, (blk_cell BK432.out 0).trans rfl, (blk_cell BK432.out 1).trans rfl, (blk_cell BK438.out 0).trans rfl, (blk_cell BK438.out 1).trans rfl⟩ (fun hHeld => ?_)
          clear hK K
          refine norm_ (a' := ?_) ?_ ?_
          rotate_left
          ·show Act.put _ (some 86) _ = _
           simp only [Act.put, List.setIfInBounds_toArray, List.set_cons_zero, List.set_cons_succ, i64_w, i32_w]
           rfl
          refine one_ (i := 8) (N := some 88) #[true, true, true, true, true, true, true, true, true, false, false, false, false, false, false, false, false, false, false, false, false] rfl rfl (one_of HT_.out (by kernel_rfl)) (by decide) (fun K hK => ?_)
          refine goes_ Try.func17 (by kernel_rfl) rfl #[.agg #[.bool t434, .slice Ao19 t435.length co19]] (by rfl) rfl rfl (by (try simp only [List.map_toArray, List.map_cons, List.map_nil]); first | done | rfl | (simp only [List.length_drop, List.length_take]; rfl) | (go_simp; simp only [u8_w, w64_u8]; done) | (go_simp; simp only [u8_w, w64_u8]; rfl)) ?_
          with_reducible refine (lorgnetteref01_Print.calls kj10 t434 _ _ t435 t460 _ ?side1 ?side2 A49.out).mono ?_
          (case side1 => repeat (first | exact (Kd.R_reads' HO_439001.out).2.2 | (with_reducible refine Kd.C_alloc ?_ _) | (with_reducible refine Kd.C_drewN ?_ _) | (with_reducible refine Kd.C_drew ?_)))
          (case side2 => exact (Kd.R_reads' HO_439001.out).2.1)
          rintro e w69 ⟨rfl, hb⟩
          refine ⟨_, rfl, ?_⟩
          have n0_ := Aside0.mk (Kd.R_below (rN HO_439001) hb)
          have n1_ := blkB BK432 hb
          have n2_ := blkB BK438 hb
          have n3_ := blkB BK447 hb
          have n4_ := blkB BK453 hb
          have n5_ := Aside0.mk (below_step (bL HB) hb)
          clear HO_439001
          clear BK432
          clear BK438
          clear BK447
          clear BK453
          clear HB
          have HO_439001 := n0_
          have BK432 := n1_
          have BK438 := n2_
          have BK447 := n3_
          have BK453 := n4_
          have HB := n5_
          clear n0_ n1_ n2_ n3_ n4_ n5_
          (try clear hb)
          (try clear hb2)
          (try clear hk)
          (try clear hi)
          refine hK.out _ _ ⟨(blk_cell BK447.out 0).trans rfl, (blk_cell BK447.out 1).trans rfl, (blk_cell BK453.out 0).trans rfl, (blk_cell BK453.out 1).trans rfl, (blk_cell BK432.out 0).trans rfl, (blk_cell BK432.out 1).trans rfl, (blk_cell BK438.out 0).trans rfl, (blk_cell BK438.out 1).trans rfl⟩ (fun hHeld => ?_)
          clear hK K
          refine norm_ (a' := ?_) ?_ ?_
          rotate_left
          ·show Act.put _ (some 88) _ = _
           simp only [Act.put, List.setIfInBounds_toArray, List.set_cons_zero, List.set_cons_succ, i64_w, i32_w]
           rfl
          refine pure_ (i := 9) (N := some 89) (v := ?_) (a' := ?_) #[true, true, true, true, true, true, true, true, true, true, false, false, false, false, false, false, false, false, false, false, false] rfl rfl (any_of HT_.out (by kernel_rfl)) (fun _ _ _ h => h) (Or.inl ⟨by rfl, ?_⟩) ?_ ?_
          rotate_left
          ·intro w'
           go_simp
           with_reducible rfl
          rotate_left
          ·simp only [Act.put, List.setIfInBounds_toArray, List.set_cons_zero, List.set_cons_succ, i64_w, i32_w]
           rfl
          refine pure_ (i := 10) (N := some 90) (v := ?_) (a' := ?_) #[true, true, true, true, true, true, true, true, true, true, true, false, false, false, false, false, false, false, false, false, false] rfl rfl (any_of HT_.out (by kernel_rfl)) (fun _ _ _ h => h) (Or.inl ⟨by rfl, ?_⟩) ?_ ?_
          rotate_left
          ·intro w'
           go_simp
           with_reducible rfl
          rotate_left
          ·simp only [Act.put, List.setIfInBounds_toArray, List.set_cons_zero, List.set_cons_succ, i64_w, i32_w]
           rfl
          refine pure_ (i := 11) (N := some 91) (v := ?_) (a' := ?_) #[true, true, true, true, true, true, true, true, true, true, true, true, false, false, false, false, false, false, false, false, false] rfl rfl (any_of HT_.out (by kernel_rfl)) (fun _ _ _ h => h) (Or.inl ⟨by rfl, ?_⟩) ?_ ?_
          rotate_left
          ·intro w'
           go_simp
           with_reducible rfl
          rotate_left
          ·simp only [Act.put, List.setIfInBounds_toArray, List.set_cons_zero, List.set_cons_succ, i64_w, i32_w]
           rfl
          refine pure_ (i := 12) (N := some 92) (v := ?_) (a' := ?_) #[true, true, true, true, true, true, true, true, true, true, true, true, true, false, false, false, false, false, false, false, false] rfl rfl (any_of HT_.out (by kernel_rfl)) (fun _ _ _ h => h) (Or.inl ⟨by rfl, ?_⟩) ?_ ?_
          rotate_left
          ·intro w'
           go_simp
           with_reducible rfl
          rotate_left
          ·simp only [Act.put, List.setIfInBounds_toArray, List.set_cons_zero, List.set_cons_succ, i64_w, i32_w]
           rfl
          refine pure_ (i := 13) (N := some 93) (v := ?_) (a' := ?_) #[true, true, true, true, true, true, true, true, true, true, true, true, true, true, false, false, false, false, false, false, false] rfl rfl (any_of HT_.out (by kernel_rfl)) (fun _ _ _ h => h) (Or.inl ⟨by rfl, ?_⟩) ?_ ?_
          rotate_left
          ·intro w'
           go_simp
           with_reducible rfl
          rotate_left
          ·simp only [Act.put, List.setIfInBounds_toArray, List.set_cons_zero, List.set_cons_succ, i64_w, i32_w]
           rfl
          refine pure_ (i := 14) (N := some 94) (v := ?_) (a' := ?_) #[true, true, true, true, true, true, true, true, true, true, true, true, true, true, true, false, false, false, false, false, false] rfl rfl (any_of HT_.out (by kernel_rfl)) (fun _ _ _ h => h) (Or.inl ⟨by rfl, ?_⟩) ?_ ?_
          rotate_left
          ·intro w'
           go_simp
           with_reducible rfl
          rotate_left
          ·simp only [Act.put, List.setIfInBounds_toArray, List.set_cons_zero, List.set_cons_succ, i64_w, i32_w]
           rfl
          refine pure_ (i := 15) (N := some 95) (v := ?_) (a' := ?_) #[true, true, true, true, true, true, true, true, true, true, true, true, true, true, true, true, false, false, false, false, false] rfl rfl (any_of HT_.out (by kernel_rfl)) (fun _ _ _ h => h) (Or.inl ⟨by rfl, ?_⟩) ?_ ?_
          rotate_left
          ·intro w'
           go_simp
           with_reducible rfl
          rotate_left
          ·simp only [Act.put, List.setIfInBounds_toArray, List.set_cons_zero, List.set_cons_succ, i64_w, i32_w]
           rfl
          refine pure_ (i := 16) (N := some 96) (v := ?_) (a' := ?_) #[true, true, true, true, true, true, true, true, true, true, true, true, true, true, true, true, true, false, false, false, false] rfl rfl (any_of HT_.out (by kernel_rfl)) (fun _ _ _ h => h) (Or.inl ⟨by rfl, ?_⟩) ?_ ?_
          rotate_left
          ·intro w'
           go_simp
           with_reducible rfl
          rotate_left
          ·simp only [Act.put, List.setIfInBounds_toArray, List.set_cons_zero, List.set_cons_succ, i64_w, i32_w]
           rfl
          refine pure_ (i := 17) (N := some 97) (v := ?_) (a' := ?_) #[true, true, true, true, true, true, true, true, true, true, true, true, true, true, true, true, true, true, false, false, false] rfl rfl (any_of HT_.out (by kernel_rfl)) (fun _ _ _ h => h) (Or.inl ⟨by rfl, ?_⟩) ?_ ?_
          rotate_left
          ·intro w'
           go_simp
           with_reducible rfl
          rotate_left
          ·simp only [Act.put, List.setIfInBounds_toArray, List.set_cons_zero, List.set_cons_succ, i64_w, i32_w]
           rfl
          refine pure_ (i := 18) (N := some 98) (v := ?_) (a' := ?_) #[true, true, true, true, true, true, true, true, true, true, true, true, true, true, true, true, true, true, true, false, false] rfl rfl (any_of HT_.out (by kernel_rfl)) (fun _ _ _ h => h) (Or.inl ⟨by rfl, ?_⟩) ?_ ?_
          rotate_left
          ·intro w'
           go_simp
           with_reducible rfl
          rotate_left
          ·simp only [Act.put, List.setIfInBounds_toArray, List.set_cons_zero, List.set_cons_succ, i64_w, i32_w]
           rfl
          refine pure_ (i := 19) (N := some 99) (v := ?_) (a' := ?_) #[true, true, true, true, true, true, true, true, true, true, true, true, true, true, true, true, true, true, true, true, false] rfl rfl (any_of HT_.out (by kernel_rfl)) (fun _ _ _ h => h) (Or.inl ⟨by rfl, ?_⟩) ?_ ?_
          rotate_left
          ·intro w'
           go_simp
           with_reducible rfl
          rotate_left
          ·simp only [Act.put, List.setIfInBounds_toArray, List.set_cons_zero, List.set_cons_succ, i64_w, i32_w]
           rfl
          refine pure_ (i := 20) (N := some 6) (v := ?_) (a' := ?_) #[true, true, true, true, true, true, true, true, true, true, true, true, true, true, true, true, true, true, true, true, true] rfl rfl (any_of HT_.out (by kernel_rfl)) (fun _ _ _ h => h) (Or.inl ⟨by rfl, ?_⟩) ?_ ?_
          rotate_left
          ·intro w'
           go_simp
           with_reducible rfl
          rotate_left
          ·simp only [Act.put, List.setIfInBounds_toArray, List.set_cons_zero, List.set_cons_succ, i64_w, i32_w]
           rfl
          refine done_ (done_of HT_.out (by kernel_rfl)) ?_
          try go_wp2
          go_ret
          exact ⟨by first | rfl | (simp [errW_none, errW_some] <;> rfl) | (simp [*, errW_none, errW_some] <;> rfl), by repeat (first | (with_reducible first | exact HB.out | apply below_alloc | apply pw_below_drewN | apply below_drew1 | refine below_set ?_ GE432.out | refine below_set ?_ GE438.out | refine below_set ?_ GE447.out | refine below_set ?_ GE453.out) | exact HB.out)⟩
         ·rw [if_neg c51] at H
          exact absurd H (by simp)
        ·rw [if_neg c50] at H
         exact absurd H (by simp)
       ·replace c47 := Bool.eq_false_iff.mpr c47
        subst c47
        have H1 : (none) = some r := by rw [if_neg (show ¬ (false = true) by decide)] at H; exact H
        clear H
        have H := H1
        clear H1
        exact absurd H (by simp)
      ·replace c43 := Bool.eq_false_iff.mpr c43
       subst c43
       have H1 : (if (t444 == 0 && (t445 == 0)) = true then (some (t446 == 17)) else (none)) = some r := by rw [if_neg (show ¬ (false = true) by decide)] at H; exact H
       clear H
       have H := H1
       clear H1
       by_cases c70 : (t444 == 0 && (t445 == 0)) = true
       ·rw [if_pos c70] at H
        have c70b0 : (t444 == 0 && (t445 == 0)) = true := c70
        (try (have c70b1 : decide (t444 = 0 && (t445 == 0)) = true := by simpa using c70))
        (try (have c70b2 : (t444 == 0 && (t445 == 0)) = true := by simpa using c70))
        clear c70
        obtain rfl := Option.some.inj H
        go_wp2_with (first | ((with_reducible refine gate_callee (f := 13) rfl ?_); refine goesL_ (some 57) rfl rfl Try.func13 (by kernel_rfl) rfl #[.string a1] rfl (by (try simp only [List.map_toArray, List.map_cons, List.map_nil]); first | done | rfl | (simp only [List.length_drop, List.length_take]; rfl) | (go_simp; simp only [u8_w, w64_u8]; done) | (go_simp; simp only [u8_w, w64_u8]; rfl)) ?_; (with_reducible refine (wide_Parse.calls kj10 a1 t444 t445 t446 _ A41.out).mono ?_); rintro e w71 ⟨rfl, hb⟩; refine ⟨_, rfl, ?_⟩; have n0_ := Aside0.mk (Kd.R_below (rN HO_439001) hb); have n1_ := blkB BK432 hb; have n2_ := blkB BK438 hb; have n3_ := Aside0.mk (below_step (bL HB) hb); clear HO_439001 BK432 BK438 HB; have HO_439001 := n0_; have BK432 := n1_; have BK438 := n2_; have HB := n3_; clear n0_ n1_ n2_ n3_; (try clear hb); (try clear hb2); (try clear hk); (try clear hi)) | ((with_reducible refine gate_dst (N := 10) rfl ?_); refine box_event ?hg (N := 10) ?hd (cs := #[.int .u64 0, .int .u64 0]) (t := 24) ?hr ?_; (case hd => rfl); (case hg => rfl); (case hr => first | (go_simp; done) | (go_simp; rfl)); intro gb447 hg w72 hbox hb; have n0_ := Aside0.mk (Kd.R_below (rN HO_439001) hb); have n1_ := blkB BK432 hb; have n2_ := blkB BK438 hb; have n3_ := Aside0.mk (below_step (bL HB) hb); have n4_ := Aside0.mk (hbox); have n5_ := Aside0.mk ((by rw [hg]; exact (below_size (bL HB)) : w.heap.size ≤ gb447)); have n6_ := Aside0.mk ((by rw [hg]; exact (below_size (bL HB)) : w.heap.size ≤ gb447)); have n7_ := blkL BK432 hg; have n8_ := blkG BK432 hg; have n9_ := blkL BK438 hg; have n10_ := blkG BK438 hg; clear HO_439001 BK432 BK438 HB; have HO_439001 := n0_; have BK432 := n1_; have BK438 := n2_; have HB := n3_; have BK447 := n4_; have GW447 := n5_; have GE447 := n6_; have NB432_447 := n7_; have NB447_432 := n8_; have NB438_447 := n9_; have NB447_438 := n10_; clear n0_ n1_ n2_ n3_ n4_ n5_ n6_ n7_ n8_ n9_ n10_; clear hb hbox hg; have hnb73 := NB447_432.out; have hnc73 := NB432_447.out; have hnb74 := NB447_438.out; have hnc74 := NB438_447.out; have hcz75_0 : w72.cell? ⟨gb447, 0, none⟩ = some (.int .u64 0) := (blk_cell BK447.out 0).trans rfl; have hcz75_1 : w72.cell? ⟨gb447, 1, none⟩ = some (.int .u64 0) := (blk_cell BK447.out 1).trans rfl; have hfz75_0 := blk_frozen BK447.out 0; have hfz75_1 := blk_frozen BK447.out 1) | ((with_reducible refine gate_callee (f := 14) rfl ?_); refine goesL_ (some 62) rfl rfl Try.func14 (by kernel_rfl) rfl #[.string a1] rfl (by (try simp only [List.map_toArray, List.map_cons, List.map_nil]); first | done | rfl | (simp only [List.length_drop, List.length_take]; rfl) | (go_simp; simp only [u8_w, w64_u8]; done) | (go_simp; simp only [u8_w, w64_u8]; rfl)) ?_; (with_reducible refine (lorgnetteref01_Parse.calls kj10 a1 t448 t449 false _ A42.out).mono ?_); rintro e w76 ⟨v450, rfl, ho0, hb⟩; refine ⟨_, rfl, ?_⟩; have n0_ := Aside0.mk (Kd.R_elder' (by (with_reducible repeat (first | apply Kd.R_alloc | apply Kd.R_drewN | apply Kd.R_drew)); exact (Kd.R_mono (Kd.R_far (p := ⟨gb447, 1, none⟩) (Kd.R_far (p := ⟨gb447, 0, none⟩) (Kd.R_types HO_439001.out BK447.out (by decide)) (fun _ hk => hk.2) (.int .u64 t444)) (fun _ hk => hk.2) (.int .u64 t445)) (fun _ h_ => h_.1))) (Kd.R_base ho0) hb); have n1_ := Aside0.mk (Kd.R_lower (Kd.R_new' ho0 (Kd.R_lt (by (with_reducible repeat (first | apply Kd.R_alloc | apply Kd.R_drewN | apply Kd.R_drew)); exact (Kd.R_mono (Kd.R_far (p := ⟨gb447, 1, none⟩) (Kd.R_far (p := ⟨gb447, 0, none⟩) (Kd.R_types HO_439001.out BK447.out (by decide)) (fun _ hk => hk.2) (.int .u64 t444)) (fun _ hk => hk.2) (.int .u64 t445)) (fun _ h_ => h_.1))))) (below_size (bL HB))); have n2_ := Aside0.mk (blk_below (g := gb432) (o := .cells #[.int .u64 a0_0, .int .u64 a0_1] 24 (0, 0)) (bF BK432) hb); have n3_ := Aside0.mk (blk_below (g := gb438) (o := .cells #[.bool t434, .slice Ao19 t435.length co19] 28 (0, 0)) (bF BK438) hb); have n4_ := Aside0.mk (blk_below (g := gb447) (o := .cells #[.int .u64 t444, .int .u64 t445] 24 (0, 0)) (by (with_reducible repeat (first | refine blk_drewN ?_ _ | refine blk_drew ?_ | refine blk_alloc ?_ _)); refine blk_put (cs := #[.int .u64 t444, .int .u64 0]) ?_ 1 _ rfl; (with_reducible repeat (first | refine blk_drewN ?_ _ | refine blk_drew ?_ | refine blk_alloc ?_ _)); refine blk_put (cs := #[.int .u64 0, .int .u64 0]) ?_ 0 _ rfl; (with_reducible repeat (first | refine blk_drewN ?_ _ | refine blk_drew ?_ | refine blk_alloc ?_ _)); exact BK447.out) hb); have n5_ := Aside0.mk (below_step (bL HB) hb); clear HO_439001 BK432 BK438 BK447 HB; have HO_439001 := n0_; have HO451 := n1_; have BK432 := n2_; have BK438 := n3_; have BK447 := n4_; have HB := n5_; clear n0_ n1_ n2_ n3_ n4_ n5_; (try clear hb); (try clear hb2); (try clear hk); (try clear hi); (try clear ho0)) | ((with_reducible refine gate_dst (N := 12) rfl ?_); refine box_event ?hg (N := 12) ?hd (cs := #[.bool false, .slice none 0 0]) (t := 28) ?hr ?_; (case hd => rfl); (case hg => rfl); (case hr => first | (go_simp; done) | (go_simp; rfl)); intro gb453 hg w77 hbox hb; have n0_ := Aside0.mk (Kd.R_below (rN HO_439001) hb); have n1_ := Aside0.mk (Kd.R_below (rN HO451) hb); have n2_ := blkB BK432 hb; have n3_ := blkB BK438 hb; have n4_ := blkB BK447 hb; have n5_ := Aside0.mk (below_step (bL HB) hb); have n6_ := Aside0.mk (hbox); have n7_ := Aside0.mk ((by rw [hg]; exact (below_size (bL HB)) : w.heap.size ≤ gb453)); have n8_ := Aside0.mk ((by rw [hg]; exact (below_size (bL HB)) : w.heap.size ≤ gb453)); have n9_ := blkL BK432 hg; have n10_ := blkG BK432 hg; have n11_ := blkL BK438 hg; have n12_ := blkG BK438 hg; have n13_ := blkL BK447 hg; have n14_ := blkG BK447 hg; clear HO_439001 HO451 BK432 BK438 BK447 HB; have HO_439001 := n0_; have HO451 := n1_; have BK432 := n2_; have BK438 := n3_; have BK447 := n4_; have HB := n5_; have BK453 := n6_; have GW453 := n7_; have GE453 := n8_; have NB432_453 := n9_; have NB453_432 := n10_; have NB438_453 := n11_; have NB453_438 := n12_; have NB447_453 := n13_; have NB453_447 := n14_; clear n0_ n1_ n2_ n3_ n4_ n5_ n6_ n7_ n8_ n9_ n10_ n11_ n12_ n13_ n14_; clear hb hbox hg; have hnb78 := NB453_432.out; have hnc78 := NB432_453.out; have hnb79 := NB453_438.out; have hnc79 := NB438_453.out; have hnb80 := NB453_447.out; have hnc80 := NB447_453.out; have hcz81_0 : w77.cell? ⟨gb453, 0, none⟩ = some (.bool false) := (blk_cell BK453.out 0).trans rfl; have hcz81_1 : w77.cell? ⟨gb453, 1, none⟩ = some (.slice none 0 0) := (blk_cell BK453.out 1).trans rfl; have hfz81_0 := blk_frozen BK453.out 0; have hfz81_1 := blk_frozen BK453.out 1; obtain ⟨Ao82, co82, eo82⟩ := Kd.R_slice HO451.out; subst eo82; have hcz83_0 : w77.cell? ⟨gb447, 0, none⟩ = some (.int .u64 t444) := (blk_cell BK447.out 0).trans rfl; have hcz83_1 : w77.cell? ⟨gb447, 1, none⟩ = some (.int .u64 t445) := (blk_cell BK447.out 1).trans rfl; have hfz83_0 := blk_frozen BK447.out 0; have hfz83_1 := blk_frozen BK447.out 1))
        go_ret
        exact ⟨by first | rfl | (simp [errW_none, errW_some] <;> rfl) | (simp [*, errW_none, errW_some] <;> rfl), by repeat (first | (with_reducible first | exact HB.out | apply below_alloc | apply pw_below_drewN | apply below_drew1 | refine below_set ?_ GE432.out | refine below_set ?_ GE438.out | refine below_set ?_ GE447.out | refine below_set ?_ GE453.out) | exact HB.out)⟩
       ·rw [if_neg c70] at H
        exact absurd H (by simp)
 ·replace c5 := Bool.eq_false_iff.mpr c5
  subst c5
  have H1 : (none) = some r := by rw [if_neg (show ¬ (false = true) by decide)] at H; exact H
  clear H
  have H := H1
  clear H1
  exact absurd H (by simp)

end Go.Proofs.Ytjnaebcdidilgaa.Q
