/- Functions of the program as Lean functions, and their walks: printed by print.py as this session changed it (mkprint.py). Lean checks it. No condition. -/
import Derived.Test.YtjnaebcdidilgaaQx0
import Derived.Test.YtjnaebcdidilgaaQx1
import Derived.Test.YtjnaebcdidilgaaQx3
import Derived.Test.YtjnaebcdidilgaaQx6
import Derived.Test.YtjnaebcdidilgaaQx11
import Derived.Test.YtjnaebcdidilgaaQx12
import Derived.Test.YtjnaebcdidilgaaQx13
import Derived.Test.YtjnaebcdidilgaaQx28
import Derived.Test.YtjnaebcdidilgaaQx33
namespace Go.Proofs.Ytjnaebcdidilgaa.Q
open Go.RowKit Go.Proofs.YtjnaebcdidilgaaW.PrintWords Go.Proofs.YtjnaebcdidilgaaW.PrintLast Go.Proofs.YtjnaebcdidilgaaW.PrintMore
attribute [local go_sem] max2_int min2_int max_two min_two max_three min_three max_four min_four   -- for this text's walks alone
attribute [local go_sem] Instr.field asAgg
set_option linter.unusedVariables false
set_option linter.unusedSimpArgs false

attribute [local go_sem high] eqA24
/-! ### lorgnettelaw01_WideParts: function 7 -/
mutual
def lorgnettelaw01_WideParts.j0 : Nat → Bool → Int → Int → Int → Int → Int → Int → Option (Bool)
  | 0, _, _, _, _, _, _, _ => none
  | k + 1, x98, x643000, x643001, x647000, x647001, x655000, x655001 => if x98 = true then (none) else ((wide_Cmp.f x655000 x655001 x647000 x647001).bind fun t668 => (if t668 < 0 then ((wide_Neg.f x655000 x655001).bind fun bt669 => (if bt669.2.2 = 0 then (lorgnettelaw01_WideParts.j1 k x643000 x643001 x647000 x647001 bt669.1 bt669.2.1) else (none))) else (lorgnettelaw01_WideParts.j1 k x643000 x643001 x647000 x647001 x655000 x655001)))
def lorgnettelaw01_WideParts.j1 : Nat → Int → Int → Int → Int → Int → Int → Option (Bool)
  | 0, _, _, _, _, _, _ => none
  | k + 1, x643000, x643001, x647000, x647001, x655000, x655001 => (wide_Cmp.f x643000 x643001 x647000 x647001).bind fun t673 => (if t673 > 0 then ((wide_Cmp.f x655000 x655001 x643000 x643001).bind fun t674 => (some (decide (t674 < 0)))) else ((wide_Neg.f x655000 x655001).bind fun bt675 => (if bt675.2.2 = 0 then ((wide_Cmp.f x643000 x643001 bt675.1 bt675.2.1).bind fun t679 => (some (decide (t679 < 0)))) else (none))))
end
def lorgnettelaw01_WideParts.f (k : Nat) (a0_0 : Int) (a0_1 : Int) (a1_0 : Int) (a1_1 : Int) : Option (Bool) := (lorgnettelaw01_awake.f k).bind fun t643 => (if t643 = true then ((wide_Of.f 0).bind fun bt644 => ((wide_Quo.f k a0_0 a0_1 a1_0 a1_1).bind fun bt647 => ((wide_Rem.f k a0_0 a0_1 a1_0 a1_1).bind fun bt651 => (if (a1_0 == bt644.1 && (a1_1 == bt644.2)) = true then (if bt647.2.2 = 10 then (some (bt651.2.2 == 10)) else (none)) else (if bt651.2.2 = 0 then (if bt647.2.2 = 0 then ((wide_Mul.f k bt647.1 bt647.2.1 a1_0 a1_1).bind fun bt658 => ((wide_Add.f bt658.1 bt658.2.1 bt651.1 bt651.2.1).bind fun bt662 => (if bt658.2.2 = 0 then (if bt662.2.2 = 0 then (if (!(bt662.1 == a0_0) || (!(bt662.2.1 == a0_1))) = true then (lorgnettelaw01_WideParts.j0 k true a1_0 a1_1 bt644.1 bt644.2 bt651.1 bt651.2.1) else (if (!(bt651.1 == bt644.1) || (!(bt651.2.1 == bt644.2))) = true then ((wide_Cmp.f bt651.1 bt651.2.1 bt644.1 bt644.2).bind fun t666 => ((wide_Cmp.f a0_0 a0_1 bt644.1 bt644.2).bind fun t667 => (lorgnettelaw01_WideParts.j0 k ((decide (t666 < 0)) != (decide (t667 < 0))) a1_0 a1_1 bt644.1 bt644.2 bt651.1 bt651.2.1))) else (lorgnettelaw01_WideParts.j0 k false a1_0 a1_1 bt644.1 bt644.2 bt651.1 bt651.2.1))) else (lorgnettelaw01_WideParts.j0 k true a1_0 a1_1 bt644.1 bt644.2 bt651.1 bt651.2.1)) else (lorgnettelaw01_WideParts.j0 k true a1_0 a1_1 bt644.1 bt644.2 bt651.1 bt651.2.1)))) else ((wide_Of.f (-1)).bind fun bt655 => (if (a1_0 == bt655.1 && (a1_1 == bt655.2)) = true then (if (bt651.1 == bt644.1 && (bt651.2.1 == bt644.2)) = true then ((wide_Cmp.f a0_0 a0_1 bt644.1 bt644.2).bind fun t657 => (some (decide (t657 < 0)))) else (none)) else (none)))) else (none)))))) else (none))
theorem lorgnettelaw01_WideParts.mono_l : ∀ k, (∀ y0 y1 y2 y3 y4 y5 y6, LeO (lorgnettelaw01_WideParts.j0 k y0 y1 y2 y3 y4 y5 y6) (lorgnettelaw01_WideParts.j0 (k + 1) y0 y1 y2 y3 y4 y5 y6)) ∧ (∀ y0 y1 y2 y3 y4 y5, LeO (lorgnettelaw01_WideParts.j1 k y0 y1 y2 y3 y4 y5) (lorgnettelaw01_WideParts.j1 (k + 1) y0 y1 y2 y3 y4 y5))
  | 0 => ⟨fun _ _ _ _ _ _ _ r h => by simp [lorgnettelaw01_WideParts.j0] at h, fun _ _ _ _ _ _ r h => by simp [lorgnettelaw01_WideParts.j1] at h⟩
  | k + 1 => by
    obtain ⟨ih0, ih1⟩ := lorgnettelaw01_WideParts.mono_l k
    refine ⟨?_, ?_⟩
    · intro y0 y1 y2 y3 y4 y5 y6
      unfold lorgnettelaw01_WideParts.j0
      repeat' first
      | (with_reducible exact ih0 _ _ _ _ _ _ _)
      | (with_reducible exact ih1 _ _ _ _ _ _)
      | (with_reducible exact lorgnettelaw01_awake.mono _)
      | (with_reducible exact wide_Mul.mono _ _ _ _ _)
      | (with_reducible exact wide_Quo.mono _ _ _ _ _)
      | (with_reducible exact wide_Rem.mono _ _ _ _ _)
      | (with_reducible exact LeO.refl _)
      | (with_reducible exact LeO.none _)
      | (with_reducible refine LeO.ite ?_ ?_)
      | (with_reducible refine LeO.bind ?_ (fun _ => ?_))
      | exact ih0 _ _ _ _ _ _ _
      | exact ih1 _ _ _ _ _ _
      | exact lorgnettelaw01_awake.mono _
      | exact wide_Mul.mono _ _ _ _ _
      | exact wide_Quo.mono _ _ _ _ _
      | exact wide_Rem.mono _ _ _ _ _
      | exact LeO.none _
      | refine LeO.ite ?_ ?_
      | refine LeO.bind ?_ (fun _ => ?_)
    · intro y0 y1 y2 y3 y4 y5
      unfold lorgnettelaw01_WideParts.j1
      repeat' first
      | (with_reducible exact ih0 _ _ _ _ _ _ _)
      | (with_reducible exact ih1 _ _ _ _ _ _)
      | (with_reducible exact lorgnettelaw01_awake.mono _)
      | (with_reducible exact wide_Mul.mono _ _ _ _ _)
      | (with_reducible exact wide_Quo.mono _ _ _ _ _)
      | (with_reducible exact wide_Rem.mono _ _ _ _ _)
      | (with_reducible exact LeO.refl _)
      | (with_reducible exact LeO.none _)
      | (with_reducible refine LeO.ite ?_ ?_)
      | (with_reducible refine LeO.bind ?_ (fun _ => ?_))
      | exact ih0 _ _ _ _ _ _ _
      | exact ih1 _ _ _ _ _ _
      | exact lorgnettelaw01_awake.mono _
      | exact wide_Mul.mono _ _ _ _ _
      | exact wide_Quo.mono _ _ _ _ _
      | exact wide_Rem.mono _ _ _ _ _
      | exact LeO.none _
      | refine LeO.ite ?_ ?_
      | refine LeO.bind ?_ (fun _ => ?_)
theorem lorgnettelaw01_WideParts.mono : ∀ a0 a1 a2 a3 k, LeO (lorgnettelaw01_WideParts.f k a0 a1 a2 a3) (lorgnettelaw01_WideParts.f (k + 1) a0 a1 a2 a3) := by
  intro a0 a1 a2 a3 k
  obtain ⟨ih0, ih1⟩ := lorgnettelaw01_WideParts.mono_l k
  unfold lorgnettelaw01_WideParts.f
  repeat' first
      | (with_reducible exact ih0 _ _ _ _ _ _ _)
      | (with_reducible exact ih1 _ _ _ _ _ _)
      | (with_reducible exact lorgnettelaw01_awake.mono _)
      | (with_reducible exact wide_Mul.mono _ _ _ _ _)
      | (with_reducible exact wide_Quo.mono _ _ _ _ _)
      | (with_reducible exact wide_Rem.mono _ _ _ _ _)
      | (with_reducible exact LeO.refl _)
      | (with_reducible exact LeO.none _)
      | (with_reducible refine LeO.ite ?_ ?_)
      | (with_reducible refine LeO.bind ?_ (fun _ => ?_))
      | exact ih0 _ _ _ _ _ _ _
      | exact ih1 _ _ _ _ _ _
      | exact lorgnettelaw01_awake.mono _
      | exact wide_Mul.mono _ _ _ _ _
      | exact wide_Quo.mono _ _ _ _ _
      | exact wide_Rem.mono _ _ _ _ _
      | exact LeO.none _
      | refine LeO.ite ?_ ?_
      | refine LeO.bind ?_ (fun _ => ?_)
def lorgnettelaw01_WideParts.T11 : Bool × List (List Nat × List Nat) := (true, [([], []), ([], []), ([0, 1], [0, 1]), ([2, 1], [2]), ([3], [3]), ([3], [3]), ([4, 5, 3], [3, 4, 5]), ([3, 6], [3, 6]), ([7, 3], [7]), ([8], [8]), ([8], [8]), ([9, 10, 8, 8], [8, 9, 10]), ([11, 8], [8, 11]), ([8, 12], [8, 12]), ([13, 11, 0, 1, 2, 3, 4, 5, 6, 7, 8, 9, 10, 11, 12, 13], [13])])
def lorgnettelaw01_WideParts.B11 : List Nat := [0, 0, 3, 7, 15, 15, 63, 127, 255, 511, 511, 2047, 4095, 8191, 16383]
theorem lorgnettelaw01_WideParts.tab11 : rtab .any (opsOf Try.f7 11) = lorgnettelaw01_WideParts.T11 := by kernel_rfl
theorem lorgnettelaw01_WideParts.bits11 : waitsOk lorgnettelaw01_WideParts.T11.2 lorgnettelaw01_WideParts.B11 = true := by kernel_rfl
def lorgnettelaw01_WideParts.T14 : Bool × List (List Nat × List Nat) := (true, [([], []), ([0], [0]), ([1], [1]), ([2], [2]), ([3, 2], [2, 3]), ([2, 4], [2, 4]), ([5, 2], [5]), ([6], [6]), ([6], [6]), ([7, 8, 6], [6, 7, 8]), ([6, 9], [6, 9]), ([10, 6], [10]), ([11], [11]), ([11], [11]), ([12, 13, 11], [11, 12, 13]), ([14, 11, 11], [11, 14]), ([15], [15]), ([15], [15]), ([16, 17, 15, 15], [15, 16, 17]), ([18, 15], [15, 18]), ([15], [15]), ([15], [15]), ([20, 21, 18, 15], [15, 20, 21]), ([22, 15], [15, 22]), ([19, 23, 15], [15, 19, 23]), ([15, 24, 11], [11, 15, 24]), ([11, 25], [11, 25])])
def lorgnettelaw01_WideParts.B14 : List Nat := [0, 1, 3, 7, 15, 31, 63, 127, 127, 511, 1023, 2047, 4095, 4095, 16383, 32767, 65535, 65535, 262143, 524287, 65535, 65535, 3670015, 7864319, 16777215, 33554431, 67108863]
theorem lorgnettelaw01_WideParts.tab14 : rtab .any (opsOf Try.f7 14) = lorgnettelaw01_WideParts.T14 := by kernel_rfl
theorem lorgnettelaw01_WideParts.bits14 : waitsOk lorgnettelaw01_WideParts.T14.2 lorgnettelaw01_WideParts.B14 = true := by kernel_rfl
set_option maxHeartbeats 8000000 in
set_option maxRecDepth 100000 in
theorem lorgnettelaw01_WideParts.calls (k : Nat) (a0_0 : Int) (a0_1 : Int) (a1_0 : Int) (a1_1 : Int) (r : Bool) (w : World) (h : lorgnettelaw01_WideParts.f k a0_0 a0_1 a1_0 a1_1 = some r) :
    Calls Try.prog 7 #[.agg #[.int .u64 a0_0, .int .u64 a0_1], .agg #[.int .u64 a1_0, .int .u64 a1_1]] w fun e w' => e = .returned (.bool r) ∧ Below w.heap.size w w' := by
  have hu24 := Try.underlying24
  have HB := Aside0.mk (Below.refl w.heap.size w)
  have H : ((lorgnettelaw01_awake.f k).bind fun t643 => (if t643 = true then ((wide_Of.f 0).bind fun bt644 => ((wide_Quo.f k a0_0 a0_1 a1_0 a1_1).bind fun bt647 => ((wide_Rem.f k a0_0 a0_1 a1_0 a1_1).bind fun bt651 => (if (a1_0 == bt644.1 && (a1_1 == bt644.2)) = true then (if bt647.2.2 = 10 then (some (bt651.2.2 == 10)) else (none)) else (if bt651.2.2 = 0 then (if bt647.2.2 = 0 then ((wide_Mul.f k bt647.1 bt647.2.1 a1_0 a1_1).bind fun bt658 => ((wide_Add.f bt658.1 bt658.2.1 bt651.1 bt651.2.1).bind fun bt662 => (if bt658.2.2 = 0 then (if bt662.2.2 = 0 then (if (!(bt662.1 == a0_0) || (!(bt662.2.1 == a0_1))) = true then (lorgnettelaw01_WideParts.j0 k true a1_0 a1_1 bt644.1 bt644.2 bt651.1 bt651.2.1) else (if (!(bt651.1 == bt644.1) || (!(bt651.2.1 == bt644.2))) = true then ((wide_Cmp.f bt651.1 bt651.2.1 bt644.1 bt644.2).bind fun t666 => ((wide_Cmp.f a0_0 a0_1 bt644.1 bt644.2).bind fun t667 => (lorgnettelaw01_WideParts.j0 k ((decide (t666 < 0)) != (decide (t667 < 0))) a1_0 a1_1 bt644.1 bt644.2 bt651.1 bt651.2.1))) else (lorgnettelaw01_WideParts.j0 k false a1_0 a1_1 bt644.1 bt644.2 bt651.1 bt651.2.1))) else (lorgnettelaw01_WideParts.j0 k true a1_0 a1_1 bt644.1 bt644.2 bt651.1 bt651.2.1)) else (lorgnettelaw01_WideParts.j0 k true a1_0 a1_1 bt644.1 bt644.2 bt651.1 bt651.2.1)))) else ((wide_Of.f (-1)).bind fun bt655 => (if (a1_0 == bt655.1 && (a1_1 == bt655.2)) = true then (if (bt651.1 == bt644.1 && (bt651.2.1 == bt644.2)) = true then ((wide_Cmp.f a0_0 a0_1 bt644.1 bt644.2).bind fun t657 => (some (decide (t657 < 0)))) else (none)) else (none)))) else (none)))))) else (none))) = some r := h
  clear h
  replace H := Option.bind_eq_some_iff.mp H
  obtain ⟨t643, A30, H⟩ := H
  replace H : (if t643 = true then ((wide_Of.f 0).bind fun bt644 => ((wide_Quo.f k a0_0 a0_1 a1_0 a1_1).bind fun bt647 => ((wide_Rem.f k a0_0 a0_1 a1_0 a1_1).bind fun bt651 => (if (a1_0 == bt644.1 && (a1_1 == bt644.2)) = true then (if bt647.2.2 = 10 then (some (bt651.2.2 == 10)) else (none)) else (if bt651.2.2 = 0 then (if bt647.2.2 = 0 then ((wide_Mul.f k bt647.1 bt647.2.1 a1_0 a1_1).bind fun bt658 => ((wide_Add.f bt658.1 bt658.2.1 bt651.1 bt651.2.1).bind fun bt662 => (if bt658.2.2 = 0 then (if bt662.2.2 = 0 then (if (!(bt662.1 == a0_0) || (!(bt662.2.1 == a0_1))) = true then (lorgnettelaw01_WideParts.j0 k true a1_0 a1_1 bt644.1 bt644.2 bt651.1 bt651.2.1) else (if (!(bt651.1 == bt644.1) || (!(bt651.2.1 == bt644.2))) = true then ((wide_Cmp.f bt651.1 bt651.2.1 bt644.1 bt644.2).bind fun t666 => ((wide_Cmp.f a0_0 a0_1 bt644.1 bt644.2).bind fun t667 => (lorgnettelaw01_WideParts.j0 k ((decide (t666 < 0)) != (decide (t667 < 0))) a1_0 a1_1 bt644.1 bt644.2 bt651.1 bt651.2.1))) else (lorgnettelaw01_WideParts.j0 k false a1_0 a1_1 bt644.1 bt644.2 bt651.1 bt651.2.1))) else (lorgnettelaw01_WideParts.j0 k true a1_0 a1_1 bt644.1 bt644.2 bt651.1 bt651.2.1)) else (lorgnettelaw01_WideParts.j0 k true a1_0 a1_1 bt644.1 bt644.2 bt651.1 bt651.2.1)))) else ((wide_Of.f (-1)).bind fun bt655 => (if (a1_0 == bt655.1 && (a1_1 == bt655.2)) = true then (if (bt651.1 == bt644.1 && (bt651.2.1 == bt644.2)) = true then ((wide_Cmp.f a0_0 a0_1 bt644.1 bt644.2).bind fun t657 => (some (decide (t657 < 0)))) else (none)) else (none)))) else (none)))))) else (none)) = some r := H
  have A3 := Aside0.mk A30
  clear A30
  by_cases c4 : t643 = true
  · subst c4
    have H1 : ((wide_Of.f 0).bind fun bt644 => ((wide_Quo.f k a0_0 a0_1 a1_0 a1_1).bind fun bt647 => ((wide_Rem.f k a0_0 a0_1 a1_0 a1_1).bind fun bt651 => (if (a1_0 == bt644.1 && (a1_1 == bt644.2)) = true then (if bt647.2.2 = 10 then (some (bt651.2.2 == 10)) else (none)) else (if bt651.2.2 = 0 then (if bt647.2.2 = 0 then ((wide_Mul.f k bt647.1 bt647.2.1 a1_0 a1_1).bind fun bt658 => ((wide_Add.f bt658.1 bt658.2.1 bt651.1 bt651.2.1).bind fun bt662 => (if bt658.2.2 = 0 then (if bt662.2.2 = 0 then (if (!(bt662.1 == a0_0) || (!(bt662.2.1 == a0_1))) = true then (lorgnettelaw01_WideParts.j0 k true a1_0 a1_1 bt644.1 bt644.2 bt651.1 bt651.2.1) else (if (!(bt651.1 == bt644.1) || (!(bt651.2.1 == bt644.2))) = true then ((wide_Cmp.f bt651.1 bt651.2.1 bt644.1 bt644.2).bind fun t666 => ((wide_Cmp.f a0_0 a0_1 bt644.1 bt644.2).bind fun t667 => (lorgnettelaw01_WideParts.j0 k ((decide (t666 < 0)) != (decide (t667 < 0))) a1_0 a1_1 bt644.1 bt644.2 bt651.1 bt651.2.1))) else (lorgnettelaw01_WideParts.j0 k false a1_0 a1_1 bt644.1 bt644.2 bt651.1 bt651.2.1))) else (lorgnettelaw01_WideParts.j0 k true a1_0 a1_1 bt644.1 bt644.2 bt651.1 bt651.2.1)) else (lorgnettelaw01_WideParts.j0 k true a1_0 a1_1 bt644.1 bt644.2 bt651.1 bt651.2.1)))) else ((wide_Of.f (-1)).bind fun bt655 => (if (a1_0 == bt655.1 && (a1_1 == bt655.2)) = true then (if (bt651.1 == bt644.1 && (bt651.2.1 == bt644.2)) = true then ((wide_Cmp.f a0_0 a0_1 bt644.1 bt644.2).bind fun t657 => (some (decide (t657 < 0)))) else (none)) else (none)))) else (none)))))) = some r := by rw [if_pos rfl] at H; exact H
    clear H
    have H := H1
    clear H1
    replace H := Option.bind_eq_some_iff.mp H
    obtain ⟨⟨t644, t645⟩, A50, H⟩ := H
    replace H : ((wide_Quo.f k a0_0 a0_1 a1_0 a1_1).bind fun bt647 => ((wide_Rem.f k a0_0 a0_1 a1_0 a1_1).bind fun bt651 => (if (a1_0 == t644 && (a1_1 == t645)) = true then (if bt647.2.2 = 10 then (some (bt651.2.2 == 10)) else (none)) else (if bt651.2.2 = 0 then (if bt647.2.2 = 0 then ((wide_Mul.f k bt647.1 bt647.2.1 a1_0 a1_1).bind fun bt658 => ((wide_Add.f bt658.1 bt658.2.1 bt651.1 bt651.2.1).bind fun bt662 => (if bt658.2.2 = 0 then (if bt662.2.2 = 0 then (if (!(bt662.1 == a0_0) || (!(bt662.2.1 == a0_1))) = true then (lorgnettelaw01_WideParts.j0 k true a1_0 a1_1 t644 t645 bt651.1 bt651.2.1) else (if (!(bt651.1 == t644) || (!(bt651.2.1 == t645))) = true then ((wide_Cmp.f bt651.1 bt651.2.1 t644 t645).bind fun t666 => ((wide_Cmp.f a0_0 a0_1 t644 t645).bind fun t667 => (lorgnettelaw01_WideParts.j0 k ((decide (t666 < 0)) != (decide (t667 < 0))) a1_0 a1_1 t644 t645 bt651.1 bt651.2.1))) else (lorgnettelaw01_WideParts.j0 k false a1_0 a1_1 t644 t645 bt651.1 bt651.2.1))) else (lorgnettelaw01_WideParts.j0 k true a1_0 a1_1 t644 t645 bt651.1 bt651.2.1)) else (lorgnettelaw01_WideParts.j0 k true a1_0 a1_1 t644 t645 bt651.1 bt651.2.1)))) else ((wide_Of.f (-1)).bind fun bt655 => (if (a1_0 == bt655.1 && (a1_1 == bt655.2)) = true then (if (bt651.1 == t644 && (bt651.2.1 == t645)) = true then ((wide_Cmp.f a0_0 a0_1 t644 t645).bind fun t657 => (some (decide (t657 < 0)))) else (none)) else (none)))) else (none))))) = some r := H
    have A5 := Aside0.mk A50
    clear A50
    replace H := Option.bind_eq_some_iff.mp H
    obtain ⟨⟨t647, t648, t649⟩, A60, H⟩ := H
    replace H : ((wide_Rem.f k a0_0 a0_1 a1_0 a1_1).bind fun bt651 => (if (a1_0 == t644 && (a1_1 == t645)) = true then (if t649 = 10 then (some (bt651.2.2 == 10)) else (none)) else (if bt651.2.2 = 0 then (if t649 = 0 then ((wide_Mul.f k t647 t648 a1_0 a1_1).bind fun bt658 => ((wide_Add.f bt658.1 bt658.2.1 bt651.1 bt651.2.1).bind fun bt662 => (if bt658.2.2 = 0 then (if bt662.2.2 = 0 then (if (!(bt662.1 == a0_0) || (!(bt662.2.1 == a0_1))) = true then (lorgnettelaw01_WideParts.j0 k true a1_0 a1_1 t644 t645 bt651.1 bt651.2.1) else (if (!(bt651.1 == t644) || (!(bt651.2.1 == t645))) = true then ((wide_Cmp.f bt651.1 bt651.2.1 t644 t645).bind fun t666 => ((wide_Cmp.f a0_0 a0_1 t644 t645).bind fun t667 => (lorgnettelaw01_WideParts.j0 k ((decide (t666 < 0)) != (decide (t667 < 0))) a1_0 a1_1 t644 t645 bt651.1 bt651.2.1))) else (lorgnettelaw01_WideParts.j0 k false a1_0 a1_1 t644 t645 bt651.1 bt651.2.1))) else (lorgnettelaw01_WideParts.j0 k true a1_0 a1_1 t644 t645 bt651.1 bt651.2.1)) else (lorgnettelaw01_WideParts.j0 k true a1_0 a1_1 t644 t645 bt651.1 bt651.2.1)))) else ((wide_Of.f (-1)).bind fun bt655 => (if (a1_0 == bt655.1 && (a1_1 == bt655.2)) = true then (if (bt651.1 == t644 && (bt651.2.1 == t645)) = true then ((wide_Cmp.f a0_0 a0_1 t644 t645).bind fun t657 => (some (decide (t657 < 0)))) else (none)) else (none)))) else (none)))) = some r := H
    have A6 := Aside0.mk A60
    clear A60
    replace H := Option.bind_eq_some_iff.mp H
    obtain ⟨⟨t651, t652, t653⟩, A70, H⟩ := H
    replace H : (if (a1_0 == t644 && (a1_1 == t645)) = true then (if t649 = 10 then (some (t653 == 10)) else (none)) else (if t653 = 0 then (if t649 = 0 then ((wide_Mul.f k t647 t648 a1_0 a1_1).bind fun bt658 => ((wide_Add.f bt658.1 bt658.2.1 t651 t652).bind fun bt662 => (if bt658.2.2 = 0 then (if bt662.2.2 = 0 then (if (!(bt662.1 == a0_0) || (!(bt662.2.1 == a0_1))) = true then (lorgnettelaw01_WideParts.j0 k true a1_0 a1_1 t644 t645 t651 t652) else (if (!(t651 == t644) || (!(t652 == t645))) = true then ((wide_Cmp.f t651 t652 t644 t645).bind fun t666 => ((wide_Cmp.f a0_0 a0_1 t644 t645).bind fun t667 => (lorgnettelaw01_WideParts.j0 k ((decide (t666 < 0)) != (decide (t667 < 0))) a1_0 a1_1 t644 t645 t651 t652))) else (lorgnettelaw01_WideParts.j0 k false a1_0 a1_1 t644 t645 t651 t652))) else (lorgnettelaw01_WideParts.j0 k true a1_0 a1_1 t644 t645 t651 t652)) else (lorgnettelaw01_WideParts.j0 k true a1_0 a1_1 t644 t645 t651 t652)))) else ((wide_Of.f (-1)).bind fun bt655 => (if (a1_0 == bt655.1 && (a1_1 == bt655.2)) = true then (if (t651 == t644 && (t652 == t645)) = true then ((wide_Cmp.f a0_0 a0_1 t644 t645).bind fun t657 => (some (decide (t657 < 0)))) else (none)) else (none)))) else (none))) = some r := H
    have A7 := Aside0.mk A70
    clear A70
    by_cases c8 : (a1_0 == t644 && (a1_1 == t645)) = true
    · rw [if_pos c8] at H
      have c8b0 : (a1_0 == t644 && (a1_1 == t645)) = true := c8
      (try (have c8b1 : decide (a1_0 = t644 && (a1_1 == t645)) = true := by simpa using c8))
      (try (have c8b2 : (a1_0 == t644 && (a1_1 == t645)) = true := by simpa using c8))
      clear c8
      by_cases c9 : t649 = 10
      · rw [if_pos c9] at H
        have c9b0 : (t649 == 10) = true := beq_iff_eq.mpr c9
        have c9b1 : (t649 != 10) = false := bne_eq_false_iff_eq.mpr c9
        clear c9
        obtain rfl := Option.some.inj H
        go_enter Try.func7, Try.ntmps7
        go_wp2_with (first | ((with_reducible refine gate_dst (N := 2) rfl ?_); refine box_event ?hg (N := 2) ?hd (cs := #[.int .u64 a0_0, .int .u64 a0_1]) (t := 24) ?hr ?_; (case hd => rfl); (case hg => rfl); (case hr => first | (go_simp; done) | (go_simp; rfl)); intro gb641 hg w10 hbox hb; have n0_ := Aside0.mk (below_step (bL HB) hb); have n1_ := Aside0.mk (hbox); have n2_ := Aside0.mk ((by rw [hg]; exact (below_size (bL HB)) : w.heap.size ≤ gb641)); have n3_ := Aside0.mk ((by rw [hg]; exact (below_size (bL HB)) : w.heap.size ≤ gb641)); clear HB; have HB := n0_; have BK641 := n1_; have GW641 := n2_; have GE641 := n3_; clear n0_ n1_ n2_ n3_; clear hb hbox hg) | ((with_reducible refine gate_dst (N := 3) rfl ?_); refine box_event ?hg (N := 3) ?hd (cs := #[.int .u64 a1_0, .int .u64 a1_1]) (t := 24) ?hr ?_; (case hd => rfl); (case hg => rfl); (case hr => first | (go_simp; done) | (go_simp; rfl)); intro gb642 hg w11 hbox hb; have n0_ := blkB BK641 hb; have n1_ := Aside0.mk (below_step (bL HB) hb); have n2_ := Aside0.mk (hbox); have n3_ := Aside0.mk ((by rw [hg]; exact (below_size (bL HB)) : w.heap.size ≤ gb642)); have n4_ := Aside0.mk ((by rw [hg]; exact (below_size (bL HB)) : w.heap.size ≤ gb642)); have n5_ := blkL BK641 hg; have n6_ := blkG BK641 hg; clear BK641 HB; have BK641 := n0_; have HB := n1_; have BK642 := n2_; have GW642 := n3_; have GE642 := n4_; have NB641_642 := n5_; have NB642_641 := n6_; clear n0_ n1_ n2_ n3_ n4_ n5_ n6_; clear hb hbox hg) | ((with_reducible refine gate_callee (f := 8) rfl ?_); refine goesL_ (some 18) rfl rfl Try.func8 (by kernel_rfl) rfl #[] rfl (by (try simp only [List.map_toArray, List.map_cons, List.map_nil]); first | done | rfl | (simp only [List.length_drop, List.length_take]; rfl) | (go_simp; simp only [u8_w, w64_u8]; done) | (go_simp; simp only [u8_w, w64_u8]; rfl)) ?_; (with_reducible refine (lorgnettelaw01_awake.calls k  true _ A3.out).mono ?_); rintro e w12 ⟨rfl, hb⟩; refine ⟨_, rfl, ?_⟩; have n0_ := blkB BK641 hb; have n1_ := blkB BK642 hb; have n2_ := Aside0.mk (below_step (bL HB) hb); clear BK641 BK642 HB; have BK641 := n0_; have BK642 := n1_; have HB := n2_; clear n0_ n1_ n2_; (try clear hb); (try clear hb2); (try clear hk); (try clear hi)) | ((with_reducible refine gate_callee (f := 12) rfl ?_); refine goesL_ (some 20) rfl rfl Try.func12 (by kernel_rfl) rfl #[.int .i64 0] rfl (by (try simp only [List.map_toArray, List.map_cons, List.map_nil]); first | done | rfl | (simp only [List.length_drop, List.length_take]; rfl) | (go_simp; simp only [u8_w, w64_u8]; done) | (go_simp; simp only [u8_w, w64_u8]; rfl)) ?_; (with_reducible refine (wide_Of.calls 0 t644 t645 _ A5.out).mono ?_); rintro e w13 ⟨rfl, hb⟩; refine ⟨_, rfl, ?_⟩; have n0_ := blkB BK641 hb; have n1_ := blkB BK642 hb; have n2_ := Aside0.mk (below_step (bL HB) hb); clear BK641 BK642 HB; have BK641 := n0_; have BK642 := n1_; have HB := n2_; clear n0_ n1_ n2_; (try clear hb); (try clear hb2); (try clear hk); (try clear hi)) | ((with_reducible refine gate_dst (N := 5) rfl ?_); refine box_event ?hg (N := 5) ?hd (cs := #[.int .u64 0, .int .u64 0]) (t := 24) ?hr ?_; (case hd => rfl); (case hg => rfl); (case hr => first | (go_simp; done) | (go_simp; rfl)); intro gb646 hg w14 hbox hb; have n0_ := blkB BK641 hb; have n1_ := blkB BK642 hb; have n2_ := Aside0.mk (below_step (bL HB) hb); have n3_ := Aside0.mk (hbox); have n4_ := Aside0.mk ((by rw [hg]; exact (below_size (bL HB)) : w.heap.size ≤ gb646)); have n5_ := Aside0.mk ((by rw [hg]; exact (below_size (bL HB)) : w.heap.size ≤ gb646)); have n6_ := blkL BK641 hg; have n7_ := blkG BK641 hg; have n8_ := blkL BK642 hg; have n9_ := blkG BK642 hg; clear BK641 BK642 HB; have BK641 := n0_; have BK642 := n1_; have HB := n2_; have BK646 := n3_; have GW646 := n4_; have GE646 := n5_; have NB641_646 := n6_; have NB646_641 := n7_; have NB642_646 := n8_; have NB646_642 := n9_; clear n0_ n1_ n2_ n3_ n4_ n5_ n6_ n7_ n8_ n9_; clear hb hbox hg; have hnb15 := NB646_641.out; have hnc15 := NB641_646.out; have hnb16 := NB646_642.out; have hnc16 := NB642_646.out; have hcz17_0 : w14.cell? ⟨gb646, 0, none⟩ = some (.int .u64 0) := (blk_cell BK646.out 0).trans rfl; have hcz17_1 : w14.cell? ⟨gb646, 1, none⟩ = some (.int .u64 0) := (blk_cell BK646.out 1).trans rfl; have hfz17_0 := blk_frozen BK646.out 0; have hfz17_1 := blk_frozen BK646.out 1; have hnb18 := NB641_642.out; have hnc18 := NB642_641.out; have hcz19_0 : w14.cell? ⟨gb641, 0, none⟩ = some (.int .u64 a0_0) := (blk_cell BK641.out 0).trans rfl; have hcz19_1 : w14.cell? ⟨gb641, 1, none⟩ = some (.int .u64 a0_1) := (blk_cell BK641.out 1).trans rfl; have hfz19_0 := blk_frozen BK641.out 0; have hfz19_1 := blk_frozen BK641.out 1; have hcz20_0 : w14.cell? ⟨gb642, 0, none⟩ = some (.int .u64 a1_0) := (blk_cell BK642.out 0).trans rfl; have hcz20_1 : w14.cell? ⟨gb642, 1, none⟩ = some (.int .u64 a1_1) := (blk_cell BK642.out 1).trans rfl; have hfz20_0 := blk_frozen BK642.out 0; have hfz20_1 := blk_frozen BK642.out 1) | ((with_reducible refine gate_callee (f := 22) rfl ?_); refine goesL_ (some 24) rfl rfl Try.func22 (by kernel_rfl) rfl #[.agg #[.int .u64 a0_0, .int .u64 a0_1], .agg #[.int .u64 a1_0, .int .u64 a1_1]] rfl (by (try simp only [List.map_toArray, List.map_cons, List.map_nil]); first | done | rfl | (simp only [List.length_drop, List.length_take]; rfl) | (go_simp; simp only [u8_w, w64_u8]; done) | (go_simp; simp only [u8_w, w64_u8]; rfl)) ?_; (with_reducible refine (wide_Quo.calls k a0_0 a0_1 a1_0 a1_1 t647 t648 t649 _ A6.out).mono ?_); rintro e w21 ⟨rfl, hb⟩; refine ⟨_, rfl, ?_⟩; have n0_ := Aside0.mk (blk_below (g := gb641) (o := .cells #[.int .u64 a0_0, .int .u64 a0_1] 24 (0, 0)) (bF BK641) hb); have n1_ := Aside0.mk (blk_below (g := gb642) (o := .cells #[.int .u64 a1_0, .int .u64 a1_1] 24 (0, 0)) (bF BK642) hb); have n2_ := Aside0.mk (blk_below (g := gb646) (o := .cells #[.int .u64 t644, .int .u64 t645] 24 (0, 0)) (by (with_reducible repeat (first | refine blk_drewN ?_ _ | refine blk_drew ?_ | refine blk_alloc ?_ _)); refine blk_put (cs := #[.int .u64 t644, .int .u64 0]) ?_ 1 _ rfl; (with_reducible repeat (first | refine blk_drewN ?_ _ | refine blk_drew ?_ | refine blk_alloc ?_ _)); refine blk_put (cs := #[.int .u64 0, .int .u64 0]) ?_ 0 _ rfl; (with_reducible repeat (first | refine blk_drewN ?_ _ | refine blk_drew ?_ | refine blk_alloc ?_ _)); exact BK646.out) hb); have n3_ := Aside0.mk (below_step (bL HB) hb); clear BK641 BK642 BK646 HB; have BK641 := n0_; have BK642 := n1_; have BK646 := n2_; have HB := n3_; clear n0_ n1_ n2_ n3_; (try clear hb); (try clear hb2); (try clear hk); (try clear hi)) | ((with_reducible refine gate_dst (N := 6) rfl ?_); refine box_event ?hg (N := 6) ?hd (cs := #[.int .u64 0, .int .u64 0]) (t := 24) ?hr ?_; (case hd => rfl); (case hg => rfl); (case hr => first | (go_simp; done) | (go_simp; rfl)); intro gb650 hg w22 hbox hb; have n0_ := blkB BK641 hb; have n1_ := blkB BK642 hb; have n2_ := blkB BK646 hb; have n3_ := Aside0.mk (below_step (bL HB) hb); have n4_ := Aside0.mk (hbox); have n5_ := Aside0.mk ((by rw [hg]; exact (below_size (bL HB)) : w.heap.size ≤ gb650)); have n6_ := Aside0.mk ((by rw [hg]; exact (below_size (bL HB)) : w.heap.size ≤ gb650)); have n7_ := blkL BK641 hg; have n8_ := blkG BK641 hg; have n9_ := blkL BK642 hg; have n10_ := blkG BK642 hg; have n11_ := blkL BK646 hg; have n12_ := blkG BK646 hg; clear BK641 BK642 BK646 HB; have BK641 := n0_; have BK642 := n1_; have BK646 := n2_; have HB := n3_; have BK650 := n4_; have GW650 := n5_; have GE650 := n6_; have NB641_650 := n7_; have NB650_641 := n8_; have NB642_650 := n9_; have NB650_642 := n10_; have NB646_650 := n11_; have NB650_646 := n12_; clear n0_ n1_ n2_ n3_ n4_ n5_ n6_ n7_ n8_ n9_ n10_ n11_ n12_; clear hb hbox hg; have hnb23 := NB650_641.out; have hnc23 := NB641_650.out; have hnb24 := NB650_642.out; have hnc24 := NB642_650.out; have hnb25 := NB650_646.out; have hnc25 := NB646_650.out; have hcz26_0 : w22.cell? ⟨gb650, 0, none⟩ = some (.int .u64 0) := (blk_cell BK650.out 0).trans rfl; have hcz26_1 : w22.cell? ⟨gb650, 1, none⟩ = some (.int .u64 0) := (blk_cell BK650.out 1).trans rfl; have hfz26_0 := blk_frozen BK650.out 0; have hfz26_1 := blk_frozen BK650.out 1; have hcz27_0 : w22.cell? ⟨gb641, 0, none⟩ = some (.int .u64 a0_0) := (blk_cell BK641.out 0).trans rfl; have hcz27_1 : w22.cell? ⟨gb641, 1, none⟩ = some (.int .u64 a0_1) := (blk_cell BK641.out 1).trans rfl; have hfz27_0 := blk_frozen BK641.out 0; have hfz27_1 := blk_frozen BK641.out 1; have hcz28_0 : w22.cell? ⟨gb642, 0, none⟩ = some (.int .u64 a1_0) := (blk_cell BK642.out 0).trans rfl; have hcz28_1 : w22.cell? ⟨gb642, 1, none⟩ = some (.int .u64 a1_1) := (blk_cell BK642.out 1).trans rfl; have hfz28_0 := blk_frozen BK642.out 0; have hfz28_1 := blk_frozen BK642.out 1) | ((with_reducible refine gate_callee (f := 23) rfl ?_); refine goesL_ (some 30) rfl rfl Try.func23 (by kernel_rfl) rfl #[.agg #[.int .u64 a0_0, .int .u64 a0_1], .agg #[.int .u64 a1_0, .int .u64 a1_1]] rfl (by (try simp only [List.map_toArray, List.map_cons, List.map_nil]); first | done | rfl | (simp only [List.length_drop, List.length_take]; rfl) | (go_simp; simp only [u8_w, w64_u8]; done) | (go_simp; simp only [u8_w, w64_u8]; rfl)) ?_; (with_reducible refine (wide_Rem.calls k a0_0 a0_1 a1_0 a1_1 t651 t652 t653 _ A7.out).mono ?_); rintro e w29 ⟨rfl, hb⟩; refine ⟨_, rfl, ?_⟩; have n0_ := Aside0.mk (blk_below (g := gb641) (o := .cells #[.int .u64 a0_0, .int .u64 a0_1] 24 (0, 0)) (bF BK641) hb); have n1_ := Aside0.mk (blk_below (g := gb642) (o := .cells #[.int .u64 a1_0, .int .u64 a1_1] 24 (0, 0)) (bF BK642) hb); have n2_ := Aside0.mk (blk_below (g := gb646) (o := .cells #[.int .u64 t644, .int .u64 t645] 24 (0, 0)) (bF BK646) hb); have n3_ := Aside0.mk (blk_below (g := gb650) (o := .cells #[.int .u64 t647, .int .u64 t648] 24 (0, 0)) (by (with_reducible repeat (first | refine blk_drewN ?_ _ | refine blk_drew ?_ | refine blk_alloc ?_ _)); refine blk_put (cs := #[.int .u64 t647, .int .u64 0]) ?_ 1 _ rfl; (with_reducible repeat (first | refine blk_drewN ?_ _ | refine blk_drew ?_ | refine blk_alloc ?_ _)); refine blk_put (cs := #[.int .u64 0, .int .u64 0]) ?_ 0 _ rfl; (with_reducible repeat (first | refine blk_drewN ?_ _ | refine blk_drew ?_ | refine blk_alloc ?_ _)); exact BK650.out) hb); have n4_ := Aside0.mk (below_step (bL HB) hb); clear BK641 BK642 BK646 BK650 HB; have BK641 := n0_; have BK642 := n1_; have BK646 := n2_; have BK650 := n3_; have HB := n4_; clear n0_ n1_ n2_ n3_ n4_; (try clear hb); (try clear hb2); (try clear hk); (try clear hi)) | ((with_reducible refine gate_dst (N := 8) rfl ?_); refine box_event ?hg (N := 8) ?hd (cs := #[.int .u64 0, .int .u64 0]) (t := 24) ?hr ?_; (case hd => rfl); (case hg => rfl); (case hr => first | (go_simp; done) | (go_simp; rfl)); intro gb654 hg w30 hbox hb; have n0_ := blkB BK641 hb; have n1_ := blkB BK642 hb; have n2_ := blkB BK646 hb; have n3_ := blkB BK650 hb; have n4_ := Aside0.mk (below_step (bL HB) hb); have n5_ := Aside0.mk (hbox); have n6_ := Aside0.mk ((by rw [hg]; exact (below_size (bL HB)) : w.heap.size ≤ gb654)); have n7_ := Aside0.mk ((by rw [hg]; exact (below_size (bL HB)) : w.heap.size ≤ gb654)); have n8_ := blkL BK641 hg; have n9_ := blkG BK641 hg; have n10_ := blkL BK642 hg; have n11_ := blkG BK642 hg; have n12_ := blkL BK646 hg; have n13_ := blkG BK646 hg; have n14_ := blkL BK650 hg; have n15_ := blkG BK650 hg; clear BK641 BK642 BK646 BK650 HB; have BK641 := n0_; have BK642 := n1_; have BK646 := n2_; have BK650 := n3_; have HB := n4_; have BK654 := n5_; have GW654 := n6_; have GE654 := n7_; have NB641_654 := n8_; have NB654_641 := n9_; have NB642_654 := n10_; have NB654_642 := n11_; have NB646_654 := n12_; have NB654_646 := n13_; have NB650_654 := n14_; have NB654_650 := n15_; clear n0_ n1_ n2_ n3_ n4_ n5_ n6_ n7_ n8_ n9_ n10_ n11_ n12_ n13_ n14_ n15_; clear hb hbox hg; have hnb31 := NB654_641.out; have hnc31 := NB641_654.out; have hnb32 := NB654_642.out; have hnc32 := NB642_654.out; have hnb33 := NB654_646.out; have hnc33 := NB646_654.out; have hnb34 := NB654_650.out; have hnc34 := NB650_654.out; have hcz35_0 : w30.cell? ⟨gb654, 0, none⟩ = some (.int .u64 0) := (blk_cell BK654.out 0).trans rfl; have hcz35_1 : w30.cell? ⟨gb654, 1, none⟩ = some (.int .u64 0) := (blk_cell BK654.out 1).trans rfl; have hfz35_0 := blk_frozen BK654.out 0; have hfz35_1 := blk_frozen BK654.out 1; have hcz36_0 : w30.cell? ⟨gb642, 0, none⟩ = some (.int .u64 a1_0) := (blk_cell BK642.out 0).trans rfl; have hcz36_1 : w30.cell? ⟨gb642, 1, none⟩ = some (.int .u64 a1_1) := (blk_cell BK642.out 1).trans rfl; have hfz36_0 := blk_frozen BK642.out 0; have hfz36_1 := blk_frozen BK642.out 1; have hcz37_0 : w30.cell? ⟨gb646, 0, none⟩ = some (.int .u64 t644) := (blk_cell BK646.out 0).trans rfl; have hcz37_1 : w30.cell? ⟨gb646, 1, none⟩ = some (.int .u64 t645) := (blk_cell BK646.out 1).trans rfl; have hfz37_0 := blk_frozen BK646.out 0; have hfz37_1 := blk_frozen BK646.out 1))
        go_ret
        exact ⟨by first | rfl | (simp [errW_none, errW_some] <;> rfl) | (simp [*, errW_none, errW_some] <;> rfl), by repeat (first | (with_reducible first | exact HB.out | apply below_alloc | apply pw_below_drewN | apply below_drew1 | refine below_set ?_ GE641.out | refine below_set ?_ GE642.out | refine below_set ?_ GE646.out | refine below_set ?_ GE650.out | refine below_set ?_ GE654.out) | exact HB.out)⟩
      · rw [if_neg c9] at H
        exact absurd H (by simp)
    · rw [if_neg c8] at H
      have c8b0 : (a1_0 == t644 && (a1_1 == t645)) = false := by simpa using c8
      (try (have c8b1 : decide (a1_0 = t644 && (a1_1 == t645)) = false := by simpa using c8))
      (try (have c8b2 : (a1_0 == t644 && (a1_1 == t645)) = false := by simpa using c8))
      (try (have c8b3 : ¬ (a1_0 = t644 && (a1_1 == t645)) := by simpa using c8))
      clear c8
      by_cases c38 : t653 = 0
      · rw [if_pos c38] at H
        have c38b0 : (t653 == 0) = true := beq_iff_eq.mpr c38
        have c38b1 : (t653 != 0) = false := bne_eq_false_iff_eq.mpr c38
        clear c38
        by_cases c39 : t649 = 0
        · rw [if_pos c39] at H
          have c39b0 : (t649 == 0) = true := beq_iff_eq.mpr c39
          have c39b1 : (t649 != 0) = false := bne_eq_false_iff_eq.mpr c39
          clear c39
          replace H := Option.bind_eq_some_iff.mp H
          obtain ⟨⟨t658, t659, t660⟩, A400, H⟩ := H
          replace H : ((wide_Add.f t658 t659 t651 t652).bind fun bt662 => (if t660 = 0 then (if bt662.2.2 = 0 then (if (!(bt662.1 == a0_0) || (!(bt662.2.1 == a0_1))) = true then (lorgnettelaw01_WideParts.j0 k true a1_0 a1_1 t644 t645 t651 t652) else (if (!(t651 == t644) || (!(t652 == t645))) = true then ((wide_Cmp.f t651 t652 t644 t645).bind fun t666 => ((wide_Cmp.f a0_0 a0_1 t644 t645).bind fun t667 => (lorgnettelaw01_WideParts.j0 k ((decide (t666 < 0)) != (decide (t667 < 0))) a1_0 a1_1 t644 t645 t651 t652))) else (lorgnettelaw01_WideParts.j0 k false a1_0 a1_1 t644 t645 t651 t652))) else (lorgnettelaw01_WideParts.j0 k true a1_0 a1_1 t644 t645 t651 t652)) else (lorgnettelaw01_WideParts.j0 k true a1_0 a1_1 t644 t645 t651 t652))) = some r := H
          have A40 := Aside0.mk A400
          clear A400
          replace H := Option.bind_eq_some_iff.mp H
          obtain ⟨⟨t662, t663, t664⟩, A410, H⟩ := H
          replace H : (if t660 = 0 then (if t664 = 0 then (if (!(t662 == a0_0) || (!(t663 == a0_1))) = true then (lorgnettelaw01_WideParts.j0 k true a1_0 a1_1 t644 t645 t651 t652) else (if (!(t651 == t644) || (!(t652 == t645))) = true then ((wide_Cmp.f t651 t652 t644 t645).bind fun t666 => ((wide_Cmp.f a0_0 a0_1 t644 t645).bind fun t667 => (lorgnettelaw01_WideParts.j0 k ((decide (t666 < 0)) != (decide (t667 < 0))) a1_0 a1_1 t644 t645 t651 t652))) else (lorgnettelaw01_WideParts.j0 k false a1_0 a1_1 t644 t645 t651 t652))) else (lorgnettelaw01_WideParts.j0 k true a1_0 a1_1 t644 t645 t651 t652)) else (lorgnettelaw01_WideParts.j0 k true a1_0 a1_1 t644 t645 t651 t652)) = some r := H
          have A41 := Aside0.mk A410
          clear A410
          have HC42 := Aside0.mk H
          clear H
          go_enter Try.func7, Try.ntmps7
          go_upto_region 14 with (first | ((with_reducible refine gate_dst (N := 2) rfl ?_); refine box_event ?hg (N := 2) ?hd (cs := #[.int .u64 a0_0, .int .u64 a0_1]) (t := 24) ?hr ?_; (case hd => rfl); (case hg => rfl); (case hr => first | (go_simp; done) | (go_simp; rfl)); intro gb641 hg w43 hbox hb; have n0_ := Aside0.mk (below_step (bL HB) hb); have n1_ := Aside0.mk (hbox); have n2_ := Aside0.mk ((by rw [hg]; exact (below_size (bL HB)) : w.heap.size ≤ gb641)); have n3_ := Aside0.mk ((by rw [hg]; exact (below_size (bL HB)) : w.heap.size ≤ gb641)); clear HB; have HB := n0_; have BK641 := n1_; have GW641 := n2_; have GE641 := n3_; clear n0_ n1_ n2_ n3_; clear hb hbox hg) | ((with_reducible refine gate_dst (N := 3) rfl ?_); refine box_event ?hg (N := 3) ?hd (cs := #[.int .u64 a1_0, .int .u64 a1_1]) (t := 24) ?hr ?_; (case hd => rfl); (case hg => rfl); (case hr => first | (go_simp; done) | (go_simp; rfl)); intro gb642 hg w44 hbox hb; have n0_ := blkB BK641 hb; have n1_ := Aside0.mk (below_step (bL HB) hb); have n2_ := Aside0.mk (hbox); have n3_ := Aside0.mk ((by rw [hg]; exact (below_size (bL HB)) : w.heap.size ≤ gb642)); have n4_ := Aside0.mk ((by rw [hg]; exact (below_size (bL HB)) : w.heap.size ≤ gb642)); have n5_ := blkL BK641 hg; have n6_ := blkG BK641 hg; clear BK641 HB; have BK641 := n0_; have HB := n1_; have BK642 := n2_; have GW642 := n3_; have GE642 := n4_; have NB641_642 := n5_; have NB642_641 := n6_; clear n0_ n1_ n2_ n3_ n4_ n5_ n6_; clear hb hbox hg) | ((with_reducible refine gate_callee (f := 8) rfl ?_); refine goesL_ (some 18) rfl rfl Try.func8 (by kernel_rfl) rfl #[] rfl (by (try simp only [List.map_toArray, List.map_cons, List.map_nil]); first | done | rfl | (simp only [List.length_drop, List.length_take]; rfl) | (go_simp; simp only [u8_w, w64_u8]; done) | (go_simp; simp only [u8_w, w64_u8]; rfl)) ?_; (with_reducible refine (lorgnettelaw01_awake.calls k  true _ A3.out).mono ?_); rintro e w45 ⟨rfl, hb⟩; refine ⟨_, rfl, ?_⟩; have n0_ := blkB BK641 hb; have n1_ := blkB BK642 hb; have n2_ := Aside0.mk (below_step (bL HB) hb); clear BK641 BK642 HB; have BK641 := n0_; have BK642 := n1_; have HB := n2_; clear n0_ n1_ n2_; (try clear hb); (try clear hb2); (try clear hk); (try clear hi)) | ((with_reducible refine gate_callee (f := 12) rfl ?_); refine goesL_ (some 20) rfl rfl Try.func12 (by kernel_rfl) rfl #[.int .i64 0] rfl (by (try simp only [List.map_toArray, List.map_cons, List.map_nil]); first | done | rfl | (simp only [List.length_drop, List.length_take]; rfl) | (go_simp; simp only [u8_w, w64_u8]; done) | (go_simp; simp only [u8_w, w64_u8]; rfl)) ?_; (with_reducible refine (wide_Of.calls 0 t644 t645 _ A5.out).mono ?_); rintro e w46 ⟨rfl, hb⟩; refine ⟨_, rfl, ?_⟩; have n0_ := blkB BK641 hb; have n1_ := blkB BK642 hb; have n2_ := Aside0.mk (below_step (bL HB) hb); clear BK641 BK642 HB; have BK641 := n0_; have BK642 := n1_; have HB := n2_; clear n0_ n1_ n2_; (try clear hb); (try clear hb2); (try clear hk); (try clear hi)) | ((with_reducible refine gate_dst (N := 5) rfl ?_); refine box_event ?hg (N := 5) ?hd (cs := #[.int .u64 0, .int .u64 0]) (t := 24) ?hr ?_; (case hd => rfl); (case hg => rfl); (case hr => first | (go_simp; done) | (go_simp; rfl)); intro gb646 hg w47 hbox hb; have n0_ := blkB BK641 hb; have n1_ := blkB BK642 hb; have n2_ := Aside0.mk (below_step (bL HB) hb); have n3_ := Aside0.mk (hbox); have n4_ := Aside0.mk ((by rw [hg]; exact (below_size (bL HB)) : w.heap.size ≤ gb646)); have n5_ := Aside0.mk ((by rw [hg]; exact (below_size (bL HB)) : w.heap.size ≤ gb646)); have n6_ := blkL BK641 hg; have n7_ := blkG BK641 hg; have n8_ := blkL BK642 hg; have n9_ := blkG BK642 hg; clear BK641 BK642 HB; have BK641 := n0_; have BK642 := n1_; have HB := n2_; have BK646 := n3_; have GW646 := n4_; have GE646 := n5_; have NB641_646 := n6_; have NB646_641 := n7_; have NB642_646 := n8_; have NB646_642 := n9_; clear n0_ n1_ n2_ n3_ n4_ n5_ n6_ n7_ n8_ n9_; clear hb hbox hg; have hnb48 := NB646_641.out; have hnc48 := NB641_646.out; have hnb49 := NB646_642.out; have hnc49 := NB642_646.out; have hcz50_0 : w47.cell? ⟨gb646, 0, none⟩ = some (.int .u64 0) := (blk_cell BK646.out 0).trans rfl; have hcz50_1 : w47.cell? ⟨gb646, 1, none⟩ = some (.int .u64 0) := (blk_cell BK646.out 1).trans rfl; have hfz50_0 := blk_frozen BK646.out 0; have hfz50_1 := blk_frozen BK646.out 1; have hnb51 := NB641_642.out; have hnc51 := NB642_641.out; have hcz52_0 : w47.cell? ⟨gb641, 0, none⟩ = some (.int .u64 a0_0) := (blk_cell BK641.out 0).trans rfl; have hcz52_1 : w47.cell? ⟨gb641, 1, none⟩ = some (.int .u64 a0_1) := (blk_cell BK641.out 1).trans rfl; have hfz52_0 := blk_frozen BK641.out 0; have hfz52_1 := blk_frozen BK641.out 1; have hcz53_0 : w47.cell? ⟨gb642, 0, none⟩ = some (.int .u64 a1_0) := (blk_cell BK642.out 0).trans rfl; have hcz53_1 : w47.cell? ⟨gb642, 1, none⟩ = some (.int .u64 a1_1) := (blk_cell BK642.out 1).trans rfl; have hfz53_0 := blk_frozen BK642.out 0; have hfz53_1 := blk_frozen BK642.out 1) | ((with_reducible refine gate_callee (f := 22) rfl ?_); refine goesL_ (some 24) rfl rfl Try.func22 (by kernel_rfl) rfl #[.agg #[.int .u64 a0_0, .int .u64 a0_1], .agg #[.int .u64 a1_0, .int .u64 a1_1]] rfl (by (try simp only [List.map_toArray, List.map_cons, List.map_nil]); first | done | rfl | (simp only [List.length_drop, List.length_take]; rfl) | (go_simp; simp only [u8_w, w64_u8]; done) | (go_simp; simp only [u8_w, w64_u8]; rfl)) ?_; (with_reducible refine (wide_Quo.calls k a0_0 a0_1 a1_0 a1_1 t647 t648 t649 _ A6.out).mono ?_); rintro e w54 ⟨rfl, hb⟩; refine ⟨_, rfl, ?_⟩; have n0_ := Aside0.mk (blk_below (g := gb641) (o := .cells #[.int .u64 a0_0, .int .u64 a0_1] 24 (0, 0)) (bF BK641) hb); have n1_ := Aside0.mk (blk_below (g := gb642) (o := .cells #[.int .u64 a1_0, .int .u64 a1_1] 24 (0, 0)) (bF BK642) hb); have n2_ := Aside0.mk (blk_below (g := gb646) (o := .cells #[.int .u64 t644, .int .u64 t645] 24 (0, 0)) (by (with_reducible repeat (first | refine blk_drewN ?_ _ | refine blk_drew ?_ | refine blk_alloc ?_ _)); refine blk_put (cs := #[.int .u64 t644, .int .u64 0]) ?_ 1 _ rfl; (with_reducible repeat (first | refine blk_drewN ?_ _ | refine blk_drew ?_ | refine blk_alloc ?_ _)); refine blk_put (cs := #[.int .u64 0, .int .u64 0]) ?_ 0 _ rfl; (with_reducible repeat (first | refine blk_drewN ?_ _ | refine blk_drew ?_ | refine blk_alloc ?_ _)); exact BK646.out) hb); have n3_ := Aside0.mk (below_step (bL HB) hb); clear BK641 BK642 BK646 HB; have BK641 := n0_; have BK642 := n1_; have BK646 := n2_; have HB := n3_; clear n0_ n1_ n2_ n3_; (try clear hb); (try clear hb2); (try clear hk); (try clear hi)) | ((with_reducible refine gate_dst (N := 6) rfl ?_); refine box_event ?hg (N := 6) ?hd (cs := #[.int .u64 0, .int .u64 0]) (t := 24) ?hr ?_; (case hd => rfl); (case hg => rfl); (case hr => first | (go_simp; done) | (go_simp; rfl)); intro gb650 hg w55 hbox hb; have n0_ := blkB BK641 hb; have n1_ := blkB BK642 hb; have n2_ := blkB BK646 hb; have n3_ := Aside0.mk (below_step (bL HB) hb); have n4_ := Aside0.mk (hbox); have n5_ := Aside0.mk ((by rw [hg]; exact (below_size (bL HB)) : w.heap.size ≤ gb650)); have n6_ := Aside0.mk ((by rw [hg]; exact (below_size (bL HB)) : w.heap.size ≤ gb650)); have n7_ := blkL BK641 hg; have n8_ := blkG BK641 hg; have n9_ := blkL BK642 hg; have n10_ := blkG BK642 hg; have n11_ := blkL BK646 hg; have n12_ := blkG BK646 hg; clear BK641 BK642 BK646 HB; have BK641 := n0_; have BK642 := n1_; have BK646 := n2_; have HB := n3_; have BK650 := n4_; have GW650 := n5_; have GE650 := n6_; have NB641_650 := n7_; have NB650_641 := n8_; have NB642_650 := n9_; have NB650_642 := n10_; have NB646_650 := n11_; have NB650_646 := n12_; clear n0_ n1_ n2_ n3_ n4_ n5_ n6_ n7_ n8_ n9_ n10_ n11_ n12_; clear hb hbox hg; have hnb56 := NB650_641.out; have hnc56 := NB641_650.out; have hnb57 := NB650_642.out; have hnc57 := NB642_650.out; have hnb58 := NB650_646.out; have hnc58 := NB646_650.out; have hcz59_0 : w55.cell? ⟨gb650, 0, none⟩ = some (.int .u64 0) := (blk_cell BK650.out 0).trans rfl; have hcz59_1 : w55.cell? ⟨gb650, 1, none⟩ = some (.int .u64 0) := (blk_cell BK650.out 1).trans rfl; have hfz59_0 := blk_frozen BK650.out 0; have hfz59_1 := blk_frozen BK650.out 1; have hcz60_0 : w55.cell? ⟨gb641, 0, none⟩ = some (.int .u64 a0_0) := (blk_cell BK641.out 0).trans rfl; have hcz60_1 : w55.cell? ⟨gb641, 1, none⟩ = some (.int .u64 a0_1) := (blk_cell BK641.out 1).trans rfl; have hfz60_0 := blk_frozen BK641.out 0; have hfz60_1 := blk_frozen BK641.out 1; have hcz61_0 : w55.cell? ⟨gb642, 0, none⟩ = some (.int .u64 a1_0) := (blk_cell BK642.out 0).trans rfl; have hcz61_1 : w55.cell? ⟨gb642, 1, none⟩ = some (.int .u64 a1_1) := (blk_cell BK642.out 1).trans rfl; have hfz61_0 := blk_frozen BK642.out 0; have hfz61_1 := blk_frozen BK642.out 1) | ((with_reducible refine gate_callee (f := 23) rfl ?_); refine goesL_ (some 30) rfl rfl Try.func23 (by kernel_rfl) rfl #[.agg #[.int .u64 a0_0, .int .u64 a0_1], .agg #[.int .u64 a1_0, .int .u64 a1_1]] rfl (by (try simp only [List.map_toArray, List.map_cons, List.map_nil]); first | done | rfl | (simp only [List.length_drop, List.length_take]; rfl) | (go_simp; simp only [u8_w, w64_u8]; done) | (go_simp; simp only [u8_w, w64_u8]; rfl)) ?_; (with_reducible refine (wide_Rem.calls k a0_0 a0_1 a1_0 a1_1 t651 t652 t653 _ A7.out).mono ?_); rintro e w62 ⟨rfl, hb⟩; refine ⟨_, rfl, ?_⟩; have n0_ := Aside0.mk (blk_below (g := gb641) (o := .cells #[.int .u64 a0_0, .int .u64 a0_1] 24 (0, 0)) (bF BK641) hb); have n1_ := Aside0.mk (blk_below (g := gb642) (o := .cells #[.int .u64 a1_0, .int .u64 a1_1] 24 (0, 0)) (bF BK642) hb); have n2_ := Aside0.mk (blk_below (g := gb646) (o := .cells #[.int .u64 t644, .int .u64 t645] 24 (0, 0)) (bF BK646) hb); have n3_ := Aside0.mk (blk_below (g := gb650) (o := .cells #[.int .u64 t647, .int .u64 t648] 24 (0, 0)) (by (with_reducible repeat (first | refine blk_drewN ?_ _ | refine blk_drew ?_ | refine blk_alloc ?_ _)); refine blk_put (cs := #[.int .u64 t647, .int .u64 0]) ?_ 1 _ rfl; (with_reducible repeat (first | refine blk_drewN ?_ _ | refine blk_drew ?_ | refine blk_alloc ?_ _)); refine blk_put (cs := #[.int .u64 0, .int .u64 0]) ?_ 0 _ rfl; (with_reducible repeat (first | refine blk_drewN ?_ _ | refine blk_drew ?_ | refine blk_alloc ?_ _)); exact BK650.out) hb); have n4_ := Aside0.mk (below_step (bL HB) hb); clear BK641 BK642 BK646 BK650 HB; have BK641 := n0_; have BK642 := n1_; have BK646 := n2_; have BK650 := n3_; have HB := n4_; clear n0_ n1_ n2_ n3_ n4_; (try clear hb); (try clear hb2); (try clear hk); (try clear hi)) | ((with_reducible refine gate_dst (N := 8) rfl ?_); refine box_event ?hg (N := 8) ?hd (cs := #[.int .u64 0, .int .u64 0]) (t := 24) ?hr ?_; (case hd => rfl); (case hg => rfl); (case hr => first | (go_simp; done) | (go_simp; rfl)); intro gb654 hg w63 hbox hb; have n0_ := blkB BK641 hb; have n1_ := blkB BK642 hb; have n2_ := blkB BK646 hb; have n3_ := blkB BK650 hb; have n4_ := Aside0.mk (below_step (bL HB) hb); have n5_ := Aside0.mk (hbox); have n6_ := Aside0.mk ((by rw [hg]; exact (below_size (bL HB)) : w.heap.size ≤ gb654)); have n7_ := Aside0.mk ((by rw [hg]; exact (below_size (bL HB)) : w.heap.size ≤ gb654)); have n8_ := blkL BK641 hg; have n9_ := blkG BK641 hg; have n10_ := blkL BK642 hg; have n11_ := blkG BK642 hg; have n12_ := blkL BK646 hg; have n13_ := blkG BK646 hg; have n14_ := blkL BK650 hg; have n15_ := blkG BK650 hg; clear BK641 BK642 BK646 BK650 HB; have BK641 := n0_; have BK642 := n1_; have BK646 := n2_; have BK650 := n3_; have HB := n4_; have BK654 := n5_; have GW654 := n6_; have GE654 := n7_; have NB641_654 := n8_; have NB654_641 := n9_; have NB642_654 := n10_; have NB654_642 := n11_; have NB646_654 := n12_; have NB654_646 := n13_; have NB650_654 := n14_; have NB654_650 := n15_; clear n0_ n1_ n2_ n3_ n4_ n5_ n6_ n7_ n8_ n9_ n10_ n11_ n12_ n13_ n14_ n15_; clear hb hbox hg; have hnb64 := NB654_641.out; have hnc64 := NB641_654.out; have hnb65 := NB654_642.out; have hnc65 := NB642_654.out; have hnb66 := NB654_646.out; have hnc66 := NB646_654.out; have hnb67 := NB654_650.out; have hnc67 := NB650_654.out; have hcz68_0 : w63.cell? ⟨gb654, 0, none⟩ = some (.int .u64 0) := (blk_cell BK654.out 0).trans rfl; have hcz68_1 : w63.cell? ⟨gb654, 1, none⟩ = some (.int .u64 0) := (blk_cell BK654.out 1).trans rfl; have hfz68_0 := blk_frozen BK654.out 0; have hfz68_1 := blk_frozen BK654.out 1; have hcz69_0 : w63.cell? ⟨gb642, 0, none⟩ = some (.int .u64 a1_0) := (blk_cell BK642.out 0).trans rfl; have hcz69_1 : w63.cell? ⟨gb642, 1, none⟩ = some (.int .u64 a1_1) := (blk_cell BK642.out 1).trans rfl; have hfz69_0 := blk_frozen BK642.out 0; have hfz69_1 := blk_frozen BK642.out 1; have hcz70_0 : w63.cell? ⟨gb646, 0, none⟩ = some (.int .u64 t644) := (blk_cell BK646.out 0).trans rfl; have hcz70_1 : w63.cell? ⟨gb646, 1, none⟩ = some (.int .u64 t645) := (blk_cell BK646.out 1).trans rfl; have hfz70_0 := blk_frozen BK646.out 0; have hfz70_1 := blk_frozen BK646.out 1; have hcz71_0 : w63.cell? ⟨gb650, 0, none⟩ = some (.int .u64 t647) := (blk_cell BK650.out 0).trans rfl; have hcz71_1 : w63.cell? ⟨gb650, 1, none⟩ = some (.int .u64 t648) := (blk_cell BK650.out 1).trans rfl; have hfz71_0 := blk_frozen BK650.out 0; have hfz71_1 := blk_frozen BK650.out 1) | ((with_reducible refine gate_callee (f := 19) rfl ?_); refine goesL_ (some 63) rfl rfl Try.func19 (by kernel_rfl) rfl #[.agg #[.int .u64 t647, .int .u64 t648], .agg #[.int .u64 a1_0, .int .u64 a1_1]] rfl (by (try simp only [List.map_toArray, List.map_cons, List.map_nil]); first | done | rfl | (simp only [List.length_drop, List.length_take]; rfl) | (go_simp; simp only [u8_w, w64_u8]; done) | (go_simp; simp only [u8_w, w64_u8]; rfl)) ?_; (with_reducible refine (wide_Mul.calls k t647 t648 a1_0 a1_1 t658 t659 t660 _ A40.out).mono ?_); rintro e w72 ⟨rfl, hb⟩; refine ⟨_, rfl, ?_⟩; have n0_ := Aside0.mk (blk_below (g := gb641) (o := .cells #[.int .u64 a0_0, .int .u64 a0_1] 24 (0, 0)) (bF BK641) hb); have n1_ := Aside0.mk (blk_below (g := gb642) (o := .cells #[.int .u64 a1_0, .int .u64 a1_1] 24 (0, 0)) (bF BK642) hb); have n2_ := Aside0.mk (blk_below (g := gb646) (o := .cells #[.int .u64 t644, .int .u64 t645] 24 (0, 0)) (bF BK646) hb); have n3_ := Aside0.mk (blk_below (g := gb650) (o := .cells #[.int .u64 t647, .int .u64 t648] 24 (0, 0)) (bF BK650) hb); have n4_ := Aside0.mk (blk_below (g := gb654) (o := .cells #[.int .u64 t651, .int .u64 t652] 24 (0, 0)) (by (with_reducible repeat (first | refine blk_drewN ?_ _ | refine blk_drew ?_ | refine blk_alloc ?_ _)); refine blk_put (cs := #[.int .u64 t651, .int .u64 0]) ?_ 1 _ rfl; (with_reducible repeat (first | refine blk_drewN ?_ _ | refine blk_drew ?_ | refine blk_alloc ?_ _)); refine blk_put (cs := #[.int .u64 0, .int .u64 0]) ?_ 0 _ rfl; (with_reducible repeat (first | refine blk_drewN ?_ _ | refine blk_drew ?_ | refine blk_alloc ?_ _)); exact BK654.out) hb); have n5_ := Aside0.mk (below_step (bL HB) hb); clear BK641 BK642 BK646 BK650 BK654 HB; have BK641 := n0_; have BK642 := n1_; have BK646 := n2_; have BK650 := n3_; have BK654 := n4_; have HB := n5_; clear n0_ n1_ n2_ n3_ n4_ n5_; (try clear hb); (try clear hb2); (try clear hk); (try clear hi)) | ((with_reducible refine gate_dst (N := 10) rfl ?_); refine box_event ?hg (N := 10) ?hd (cs := #[.int .u64 0, .int .u64 0]) (t := 24) ?hr ?_; (case hd => rfl); (case hg => rfl); (case hr => first | (go_simp; done) | (go_simp; rfl)); intro gb661 hg w73 hbox hb; have n0_ := blkB BK641 hb; have n1_ := blkB BK642 hb; have n2_ := blkB BK646 hb; have n3_ := blkB BK650 hb; have n4_ := blkB BK654 hb; have n5_ := Aside0.mk (below_step (bL HB) hb); have n6_ := Aside0.mk (hbox); have n7_ := Aside0.mk ((by rw [hg]; exact (below_size (bL HB)) : w.heap.size ≤ gb661)); have n8_ := Aside0.mk ((by rw [hg]; exact (below_size (bL HB)) : w.heap.size ≤ gb661)); have n9_ := blkL BK641 hg; have n10_ := blkG BK641 hg; have n11_ := blkL BK642 hg; have n12_ := blkG BK642 hg; have n13_ := blkL BK646 hg; have n14_ := blkG BK646 hg; have n15_ := blkL BK650 hg; have n16_ := blkG BK650 hg; have n17_ := blkL BK654 hg; have n18_ := blkG BK654 hg; clear BK641 BK642 BK646 BK650 BK654 HB; have BK641 := n0_; have BK642 := n1_; have BK646 := n2_; have BK650 := n3_; have BK654 := n4_; have HB := n5_; have BK661 := n6_; have GW661 := n7_; have GE661 := n8_; have NB641_661 := n9_; have NB661_641 := n10_; have NB642_661 := n11_; have NB661_642 := n12_; have NB646_661 := n13_; have NB661_646 := n14_; have NB650_661 := n15_; have NB661_650 := n16_; have NB654_661 := n17_; have NB661_654 := n18_; clear n0_ n1_ n2_ n3_ n4_ n5_ n6_ n7_ n8_ n9_ n10_ n11_ n12_ n13_ n14_ n15_ n16_ n17_ n18_; clear hb hbox hg; have hnb74 := NB661_641.out; have hnc74 := NB641_661.out; have hnb75 := NB661_642.out; have hnc75 := NB642_661.out; have hnb76 := NB661_646.out; have hnc76 := NB646_661.out; have hnb77 := NB661_650.out; have hnc77 := NB650_661.out; have hnb78 := NB661_654.out; have hnc78 := NB654_661.out; have hcz79_0 : w73.cell? ⟨gb661, 0, none⟩ = some (.int .u64 0) := (blk_cell BK661.out 0).trans rfl; have hcz79_1 : w73.cell? ⟨gb661, 1, none⟩ = some (.int .u64 0) := (blk_cell BK661.out 1).trans rfl; have hfz79_0 := blk_frozen BK661.out 0; have hfz79_1 := blk_frozen BK661.out 1; have hcz80_0 : w73.cell? ⟨gb654, 0, none⟩ = some (.int .u64 t651) := (blk_cell BK654.out 0).trans rfl; have hcz80_1 : w73.cell? ⟨gb654, 1, none⟩ = some (.int .u64 t652) := (blk_cell BK654.out 1).trans rfl; have hfz80_0 := blk_frozen BK654.out 0; have hfz80_1 := blk_frozen BK654.out 1) | ((with_reducible refine gate_callee (f := 18) rfl ?_); refine goesL_ (some 69) rfl rfl Try.func18 (by kernel_rfl) rfl #[.agg #[.int .u64 t658, .int .u64 t659], .agg #[.int .u64 t651, .int .u64 t652]] rfl (by (try simp only [List.map_toArray, List.map_cons, List.map_nil]); first | done | rfl | (simp only [List.length_drop, List.length_take]; rfl) | (go_simp; simp only [u8_w, w64_u8]; done) | (go_simp; simp only [u8_w, w64_u8]; rfl)) ?_; (with_reducible refine (wide_Add.calls t658 t659 t651 t652 t662 t663 t664 _ A41.out).mono ?_); rintro e w81 ⟨rfl, hb⟩; refine ⟨_, rfl, ?_⟩; have n0_ := Aside0.mk (blk_below (g := gb641) (o := .cells #[.int .u64 a0_0, .int .u64 a0_1] 24 (0, 0)) (bF BK641) hb); have n1_ := Aside0.mk (blk_below (g := gb642) (o := .cells #[.int .u64 a1_0, .int .u64 a1_1] 24 (0, 0)) (bF BK642) hb); have n2_ := Aside0.mk (blk_below (g := gb646) (o := .cells #[.int .u64 t644, .int .u64 t645] 24 (0, 0)) (bF BK646) hb); have n3_ := Aside0.mk (blk_below (g := gb650) (o := .cells #[.int .u64 t647, .int .u64 t648] 24 (0, 0)) (bF BK650) hb); have n4_ := Aside0.mk (blk_below (g := gb654) (o := .cells #[.int .u64 t651, .int .u64 t652] 24 (0, 0)) (bF BK654) hb); have n5_ := Aside0.mk (blk_below (g := gb661) (o := .cells #[.int .u64 t658, .int .u64 t659] 24 (0, 0)) (by (with_reducible repeat (first | refine blk_drewN ?_ _ | refine blk_drew ?_ | refine blk_alloc ?_ _)); refine blk_put (cs := #[.int .u64 t658, .int .u64 0]) ?_ 1 _ rfl; (with_reducible repeat (first | refine blk_drewN ?_ _ | refine blk_drew ?_ | refine blk_alloc ?_ _)); refine blk_put (cs := #[.int .u64 0, .int .u64 0]) ?_ 0 _ rfl; (with_reducible repeat (first | refine blk_drewN ?_ _ | refine blk_drew ?_ | refine blk_alloc ?_ _)); exact BK661.out) hb); have n6_ := Aside0.mk (below_step (bL HB) hb); clear BK641 BK642 BK646 BK650 BK654 BK661 HB; have BK641 := n0_; have BK642 := n1_; have BK646 := n2_; have BK650 := n3_; have BK654 := n4_; have BK661 := n5_; have HB := n6_; clear n0_ n1_ n2_ n3_ n4_ n5_ n6_; (try clear hb); (try clear hb2); (try clear hk); (try clear hi)) | ((with_reducible refine gate_dst (N := 12) rfl ?_); refine box_event ?hg (N := 12) ?hd (cs := #[.int .u64 0, .int .u64 0]) (t := 24) ?hr ?_; (case hd => rfl); (case hg => rfl); (case hr => first | (go_simp; done) | (go_simp; rfl)); intro gb665 hg w82 hbox hb; have n0_ := blkB BK641 hb; have n1_ := blkB BK642 hb; have n2_ := blkB BK646 hb; have n3_ := blkB BK650 hb; have n4_ := blkB BK654 hb; have n5_ := blkB BK661 hb; have n6_ := Aside0.mk (below_step (bL HB) hb); have n7_ := Aside0.mk (hbox); have n8_ := Aside0.mk ((by rw [hg]; exact (below_size (bL HB)) : w.heap.size ≤ gb665)); have n9_ := Aside0.mk ((by rw [hg]; exact (below_size (bL HB)) : w.heap.size ≤ gb665)); have n10_ := blkL BK641 hg; have n11_ := blkG BK641 hg; have n12_ := blkL BK642 hg; have n13_ := blkG BK642 hg; have n14_ := blkL BK646 hg; have n15_ := blkG BK646 hg; have n16_ := blkL BK650 hg; have n17_ := blkG BK650 hg; have n18_ := blkL BK654 hg; have n19_ := blkG BK654 hg; have n20_ := blkL BK661 hg; have n21_ := blkG BK661 hg; clear BK641 BK642 BK646 BK650 BK654 BK661 HB; have BK641 := n0_; have BK642 := n1_; have BK646 := n2_; have BK650 := n3_; have BK654 := n4_; have BK661 := n5_; have HB := n6_; have BK665 := n7_; have GW665 := n8_; have GE665 := n9_; have NB641_665 := n10_; have NB665_641 := n11_; have NB642_665 := n12_; have NB665_642 := n13_; have NB646_665 := n14_; have NB665_646 := n15_; have NB650_665 := n16_; have NB665_650 := n17_; have NB654_665 := n18_; have NB665_654 := n19_; have NB661_665 := n20_; have NB665_661 := n21_; clear n0_ n1_ n2_ n3_ n4_ n5_ n6_ n7_ n8_ n9_ n10_ n11_ n12_ n13_ n14_ n15_ n16_ n17_ n18_ n19_ n20_ n21_; clear hb hbox hg; have hnb83 := NB665_641.out; have hnc83 := NB641_665.out; have hnb84 := NB665_642.out; have hnc84 := NB642_665.out; have hnb85 := NB665_646.out; have hnc85 := NB646_665.out; have hnb86 := NB665_650.out; have hnc86 := NB650_665.out; have hnb87 := NB665_654.out; have hnc87 := NB654_665.out; have hnb88 := NB665_661.out; have hnc88 := NB661_665.out; have hcz89_0 : w82.cell? ⟨gb665, 0, none⟩ = some (.int .u64 0) := (blk_cell BK665.out 0).trans rfl; have hcz89_1 : w82.cell? ⟨gb665, 1, none⟩ = some (.int .u64 0) := (blk_cell BK665.out 1).trans rfl; have hfz89_0 := blk_frozen BK665.out 0; have hfz89_1 := blk_frozen BK665.out 1))
          (try simp only [Act.put, List.setIfInBounds_toArray, List.set_cons_zero, List.set_cons_succ])
          go_cut [98] (fun v98 wc => ∃ (kq : Nat) (x98_41 : Bool), v98 = .bool x98_41 ∧ Aside0 (lorgnettelaw01_WideParts.j0 kq x98_41 a1_0 a1_1 t644 t645 t651 t652 = some r) ∧ Aside0 (kq ≤ k) ∧ Aside0 (wc.heap[gb641]? = some (.cells #[.int .u64 a0_0, .int .u64 a0_1] 24 (0, 0))) ∧ Aside0 (wc.heap[gb642]? = some (.cells #[.int .u64 a1_0, .int .u64 a1_1] 24 (0, 0))) ∧ Aside0 (wc.heap[gb646]? = some (.cells #[.int .u64 t644, .int .u64 t645] 24 (0, 0))) ∧ Aside0 (wc.heap[gb650]? = some (.cells #[.int .u64 t647, .int .u64 t648] 24 (0, 0))) ∧ Aside0 (wc.heap[gb654]? = some (.cells #[.int .u64 t651, .int .u64 t652] 24 (0, 0))) ∧ Aside0 (wc.heap[gb661]? = some (.cells #[.int .u64 t658, .int .u64 t659] 24 (0, 0))) ∧ Aside0 (wc.heap[gb665]? = some (.cells #[.int .u64 t662, .int .u64 t663] 24 (0, 0))) ∧ Aside0 (Below w.heap.size w wc))
          case first =>
            have H := HC42.out
            clear HC42
            by_cases c90 : t660 = 0
            · rw [if_pos c90] at H
              have c90b0 : (t660 == 0) = true := beq_iff_eq.mpr c90
              have c90b1 : (t660 != 0) = false := bne_eq_false_iff_eq.mpr c90
              clear c90
              (first | rw [c90b0] | (simp only [i64_w, i32_w]; rw [c90b0]) | skip)
              by_cases c91 : t664 = 0
              · rw [if_pos c91] at H
                have c91b0 : (t664 == 0) = true := beq_iff_eq.mpr c91
                have c91b1 : (t664 != 0) = false := bne_eq_false_iff_eq.mpr c91
                clear c91
                by_cases c92 : (!(t662 == a0_0) || (!(t663 == a0_1))) = true
                · rw [if_pos c92] at H
                  have c92b0 : (!(t662 == a0_0) || (!(t663 == a0_1))) = true := c92
                  clear c92
                  have H' := Aside0.mk H
                  clear H
                  try go_wp2
                  have n0_ : Aside0 (((w82.setCell ⟨gb665, 0, none⟩ (.int .u64 t662)).setCell ⟨gb665, 1, none⟩ (.int .u64 t663)).heap[gb641]? = some (.cells #[.int .u64 a0_0, .int .u64 a0_1] 24 (0, 0))) := ⟨by (with_reducible repeat (first | refine blk_drewN ?_ _ | refine blk_drew ?_ | refine blk_alloc ?_ _)); refine blk_far ?_ NB641_665.out _; (with_reducible repeat (first | refine blk_drewN ?_ _ | refine blk_drew ?_ | refine blk_alloc ?_ _)); refine blk_far ?_ NB641_665.out _; (with_reducible repeat (first | refine blk_drewN ?_ _ | refine blk_drew ?_ | refine blk_alloc ?_ _)); exact BK641.out⟩
                  have n1_ : Aside0 (((w82.setCell ⟨gb665, 0, none⟩ (.int .u64 t662)).setCell ⟨gb665, 1, none⟩ (.int .u64 t663)).heap[gb642]? = some (.cells #[.int .u64 a1_0, .int .u64 a1_1] 24 (0, 0))) := ⟨by (with_reducible repeat (first | refine blk_drewN ?_ _ | refine blk_drew ?_ | refine blk_alloc ?_ _)); refine blk_far ?_ NB642_665.out _; (with_reducible repeat (first | refine blk_drewN ?_ _ | refine blk_drew ?_ | refine blk_alloc ?_ _)); refine blk_far ?_ NB642_665.out _; (with_reducible repeat (first | refine blk_drewN ?_ _ | refine blk_drew ?_ | refine blk_alloc ?_ _)); exact BK642.out⟩
                  have n2_ : Aside0 (((w82.setCell ⟨gb665, 0, none⟩ (.int .u64 t662)).setCell ⟨gb665, 1, none⟩ (.int .u64 t663)).heap[gb646]? = some (.cells #[.int .u64 t644, .int .u64 t645] 24 (0, 0))) := ⟨by (with_reducible repeat (first | refine blk_drewN ?_ _ | refine blk_drew ?_ | refine blk_alloc ?_ _)); refine blk_far ?_ NB646_665.out _; (with_reducible repeat (first | refine blk_drewN ?_ _ | refine blk_drew ?_ | refine blk_alloc ?_ _)); refine blk_far ?_ NB646_665.out _; (with_reducible repeat (first | refine blk_drewN ?_ _ | refine blk_drew ?_ | refine blk_alloc ?_ _)); exact BK646.out⟩
                  have n3_ : Aside0 (((w82.setCell ⟨gb665, 0, none⟩ (.int .u64 t662)).setCell ⟨gb665, 1, none⟩ (.int .u64 t663)).heap[gb650]? = some (.cells #[.int .u64 t647, .int .u64 t648] 24 (0, 0))) := ⟨by (with_reducible repeat (first | refine blk_drewN ?_ _ | refine blk_drew ?_ | refine blk_alloc ?_ _)); refine blk_far ?_ NB650_665.out _; (with_reducible repeat (first | refine blk_drewN ?_ _ | refine blk_drew ?_ | refine blk_alloc ?_ _)); refine blk_far ?_ NB650_665.out _; (with_reducible repeat (first | refine blk_drewN ?_ _ | refine blk_drew ?_ | refine blk_alloc ?_ _)); exact BK650.out⟩
                  have n4_ : Aside0 (((w82.setCell ⟨gb665, 0, none⟩ (.int .u64 t662)).setCell ⟨gb665, 1, none⟩ (.int .u64 t663)).heap[gb654]? = some (.cells #[.int .u64 t651, .int .u64 t652] 24 (0, 0))) := ⟨by (with_reducible repeat (first | refine blk_drewN ?_ _ | refine blk_drew ?_ | refine blk_alloc ?_ _)); refine blk_far ?_ NB654_665.out _; (with_reducible repeat (first | refine blk_drewN ?_ _ | refine blk_drew ?_ | refine blk_alloc ?_ _)); refine blk_far ?_ NB654_665.out _; (with_reducible repeat (first | refine blk_drewN ?_ _ | refine blk_drew ?_ | refine blk_alloc ?_ _)); exact BK654.out⟩
                  have n5_ : Aside0 (((w82.setCell ⟨gb665, 0, none⟩ (.int .u64 t662)).setCell ⟨gb665, 1, none⟩ (.int .u64 t663)).heap[gb661]? = some (.cells #[.int .u64 t658, .int .u64 t659] 24 (0, 0))) := ⟨by (with_reducible repeat (first | refine blk_drewN ?_ _ | refine blk_drew ?_ | refine blk_alloc ?_ _)); refine blk_far ?_ NB661_665.out _; (with_reducible repeat (first | refine blk_drewN ?_ _ | refine blk_drew ?_ | refine blk_alloc ?_ _)); refine blk_far ?_ NB661_665.out _; (with_reducible repeat (first | refine blk_drewN ?_ _ | refine blk_drew ?_ | refine blk_alloc ?_ _)); exact BK661.out⟩
                  have n6_ : Aside0 (((w82.setCell ⟨gb665, 0, none⟩ (.int .u64 t662)).setCell ⟨gb665, 1, none⟩ (.int .u64 t663)).heap[gb665]? = some (.cells #[.int .u64 t662, .int .u64 t663] 24 (0, 0))) := ⟨by (with_reducible repeat (first | refine blk_drewN ?_ _ | refine blk_drew ?_ | refine blk_alloc ?_ _)); refine blk_put (cs := #[.int .u64 t662, .int .u64 0]) ?_ 1 _ rfl; (with_reducible repeat (first | refine blk_drewN ?_ _ | refine blk_drew ?_ | refine blk_alloc ?_ _)); refine blk_put (cs := #[.int .u64 0, .int .u64 0]) ?_ 0 _ rfl; (with_reducible repeat (first | refine blk_drewN ?_ _ | refine blk_drew ?_ | refine blk_alloc ?_ _)); exact BK665.out⟩
                  have n7_ : Aside0 (Below w.heap.size w ((w82.setCell ⟨gb665, 0, none⟩ (.int .u64 t662)).setCell ⟨gb665, 1, none⟩ (.int .u64 t663))) := ⟨by repeat (first | (with_reducible first | exact HB.out | apply below_alloc | apply pw_below_drewN | apply below_drew1 | refine below_set ?_ GE641.out | refine below_set ?_ GE642.out | refine below_set ?_ GE646.out | refine below_set ?_ GE650.out | refine below_set ?_ GE654.out | refine below_set ?_ GE661.out | refine below_set ?_ GE665.out) | exact HB.out)⟩
                  (try clear BK641)
                  (try clear BK642)
                  (try clear BK646)
                  (try clear BK650)
                  (try clear BK654)
                  (try clear BK661)
                  (try clear BK665)
                  (try clear HB)
                  generalize ((w82.setCell ⟨gb665, 0, none⟩ (.int .u64 t662)).setCell ⟨gb665, 1, none⟩ (.int .u64 t663)) = w93 at n0_ n1_ n2_ n3_ n4_ n5_ n6_ n7_ ⊢
                  have BK641 := n0_
                  have BK642 := n1_
                  have BK646 := n2_
                  have BK650 := n3_
                  have BK654 := n4_
                  have BK661 := n5_
                  have BK665 := n6_
                  have HB := n7_
                  clear n0_ n1_ n2_ n3_ n4_ n5_ n6_ n7_
                  have n0_ := Aside0.mk (blk_drew BK641.out)
                  have n1_ := Aside0.mk (blk_drew BK642.out)
                  have n2_ := Aside0.mk (blk_drew BK646.out)
                  have n3_ := Aside0.mk (blk_drew BK650.out)
                  have n4_ := Aside0.mk (blk_drew BK654.out)
                  have n5_ := Aside0.mk (blk_drew BK661.out)
                  have n6_ := Aside0.mk (blk_drew BK665.out)
                  have n7_ := Aside0.mk (below_drew1 HB.out)
                  clear BK641
                  clear BK642
                  clear BK646
                  clear BK650
                  clear BK654
                  clear BK661
                  clear BK665
                  clear HB
                  have BK641 := n0_
                  have BK642 := n1_
                  have BK646 := n2_
                  have BK650 := n3_
                  have BK654 := n4_
                  have BK661 := n5_
                  have BK665 := n6_
                  have HB := n7_
                  clear n0_ n1_ n2_ n3_ n4_ n5_ n6_ n7_
                  refine start_ (n := 27) (S := fun w' => w'.cell? ⟨gb665, 0, none⟩ = some (.int .u64 t662) ∧ w'.cell? ⟨gb665, 1, none⟩ = some (.int .u64 t663) ∧ w'.cell? ⟨gb641, 0, none⟩ = some (.int .u64 a0_0) ∧ w'.cell? ⟨gb641, 1, none⟩ = some (.int .u64 a0_1)) (ds := []) #[false, false, false, false, false, false, false, false, false, false, false, false, false, false, false, false, false, false, false, false, false, false, false, false, false, false, false] (by kernel_rfl) rfl rfl ⟨(blk_cell BK665.out 0).trans rfl, (blk_cell BK665.out 1).trans rfl, (blk_cell BK641.out 0).trans rfl, (blk_cell BK641.out 1).trans rfl⟩ (fun hHeld => ?_); refine with_tabW lorgnettelaw01_WideParts.tab14 lorgnettelaw01_WideParts.bits14 (fun HT_ HW_ => ?_)
                  generalize w93.drew = w94 at BK641 BK642 BK646 BK650 BK654 BK661 BK665 HB hHeld ⊢
                  refine pure_ (i := 0) (N := some 72) (v := ?_) (a' := ?_) #[true, false, false, false, false, false, false, false, false, false, false, false, false, false, false, false, false, false, false, false, false, false, false, false, false, false, false] rfl rfl (any_of HT_.out (by kernel_rfl)) (fun _ _ _ h => h) (Or.inl ⟨by rfl, ?_⟩) ?_ ?_
                  rotate_left
                  · intro w'
                    go_simp
                    with_reducible rfl
                  rotate_left
                  · simp only [Act.put, List.setIfInBounds_toArray, List.set_cons_zero, List.set_cons_succ, i64_w, i32_w]
                    rfl
                  refine pure_ (i := 1) (N := some 73) (v := ?_) (a' := ?_) #[true, true, false, false, false, false, false, false, false, false, false, false, false, false, false, false, false, false, false, false, false, false, false, false, false, false, false] rfl rfl (any_of HT_.out (by kernel_rfl)) (fun _ _ _ h => h) (Or.inl ⟨by rfl, ?_⟩) ?_ ?_
                  rotate_left
                  · intro w'
                    go_simp
                    with_reducible rfl
                  rotate_left
                  · simp only [Act.put, List.setIfInBounds_toArray, List.set_cons_zero, List.set_cons_succ, i64_w, i32_w]
                    rfl
                  refine pure_ (i := 2) (N := some 74) (v := ?_) (a' := ?_) #[true, true, true, false, false, false, false, false, false, false, false, false, false, false, false, false, false, false, false, false, false, false, false, false, false, false, false] rfl rfl (any_of HT_.out (by kernel_rfl)) (fun _ _ _ h => h) (Or.inl ⟨by rfl, ?_⟩) ?_ ?_
                  rotate_left
                  · intro w'
                    go_simp
                    with_reducible rfl
                  rotate_left
                  · simp only [Act.put, List.setIfInBounds_toArray, List.set_cons_zero, List.set_cons_succ, i64_w, i32_w]
                    rfl
                  refine pure_ (i := 3) (N := some 75) (v := ?_) (a' := ?_) #[true, true, true, true, false, false, false, false, false, false, false, false, false, false, false, false, false, false, false, false, false, false, false, false, false, false, false] rfl rfl (any_of HT_.out (by kernel_rfl)) (fun _ _ _ h => h) (Or.inl ⟨by rfl, ?_⟩) ?_ ?_
                  rotate_left
                  · intro w'
                    go_simp
                    with_reducible rfl
                  rotate_left
                  · simp only [Act.put, List.setIfInBounds_toArray, List.set_cons_zero, List.set_cons_succ, i64_w, i32_w]
                    rfl
                  refine pure_ (i := 4) (N := some 76) (v := ?_) (a' := ?_) #[true, true, true, true, true, false, false, false, false, false, false, false, false, false, false, false, false, false, false, false, false, false, false, false, false, false, false] rfl rfl (any_of HT_.out (by kernel_rfl)) (fun _ _ _ h => h) (Or.inl ⟨by rfl, ?_⟩) ?_ ?_
                  rotate_left
                  · intro w'
                    go_simp
                    with_reducible rfl
                  rotate_left
                  · simp only [Act.put, List.setIfInBounds_toArray, List.set_cons_zero, List.set_cons_succ, i64_w, i32_w]
                    rfl
                  refine pure_ (i := 5) (N := some 77) (v := ?_) (a' := ?_) #[true, true, true, true, true, true, false, false, false, false, false, false, false, false, false, false, false, false, false, false, false, false, false, false, false, false, false] rfl rfl (any_of HT_.out (by kernel_rfl)) (fun _ _ _ h => h) (Or.inl ⟨by rfl, ?_⟩) ?_ ?_
                  rotate_left
                  · intro w'
                    go_simp
                    with_reducible rfl
                  rotate_left
                  · simp only [Act.put, List.setIfInBounds_toArray, List.set_cons_zero, List.set_cons_succ, i64_w, i32_w]
                    rfl
                  refine pure_ (i := 6) (N := some 78) (v := ?_) (a' := ?_) #[true, true, true, true, true, true, true, false, false, false, false, false, false, false, false, false, false, false, false, false, false, false, false, false, false, false, false] rfl rfl (any_of HT_.out (by kernel_rfl)) (fun _ _ _ h => h) (Or.inl ⟨by rfl, ?_⟩) ?_ ?_
                  rotate_left
                  · intro w'
                    go_simp
                    with_reducible rfl
                  rotate_left
                  · simp only [Act.put, List.setIfInBounds_toArray, List.set_cons_zero, List.set_cons_succ, i64_w, i32_w]
                    rfl
                  refine take_ (i := 7) (N := some 79) (v := ?_) (a' := ?_) #[true, true, true, true, true, true, true, true, false, false, false, false, false, false, false, false, false, false, false, false, false, false, false, false, false, false, false] rfl rfl (take_ofW HT_.out HW_.out (by kernel_rfl)) (fun _ _ _ h => h) (Or.inl ⟨by rfl, ?_⟩) hHeld ?_ ?_
                  rotate_left
                  · rintro w' ⟨s0, s1, s2, s3⟩
                    go_simp
                    with_reducible rfl
                  rotate_left
                  · simp only [Act.put, List.setIfInBounds_toArray, List.set_cons_zero, List.set_cons_succ, i64_w, i32_w]
                    rfl
                  refine take_ (i := 8) (N := some 80) (v := ?_) (a' := ?_) #[true, true, true, true, true, true, true, true, true, false, false, false, false, false, false, false, false, false, false, false, false, false, false, false, false, false, false] rfl rfl (take_ofW HT_.out HW_.out (by kernel_rfl)) (fun _ _ _ h => h) (Or.inl ⟨by rfl, ?_⟩) hHeld ?_ ?_
                  rotate_left
                  · rintro w' ⟨s0, s1, s2, s3⟩
                    go_simp
                    with_reducible rfl
                  rotate_left
                  · simp only [Act.put, List.setIfInBounds_toArray, List.set_cons_zero, List.set_cons_succ, i64_w, i32_w]
                    rfl
                  refine pure_ (i := 9) (N := some 81) (v := ?_) (a' := ?_) #[true, true, true, true, true, true, true, true, true, true, false, false, false, false, false, false, false, false, false, false, false, false, false, false, false, false, false] rfl rfl (any_of HT_.out (by kernel_rfl)) (fun _ _ _ h => h) (Or.inl ⟨by rfl, ?_⟩) ?_ ?_
                  rotate_left
                  · intro w'
                    go_simp
                    with_reducible rfl
                  rotate_left
                  · simp only [Act.put, List.setIfInBounds_toArray, List.set_cons_zero, List.set_cons_succ, i64_w, i32_w]
                    rfl
                  refine pure_ (i := 10) (N := some 82) (v := ?_) (a' := ?_) #[true, true, true, true, true, true, true, true, true, true, true, false, false, false, false, false, false, false, false, false, false, false, false, false, false, false, false] rfl rfl (any_of HT_.out (by kernel_rfl)) (fun _ _ _ h => h) (Or.inl ⟨by rfl, ?_⟩) ?_ ?_
                  rotate_left
                  · intro w'
                    go_simp
                    with_reducible rfl
                  rotate_left
                  · simp only [Act.put, List.setIfInBounds_toArray, List.set_cons_zero, List.set_cons_succ, i64_w, i32_w]
                    rfl
                  refine pure_ (i := 11) (N := some 83) (v := ?_) (a' := ?_) #[true, true, true, true, true, true, true, true, true, true, true, true, false, false, false, false, false, false, false, false, false, false, false, false, false, false, false] rfl rfl (any_of HT_.out (by kernel_rfl)) (fun _ _ _ h => h) (Or.inl ⟨by rfl, ?_⟩) ?_ ?_
                  rotate_left
                  · intro w'
                    go_simp
                    with_reducible rfl
                  rotate_left
                  · simp only [Act.put, List.setIfInBounds_toArray, List.set_cons_zero, List.set_cons_succ, i64_w, i32_w]
                    rfl
                  refine pure_ (i := 12) (N := some 84) (v := undef) (a' := ?_) #[true, true, true, true, true, true, true, true, true, true, true, true, true, false, false, false, false, false, false, false, false, false, false, false, false, false, false] rfl rfl (any_of HT_.out (by kernel_rfl)) (fun _ _ _ h => h) (Or.inr ⟨by rfl, rfl⟩) ?_ ?_
                  rotate_left
                  · simp only [Act.put, List.setIfInBounds_toArray, List.set_cons_zero, List.set_cons_succ, i64_w, i32_w]
                    rfl
                  refine pure_ (i := 13) (N := some 85) (v := undef) (a' := ?_) #[true, true, true, true, true, true, true, true, true, true, true, true, true, true, false, false, false, false, false, false, false, false, false, false, false, false, false] rfl rfl (any_of HT_.out (by kernel_rfl)) (fun _ _ _ h => h) (Or.inr ⟨by rfl, rfl⟩) ?_ ?_
                  rotate_left
                  · simp only [Act.put, List.setIfInBounds_toArray, List.set_cons_zero, List.set_cons_succ, i64_w, i32_w]
                    rfl
                  refine pure_ (i := 14) (N := some 86) (v := undef) (a' := ?_) #[true, true, true, true, true, true, true, true, true, true, true, true, true, true, true, false, false, false, false, false, false, false, false, false, false, false, false] rfl rfl (any_of HT_.out (by kernel_rfl)) (fun _ _ _ h => h) (Or.inr ⟨by rfl, rfl⟩) ?_ ?_
                  rotate_left
                  · simp only [Act.put, List.setIfInBounds_toArray, List.set_cons_zero, List.set_cons_succ, i64_w, i32_w]
                    rfl
                  refine pure_ (i := 15) (N := some 87) (v := undef) (a' := ?_) #[true, true, true, true, true, true, true, true, true, true, true, true, true, true, true, true, false, false, false, false, false, false, false, false, false, false, false] rfl rfl (any_of HT_.out (by kernel_rfl)) (fun _ _ _ h => h) (Or.inr ⟨by rfl, rfl⟩) ?_ ?_
                  rotate_left
                  · simp only [Act.put, List.setIfInBounds_toArray, List.set_cons_zero, List.set_cons_succ, i64_w, i32_w]
                    rfl
                  refine pure_ (i := 16) (N := some 88) (v := undef) (a' := ?_) #[true, true, true, true, true, true, true, true, true, true, true, true, true, true, true, true, true, false, false, false, false, false, false, false, false, false, false] rfl rfl (any_of HT_.out (by kernel_rfl)) (fun _ _ _ h => h) (Or.inr ⟨by rfl, rfl⟩) ?_ ?_
                  rotate_left
                  · simp only [Act.put, List.setIfInBounds_toArray, List.set_cons_zero, List.set_cons_succ, i64_w, i32_w]
                    rfl
                  refine pure_ (i := 17) (N := some 89) (v := undef) (a' := ?_) #[true, true, true, true, true, true, true, true, true, true, true, true, true, true, true, true, true, true, false, false, false, false, false, false, false, false, false] rfl rfl (any_of HT_.out (by kernel_rfl)) (fun _ _ _ h => h) (Or.inr ⟨by rfl, rfl⟩) ?_ ?_
                  rotate_left
                  · simp only [Act.put, List.setIfInBounds_toArray, List.set_cons_zero, List.set_cons_succ, i64_w, i32_w]
                    rfl
                  refine pure_ (i := 18) (N := some 90) (v := undef) (a' := ?_) #[true, true, true, true, true, true, true, true, true, true, true, true, true, true, true, true, true, true, true, false, false, false, false, false, false, false, false] rfl rfl (any_of HT_.out (by kernel_rfl)) (fun _ _ _ h => h) (Or.inr ⟨by rfl, rfl⟩) ?_ ?_
                  rotate_left
                  · simp only [Act.put, List.setIfInBounds_toArray, List.set_cons_zero, List.set_cons_succ, i64_w, i32_w]
                    rfl
                  refine pure_ (i := 19) (N := some 91) (v := undef) (a' := ?_) #[true, true, true, true, true, true, true, true, true, true, true, true, true, true, true, true, true, true, true, true, false, false, false, false, false, false, false] rfl rfl (any_of HT_.out (by kernel_rfl)) (fun _ _ _ h => h) (Or.inr ⟨by rfl, rfl⟩) ?_ ?_
                  rotate_left
                  · simp only [Act.put, List.setIfInBounds_toArray, List.set_cons_zero, List.set_cons_succ, i64_w, i32_w]
                    rfl
                  refine pure_ (i := 20) (N := some 92) (v := undef) (a' := ?_) #[true, true, true, true, true, true, true, true, true, true, true, true, true, true, true, true, true, true, true, true, true, false, false, false, false, false, false] rfl rfl (any_of HT_.out (by kernel_rfl)) (fun _ _ _ h => h) (Or.inr ⟨by rfl, rfl⟩) ?_ ?_
                  rotate_left
                  · simp only [Act.put, List.setIfInBounds_toArray, List.set_cons_zero, List.set_cons_succ, i64_w, i32_w]
                    rfl
                  refine pure_ (i := 21) (N := some 93) (v := undef) (a' := ?_) #[true, true, true, true, true, true, true, true, true, true, true, true, true, true, true, true, true, true, true, true, true, true, false, false, false, false, false] rfl rfl (any_of HT_.out (by kernel_rfl)) (fun _ _ _ h => h) (Or.inr ⟨by rfl, rfl⟩) ?_ ?_
                  rotate_left
                  · simp only [Act.put, List.setIfInBounds_toArray, List.set_cons_zero, List.set_cons_succ, i64_w, i32_w]
                    rfl
                  refine pure_ (i := 22) (N := some 94) (v := undef) (a' := ?_) #[true, true, true, true, true, true, true, true, true, true, true, true, true, true, true, true, true, true, true, true, true, true, true, false, false, false, false] rfl rfl (any_of HT_.out (by kernel_rfl)) (fun _ _ _ h => h) (Or.inr ⟨by rfl, rfl⟩) ?_ ?_
                  rotate_left
                  · simp only [Act.put, List.setIfInBounds_toArray, List.set_cons_zero, List.set_cons_succ, i64_w, i32_w]
                    rfl
                  refine pure_ (i := 23) (N := some 95) (v := undef) (a' := ?_) #[true, true, true, true, true, true, true, true, true, true, true, true, true, true, true, true, true, true, true, true, true, true, true, true, false, false, false] rfl rfl (any_of HT_.out (by kernel_rfl)) (fun _ _ _ h => h) (Or.inr ⟨by rfl, rfl⟩) ?_ ?_
                  rotate_left
                  · simp only [Act.put, List.setIfInBounds_toArray, List.set_cons_zero, List.set_cons_succ, i64_w, i32_w]
                    rfl
                  refine pure_ (i := 24) (N := some 96) (v := undef) (a' := ?_) #[true, true, true, true, true, true, true, true, true, true, true, true, true, true, true, true, true, true, true, true, true, true, true, true, true, false, false] rfl rfl (any_of HT_.out (by kernel_rfl)) (fun _ _ _ h => h) (Or.inr ⟨by rfl, rfl⟩) ?_ ?_
                  rotate_left
                  · simp only [Act.put, List.setIfInBounds_toArray, List.set_cons_zero, List.set_cons_succ, i64_w, i32_w]
                    rfl
                  refine pure_ (i := 25) (N := some 97) (v := undef) (a' := ?_) #[true, true, true, true, true, true, true, true, true, true, true, true, true, true, true, true, true, true, true, true, true, true, true, true, true, true, false] rfl rfl (any_of HT_.out (by kernel_rfl)) (fun _ _ _ h => h) (Or.inr ⟨by rfl, rfl⟩) ?_ ?_
                  rotate_left
                  · simp only [Act.put, List.setIfInBounds_toArray, List.set_cons_zero, List.set_cons_succ, i64_w, i32_w]
                    rfl
                  refine pure_ (i := 26) (N := some 98) (v := ?_) (a' := ?_) #[true, true, true, true, true, true, true, true, true, true, true, true, true, true, true, true, true, true, true, true, true, true, true, true, true, true, true] rfl rfl (any_of HT_.out (by kernel_rfl)) (fun _ _ _ h => h) (Or.inl ⟨by rfl, ?_⟩) ?_ ?_
                  rotate_left
                  · intro w'
                    go_simp
                    with_reducible rfl
                  rotate_left
                  · simp only [Act.put, List.setIfInBounds_toArray, List.set_cons_zero, List.set_cons_succ, i64_w, i32_w]
                    rfl
                  refine done_ (done_of HT_.out (by kernel_rfl)) ?_
                  try go_wp2
                  go_meet
                  case rel => exact ⟨_, (true), (by first | rfl | (simp; done) | (simp [*]; done)), H', ⟨by first | omega | exact Nat.le_refl _⟩, ⟨by (with_reducible repeat (first | refine blk_drewN ?_ _ | refine blk_drew ?_ | refine blk_alloc ?_ _)); exact BK641.out⟩, ⟨by (with_reducible repeat (first | refine blk_drewN ?_ _ | refine blk_drew ?_ | refine blk_alloc ?_ _)); exact BK642.out⟩, ⟨by (with_reducible repeat (first | refine blk_drewN ?_ _ | refine blk_drew ?_ | refine blk_alloc ?_ _)); exact BK646.out⟩, ⟨by (with_reducible repeat (first | refine blk_drewN ?_ _ | refine blk_drew ?_ | refine blk_alloc ?_ _)); exact BK650.out⟩, ⟨by (with_reducible repeat (first | refine blk_drewN ?_ _ | refine blk_drew ?_ | refine blk_alloc ?_ _)); exact BK654.out⟩, ⟨by (with_reducible repeat (first | refine blk_drewN ?_ _ | refine blk_drew ?_ | refine blk_alloc ?_ _)); exact BK661.out⟩, ⟨by (with_reducible repeat (first | refine blk_drewN ?_ _ | refine blk_drew ?_ | refine blk_alloc ?_ _)); exact BK665.out⟩, ⟨by repeat (first | (with_reducible first | exact HB.out | apply below_alloc | apply pw_below_drewN | apply below_drew1 | refine below_set ?_ GE641.out | refine below_set ?_ GE642.out | refine below_set ?_ GE646.out | refine below_set ?_ GE650.out | refine below_set ?_ GE654.out | refine below_set ?_ GE661.out | refine below_set ?_ GE665.out) | exact HB.out)⟩⟩
                · rw [if_neg c92] at H
                  have c92b0 : (!(t662 == a0_0) || (!(t663 == a0_1))) = false := by simpa using c92
                  clear c92
                  by_cases c95 : (!(t651 == t644) || (!(t652 == t645))) = true
                  · rw [if_pos c95] at H
                    have c95b0 : (!(t651 == t644) || (!(t652 == t645))) = true := c95
                    clear c95
                    replace H := Option.bind_eq_some_iff.mp H
                    obtain ⟨t666, A960, H⟩ := H
                    replace H : ((wide_Cmp.f a0_0 a0_1 t644 t645).bind fun t667 => (lorgnettelaw01_WideParts.j0 k ((decide (t666 < 0)) != (decide (t667 < 0))) a1_0 a1_1 t644 t645 t651 t652)) = some r := H
                    have A96 := Aside0.mk A960
                    clear A960
                    replace H := Option.bind_eq_some_iff.mp H
                    obtain ⟨t667, A970, H⟩ := H
                    replace H : (lorgnettelaw01_WideParts.j0 k ((decide (t666 < 0)) != (decide (t667 < 0))) a1_0 a1_1 t644 t645 t651 t652) = some r := H
                    have A97 := Aside0.mk A970
                    clear A970
                    have H' := Aside0.mk H
                    clear H
                    try go_wp2
                    have n0_ : Aside0 (((w82.setCell ⟨gb665, 0, none⟩ (.int .u64 t662)).setCell ⟨gb665, 1, none⟩ (.int .u64 t663)).heap[gb641]? = some (.cells #[.int .u64 a0_0, .int .u64 a0_1] 24 (0, 0))) := ⟨by (with_reducible repeat (first | refine blk_drewN ?_ _ | refine blk_drew ?_ | refine blk_alloc ?_ _)); refine blk_far ?_ NB641_665.out _; (with_reducible repeat (first | refine blk_drewN ?_ _ | refine blk_drew ?_ | refine blk_alloc ?_ _)); refine blk_far ?_ NB641_665.out _; (with_reducible repeat (first | refine blk_drewN ?_ _ | refine blk_drew ?_ | refine blk_alloc ?_ _)); exact BK641.out⟩
                    have n1_ : Aside0 (((w82.setCell ⟨gb665, 0, none⟩ (.int .u64 t662)).setCell ⟨gb665, 1, none⟩ (.int .u64 t663)).heap[gb642]? = some (.cells #[.int .u64 a1_0, .int .u64 a1_1] 24 (0, 0))) := ⟨by (with_reducible repeat (first | refine blk_drewN ?_ _ | refine blk_drew ?_ | refine blk_alloc ?_ _)); refine blk_far ?_ NB642_665.out _; (with_reducible repeat (first | refine blk_drewN ?_ _ | refine blk_drew ?_ | refine blk_alloc ?_ _)); refine blk_far ?_ NB642_665.out _; (with_reducible repeat (first | refine blk_drewN ?_ _ | refine blk_drew ?_ | refine blk_alloc ?_ _)); exact BK642.out⟩
                    have n2_ : Aside0 (((w82.setCell ⟨gb665, 0, none⟩ (.int .u64 t662)).setCell ⟨gb665, 1, none⟩ (.int .u64 t663)).heap[gb646]? = some (.cells #[.int .u64 t644, .int .u64 t645] 24 (0, 0))) := ⟨by (with_reducible repeat (first | refine blk_drewN ?_ _ | refine blk_drew ?_ | refine blk_alloc ?_ _)); refine blk_far ?_ NB646_665.out _; (with_reducible repeat (first | refine blk_drewN ?_ _ | refine blk_drew ?_ | refine blk_alloc ?_ _)); refine blk_far ?_ NB646_665.out _; (with_reducible repeat (first | refine blk_drewN ?_ _ | refine blk_drew ?_ | refine blk_alloc ?_ _)); exact BK646.out⟩
                    have n3_ : Aside0 (((w82.setCell ⟨gb665, 0, none⟩ (.int .u64 t662)).setCell ⟨gb665, 1, none⟩ (.int .u64 t663)).heap[gb650]? = some (.cells #[.int .u64 t647, .int .u64 t648] 24 (0, 0))) := ⟨by (with_reducible repeat (first | refine blk_drewN ?_ _ | refine blk_drew ?_ | refine blk_alloc ?_ _)); refine blk_far ?_ NB650_665.out _; (with_reducible repeat (first | refine blk_drewN ?_ _ | refine blk_drew ?_ | refine blk_alloc ?_ _)); refine blk_far ?_ NB650_665.out _; (with_reducible repeat (first | refine blk_drewN ?_ _ | refine blk_drew ?_ | refine blk_alloc ?_ _)); exact BK650.out⟩
                    have n4_ : Aside0 (((w82.setCell ⟨gb665, 0, none⟩ (.int .u64 t662)).setCell ⟨gb665, 1, none⟩ (.int .u64 t663)).heap[gb654]? = some (.cells #[.int .u64 t651, .int .u64 t652] 24 (0, 0))) := ⟨by (with_reducible repeat (first | refine blk_drewN ?_ _ | refine blk_drew ?_ | refine blk_alloc ?_ _)); refine blk_far ?_ NB654_665.out _; (with_reducible repeat (first | refine blk_drewN ?_ _ | refine blk_drew ?_ | refine blk_alloc ?_ _)); refine blk_far ?_ NB654_665.out _; (with_reducible repeat (first | refine blk_drewN ?_ _ | refine blk_drew ?_ | refine blk_alloc ?_ _)); exact BK654.out⟩
                    have n5_ : Aside0 (((w82.setCell ⟨gb665, 0, none⟩ (.int .u64 t662)).setCell ⟨gb665, 1, none⟩ (.int .u64 t663)).heap[gb661]? = some (.cells #[.int .u64 t658, .int .u64 t659] 24 (0, 0))) := ⟨by (with_reducible repeat (first | refine blk_drewN ?_ _ | refine blk_drew ?_ | refine blk_alloc ?_ _)); refine blk_far ?_ NB661_665.out _; (with_reducible repeat (first | refine blk_drewN ?_ _ | refine blk_drew ?_ | refine blk_alloc ?_ _)); refine blk_far ?_ NB661_665.out _; (with_reducible repeat (first | refine blk_drewN ?_ _ | refine blk_drew ?_ | refine blk_alloc ?_ _)); exact BK661.out⟩
                    have n6_ : Aside0 (((w82.setCell ⟨gb665, 0, none⟩ (.int .u64 t662)).setCell ⟨gb665, 1, none⟩ (.int .u64 t663)).heap[gb665]? = some (.cells #[.int .u64 t662, .int .u64 t663] 24 (0, 0))) := ⟨by (with_reducible repeat (first | refine blk_drewN ?_ _ | refine blk_drew ?_ | refine blk_alloc ?_ _)); refine blk_put (cs := #[.int .u64 t662, .int .u64 0]) ?_ 1 _ rfl; (with_reducible repeat (first | refine blk_drewN ?_ _ | refine blk_drew ?_ | refine blk_alloc ?_ _)); refine blk_put (cs := #[.int .u64 0, .int .u64 0]) ?_ 0 _ rfl; (with_reducible repeat (first | refine blk_drewN ?_ _ | refine blk_drew ?_ | refine blk_alloc ?_ _)); exact BK665.out⟩
                    have n7_ : Aside0 (Below w.heap.size w ((w82.setCell ⟨gb665, 0, none⟩ (.int .u64 t662)).setCell ⟨gb665, 1, none⟩ (.int .u64 t663))) := ⟨by repeat (first | (with_reducible first | exact HB.out | apply below_alloc | apply pw_below_drewN | apply below_drew1 | refine below_set ?_ GE641.out | refine below_set ?_ GE642.out | refine below_set ?_ GE646.out | refine below_set ?_ GE650.out | refine below_set ?_ GE654.out | refine below_set ?_ GE661.out | refine below_set ?_ GE665.out) | exact HB.out)⟩
                    (try clear BK641)
                    (try clear BK642)
                    (try clear BK646)
                    (try clear BK650)
                    (try clear BK654)
                    (try clear BK661)
                    (try clear BK665)
                    (try clear HB)
                    generalize ((w82.setCell ⟨gb665, 0, none⟩ (.int .u64 t662)).setCell ⟨gb665, 1, none⟩ (.int .u64 t663)) = w98 at n0_ n1_ n2_ n3_ n4_ n5_ n6_ n7_ ⊢
                    have BK641 := n0_
                    have BK642 := n1_
                    have BK646 := n2_
                    have BK650 := n3_
                    have BK654 := n4_
                    have BK661 := n5_
                    have BK665 := n6_
                    have HB := n7_
                    clear n0_ n1_ n2_ n3_ n4_ n5_ n6_ n7_
                    have n0_ := Aside0.mk (blk_drew BK641.out)
                    have n1_ := Aside0.mk (blk_drew BK642.out)
                    have n2_ := Aside0.mk (blk_drew BK646.out)
                    have n3_ := Aside0.mk (blk_drew BK650.out)
                    have n4_ := Aside0.mk (blk_drew BK654.out)
                    have n5_ := Aside0.mk (blk_drew BK661.out)
                    have n6_ := Aside0.mk (blk_drew BK665.out)
                    have n7_ := Aside0.mk (below_drew1 HB.out)
                    clear BK641
                    clear BK642
                    clear BK646
                    clear BK650
                    clear BK654
                    clear BK661
                    clear BK665
                    clear HB
                    have BK641 := n0_
                    have BK642 := n1_
                    have BK646 := n2_
                    have BK650 := n3_
                    have BK654 := n4_
                    have BK661 := n5_
                    have BK665 := n6_
                    have HB := n7_
                    clear n0_ n1_ n2_ n3_ n4_ n5_ n6_ n7_
                    refine start_ (n := 27) (S := fun w' => w'.cell? ⟨gb665, 0, none⟩ = some (.int .u64 t662) ∧ w'.cell? ⟨gb665, 1, none⟩ = some (.int .u64 t663) ∧ w'.cell? ⟨gb641, 0, none⟩ = some (.int .u64 a0_0) ∧ w'.cell? ⟨gb641, 1, none⟩ = some (.int .u64 a0_1) ∧ w'.cell? ⟨gb654, 0, none⟩ = some (.int .u64 t651) ∧ w'.cell? ⟨gb654, 1, none⟩ = some (.int .u64 t652) ∧ w'.cell? ⟨gb646, 0, none⟩ = some (.int .u64 t644) ∧ w'.cell? ⟨gb646, 1, none⟩ = some (.int .u64 t645)) (ds := []) #[false, false, false, false, false, false, false, false, false, false, false, false, false, false, false, false, false, false, false, false, false, false, false, false, false, false, false] (by kernel_rfl) rfl rfl ⟨(blk_cell BK665.out 0).trans rfl, (blk_cell BK665.out 1).trans rfl, (blk_cell BK641.out 0).trans rfl, (blk_cell BK641.out 1).trans rfl, (blk_cell BK654.out 0).trans rfl, (blk_cell BK654.out 1).trans rfl, (blk_cell BK646.out 0).trans rfl, (blk_cell BK646.out 1).trans rfl⟩ (fun hHeld => ?_); refine with_tabW lorgnettelaw01_WideParts.tab14 lorgnettelaw01_WideParts.bits14 (fun HT_ HW_ => ?_)
                    generalize w98.drew = w99 at BK641 BK642 BK646 BK650 BK654 BK661 BK665 HB hHeld ⊢
                    refine pure_ (i := 0) (N := some 72) (v := ?_) (a' := ?_) #[true, false, false, false, false, false, false, false, false, false, false, false, false, false, false, false, false, false, false, false, false, false, false, false, false, false, false] rfl rfl (any_of HT_.out (by kernel_rfl)) (fun _ _ _ h => h) (Or.inl ⟨by rfl, ?_⟩) ?_ ?_
                    rotate_left
                    · intro w'
                      go_simp
                      with_reducible rfl
                    rotate_left
                    · simp only [Act.put, List.setIfInBounds_toArray, List.set_cons_zero, List.set_cons_succ, i64_w, i32_w]
                      rfl
                    refine pure_ (i := 1) (N := some 73) (v := ?_) (a' := ?_) #[true, true, false, false, false, false, false, false, false, false, false, false, false, false, false, false, false, false, false, false, false, false, false, false, false, false, false] rfl rfl (any_of HT_.out (by kernel_rfl)) (fun _ _ _ h => h) (Or.inl ⟨by rfl, ?_⟩) ?_ ?_
                    rotate_left
                    · intro w'
                      go_simp
                      with_reducible rfl
                    rotate_left
                    · simp only [Act.put, List.setIfInBounds_toArray, List.set_cons_zero, List.set_cons_succ, i64_w, i32_w]
                      rfl
                    refine pure_ (i := 2) (N := some 74) (v := ?_) (a' := ?_) #[true, true, true, false, false, false, false, false, false, false, false, false, false, false, false, false, false, false, false, false, false, false, false, false, false, false, false] rfl rfl (any_of HT_.out (by kernel_rfl)) (fun _ _ _ h => h) (Or.inl ⟨by rfl, ?_⟩) ?_ ?_
                    rotate_left
                    · intro w'
                      go_simp
                      with_reducible rfl
                    rotate_left
                    · simp only [Act.put, List.setIfInBounds_toArray, List.set_cons_zero, List.set_cons_succ, i64_w, i32_w]
                      rfl
                    refine pure_ (i := 3) (N := some 75) (v := ?_) (a' := ?_) #[true, true, true, true, false, false, false, false, false, false, false, false, false, false, false, false, false, false, false, false, false, false, false, false, false, false, false] rfl rfl (any_of HT_.out (by kernel_rfl)) (fun _ _ _ h => h) (Or.inl ⟨by rfl, ?_⟩) ?_ ?_
                    rotate_left
                    · intro w'
                      go_simp
                      with_reducible rfl
                    rotate_left
                    · simp only [Act.put, List.setIfInBounds_toArray, List.set_cons_zero, List.set_cons_succ, i64_w, i32_w]
                      rfl
                    refine pure_ (i := 4) (N := some 76) (v := ?_) (a' := ?_) #[true, true, true, true, true, false, false, false, false, false, false, false, false, false, false, false, false, false, false, false, false, false, false, false, false, false, false] rfl rfl (any_of HT_.out (by kernel_rfl)) (fun _ _ _ h => h) (Or.inl ⟨by rfl, ?_⟩) ?_ ?_
                    rotate_left
                    · intro w'
                      go_simp
                      with_reducible rfl
                    rotate_left
                    · simp only [Act.put, List.setIfInBounds_toArray, List.set_cons_zero, List.set_cons_succ, i64_w, i32_w]
                      rfl
                    refine pure_ (i := 5) (N := some 77) (v := ?_) (a' := ?_) #[true, true, true, true, true, true, false, false, false, false, false, false, false, false, false, false, false, false, false, false, false, false, false, false, false, false, false] rfl rfl (any_of HT_.out (by kernel_rfl)) (fun _ _ _ h => h) (Or.inl ⟨by rfl, ?_⟩) ?_ ?_
                    rotate_left
                    · intro w'
                      go_simp
                      with_reducible rfl
                    rotate_left
                    · simp only [Act.put, List.setIfInBounds_toArray, List.set_cons_zero, List.set_cons_succ, i64_w, i32_w]
                      rfl
                    refine pure_ (i := 6) (N := some 78) (v := ?_) (a' := ?_) #[true, true, true, true, true, true, true, false, false, false, false, false, false, false, false, false, false, false, false, false, false, false, false, false, false, false, false] rfl rfl (any_of HT_.out (by kernel_rfl)) (fun _ _ _ h => h) (Or.inl ⟨by rfl, ?_⟩) ?_ ?_
                    rotate_left
                    · intro w'
                      go_simp
                      with_reducible rfl
                    rotate_left
                    · simp only [Act.put, List.setIfInBounds_toArray, List.set_cons_zero, List.set_cons_succ, i64_w, i32_w]
                      rfl
                    refine take_ (i := 7) (N := some 79) (v := ?_) (a' := ?_) #[true, true, true, true, true, true, true, true, false, false, false, false, false, false, false, false, false, false, false, false, false, false, false, false, false, false, false] rfl rfl (take_ofW HT_.out HW_.out (by kernel_rfl)) (fun _ _ _ h => h) (Or.inl ⟨by rfl, ?_⟩) hHeld ?_ ?_
                    rotate_left
                    · rintro w' ⟨s0, s1, s2, s3, s4, s5, s6, s7⟩
                      go_simp
                      with_reducible rfl
                    rotate_left
                    · simp only [Act.put, List.setIfInBounds_toArray, List.set_cons_zero, List.set_cons_succ, i64_w, i32_w]
                      rfl
                    refine take_ (i := 8) (N := some 80) (v := ?_) (a' := ?_) #[true, true, true, true, true, true, true, true, true, false, false, false, false, false, false, false, false, false, false, false, false, false, false, false, false, false, false] rfl rfl (take_ofW HT_.out HW_.out (by kernel_rfl)) (fun _ _ _ h => h) (Or.inl ⟨by rfl, ?_⟩) hHeld ?_ ?_
                    rotate_left
                    · rintro w' ⟨s0, s1, s2, s3, s4, s5, s6, s7⟩
                      go_simp
                      with_reducible rfl
                    rotate_left
                    · simp only [Act.put, List.setIfInBounds_toArray, List.set_cons_zero, List.set_cons_succ, i64_w, i32_w]
                      rfl
                    refine pure_ (i := 9) (N := some 81) (v := ?_) (a' := ?_) #[true, true, true, true, true, true, true, true, true, true, false, false, false, false, false, false, false, false, false, false, false, false, false, false, false, false, false] rfl rfl (any_of HT_.out (by kernel_rfl)) (fun _ _ _ h => h) (Or.inl ⟨by rfl, ?_⟩) ?_ ?_
                    rotate_left
                    · intro w'
                      go_simp
                      with_reducible rfl
                    rotate_left
                    · simp only [Act.put, List.setIfInBounds_toArray, List.set_cons_zero, List.set_cons_succ, i64_w, i32_w]
                      rfl
                    refine pure_ (i := 10) (N := some 82) (v := ?_) (a' := ?_) #[true, true, true, true, true, true, true, true, true, true, true, false, false, false, false, false, false, false, false, false, false, false, false, false, false, false, false] rfl rfl (any_of HT_.out (by kernel_rfl)) (fun _ _ _ h => h) (Or.inl ⟨by rfl, ?_⟩) ?_ ?_
                    rotate_left
                    · intro w'
                      go_simp
                      with_reducible rfl
                    rotate_left
                    · simp only [Act.put, List.setIfInBounds_toArray, List.set_cons_zero, List.set_cons_succ, i64_w, i32_w]
                      rfl
                    refine pure_ (i := 11) (N := some 83) (v := ?_) (a' := ?_) #[true, true, true, true, true, true, true, true, true, true, true, true, false, false, false, false, false, false, false, false, false, false, false, false, false, false, false] rfl rfl (any_of HT_.out (by kernel_rfl)) (fun _ _ _ h => h) (Or.inl ⟨by rfl, ?_⟩) ?_ ?_
                    rotate_left
                    · intro w'
                      go_simp
                      with_reducible rfl
                    rotate_left
                    · simp only [Act.put, List.setIfInBounds_toArray, List.set_cons_zero, List.set_cons_succ, i64_w, i32_w]
                      rfl
                    refine take_ (i := 12) (N := some 84) (v := ?_) (a' := ?_) #[true, true, true, true, true, true, true, true, true, true, true, true, true, false, false, false, false, false, false, false, false, false, false, false, false, false, false] rfl rfl (take_ofW HT_.out HW_.out (by kernel_rfl)) (fun _ _ _ h => h) (Or.inl ⟨by rfl, ?_⟩) hHeld ?_ ?_
                    rotate_left
                    · rintro w' ⟨s0, s1, s2, s3, s4, s5, s6, s7⟩
                      go_simp
                      with_reducible rfl
                    rotate_left
                    · simp only [Act.put, List.setIfInBounds_toArray, List.set_cons_zero, List.set_cons_succ, i64_w, i32_w]
                      rfl
                    refine take_ (i := 13) (N := some 85) (v := ?_) (a' := ?_) #[true, true, true, true, true, true, true, true, true, true, true, true, true, true, false, false, false, false, false, false, false, false, false, false, false, false, false] rfl rfl (take_ofW HT_.out HW_.out (by kernel_rfl)) (fun _ _ _ h => h) (Or.inl ⟨by rfl, ?_⟩) hHeld ?_ ?_
                    rotate_left
                    · rintro w' ⟨s0, s1, s2, s3, s4, s5, s6, s7⟩
                      go_simp
                      with_reducible rfl
                    rotate_left
                    · simp only [Act.put, List.setIfInBounds_toArray, List.set_cons_zero, List.set_cons_succ, i64_w, i32_w]
                      rfl
                    refine pure_ (i := 14) (N := some 86) (v := ?_) (a' := ?_) #[true, true, true, true, true, true, true, true, true, true, true, true, true, true, true, false, false, false, false, false, false, false, false, false, false, false, false] rfl rfl (any_of HT_.out (by kernel_rfl)) (fun _ _ _ h => h) (Or.inl ⟨by rfl, ?_⟩) ?_ ?_
                    rotate_left
                    · intro w'
                      go_simp
                      with_reducible rfl
                    rotate_left
                    · simp only [Act.put, List.setIfInBounds_toArray, List.set_cons_zero, List.set_cons_succ, i64_w, i32_w]
                      rfl
                    refine pure_ (i := 15) (N := some 87) (v := ?_) (a' := ?_) #[true, true, true, true, true, true, true, true, true, true, true, true, true, true, true, true, false, false, false, false, false, false, false, false, false, false, false] rfl rfl (any_of HT_.out (by kernel_rfl)) (fun _ _ _ h => h) (Or.inl ⟨by rfl, ?_⟩) ?_ ?_
                    rotate_left
                    · intro w'
                      go_simp
                      with_reducible rfl
                    rotate_left
                    · simp only [Act.put, List.setIfInBounds_toArray, List.set_cons_zero, List.set_cons_succ, i64_w, i32_w]
                      rfl
                    refine take_ (i := 16) (N := some 88) (v := ?_) (a' := ?_) #[true, true, true, true, true, true, true, true, true, true, true, true, true, true, true, true, true, false, false, false, false, false, false, false, false, false, false] rfl rfl (take_ofW HT_.out HW_.out (by kernel_rfl)) (fun _ _ _ h => h) (Or.inl ⟨by rfl, ?_⟩) hHeld ?_ ?_
                    rotate_left
                    · rintro w' ⟨s0, s1, s2, s3, s4, s5, s6, s7⟩
                      go_simp
                      with_reducible rfl
                    rotate_left
                    · simp only [Act.put, List.setIfInBounds_toArray, List.set_cons_zero, List.set_cons_succ, i64_w, i32_w]
                      rfl
                    refine take_ (i := 17) (N := some 89) (v := ?_) (a' := ?_) #[true, true, true, true, true, true, true, true, true, true, true, true, true, true, true, true, true, true, false, false, false, false, false, false, false, false, false] rfl rfl (take_ofW HT_.out HW_.out (by kernel_rfl)) (fun _ _ _ h => h) (Or.inl ⟨by rfl, ?_⟩) hHeld ?_ ?_
                    rotate_left
                    · rintro w' ⟨s0, s1, s2, s3, s4, s5, s6, s7⟩
                      go_simp
                      with_reducible rfl
                    rotate_left
                    · simp only [Act.put, List.setIfInBounds_toArray, List.set_cons_zero, List.set_cons_succ, i64_w, i32_w]
                      rfl
                    refine take_ (i := 20) (N := some 92) (v := ?_) (a' := ?_) #[true, true, true, true, true, true, true, true, true, true, true, true, true, true, true, true, true, true, false, false, true, false, false, false, false, false, false] rfl rfl (take_ofW HT_.out HW_.out (by kernel_rfl)) (fun _ _ _ h => h) (Or.inl ⟨by rfl, ?_⟩) hHeld ?_ ?_
                    rotate_left
                    · rintro w' ⟨s0, s1, s2, s3, s4, s5, s6, s7⟩
                      go_simp
                      with_reducible rfl
                    rotate_left
                    · simp only [Act.put, List.setIfInBounds_toArray, List.set_cons_zero, List.set_cons_succ, i64_w, i32_w]
                      rfl
                    refine take_ (i := 21) (N := some 93) (v := ?_) (a' := ?_) #[true, true, true, true, true, true, true, true, true, true, true, true, true, true, true, true, true, true, false, false, true, true, false, false, false, false, false] rfl rfl (take_ofW HT_.out HW_.out (by kernel_rfl)) (fun _ _ _ h => h) (Or.inl ⟨by rfl, ?_⟩) hHeld ?_ ?_
                    rotate_left
                    · rintro w' ⟨s0, s1, s2, s3, s4, s5, s6, s7⟩
                      go_simp
                      with_reducible rfl
                    rotate_left
                    · simp only [Act.put, List.setIfInBounds_toArray, List.set_cons_zero, List.set_cons_succ, i64_w, i32_w]
                      rfl
                    refine one_ (i := 18) (N := some 90) #[true, true, true, true, true, true, true, true, true, true, true, true, true, true, true, true, true, true, true, false, true, true, false, false, false, false, false] rfl rfl (one_of HT_.out (by kernel_rfl)) (by decide) (fun K hK => ?_)
                    refine goes_ Try.func27 (by kernel_rfl) rfl #[.agg #[.int .u64 t651, .int .u64 t652], .agg #[.int .u64 t644, .int .u64 t645]] (by rfl) rfl rfl (by (try simp only [List.map_toArray, List.map_cons, List.map_nil]); first | done | rfl | (simp only [List.length_drop, List.length_take]; rfl) | (go_simp; simp only [u8_w, w64_u8]; done) | (go_simp; simp only [u8_w, w64_u8]; rfl)) ?_
                    with_reducible refine (wide_Cmp.calls t651 t652 t644 t645 t666 _ A96.out).mono ?_
                    rintro e w100 ⟨rfl, hb⟩
                    refine ⟨_, rfl, ?_⟩
                    have n0_ := blkB BK641 hb
                    have n1_ := blkB BK642 hb
                    have n2_ := blkB BK646 hb
                    have n3_ := blkB BK650 hb
                    have n4_ := blkB BK654 hb
                    have n5_ := blkB BK661 hb
                    have n6_ := blkB BK665 hb
                    have n7_ := Aside0.mk (below_step (bL HB) hb)
                    clear BK641
                    clear BK642
                    clear BK646
                    clear BK650
                    clear BK654
                    clear BK661
                    clear BK665
                    clear HB
                    have BK641 := n0_
                    have BK642 := n1_
                    have BK646 := n2_
                    have BK650 := n3_
                    have BK654 := n4_
                    have BK661 := n5_
                    have BK665 := n6_
                    have HB := n7_
                    clear n0_ n1_ n2_ n3_ n4_ n5_ n6_ n7_
                    (try clear hb)
                    (try clear hb2)
                    (try clear hk)
                    (try clear hi)
                    refine hK.out _ _ ⟨(blk_cell BK665.out 0).trans rfl, (blk_cell BK665.out 1).trans rfl, (blk_cell BK641.out 0).trans rfl, (blk_cell BK641.out 1).trans rfl, (blk_cell BK654.out 0).trans rfl, (blk_cell BK654.out 1).trans rfl, (blk_cell BK646.out 0).trans rfl, (blk_cell BK646.out 1).trans rfl⟩ (fun hHeld => ?_)
                    clear hK K
                    refine norm_ (a' := ?_) ?_ ?_
                    rotate_left
                    · show Act.put _ (some 90) _ = _
                      simp only [Act.put, List.setIfInBounds_toArray, List.set_cons_zero, List.set_cons_succ, i64_w, i32_w]
                      rfl
                    refine pure_ (i := 19) (N := some 91) (v := ?_) (a' := ?_) #[true, true, true, true, true, true, true, true, true, true, true, true, true, true, true, true, true, true, true, true, true, true, false, false, false, false, false] rfl rfl (any_of HT_.out (by kernel_rfl)) (fun _ _ _ h => h) (Or.inl ⟨by rfl, ?_⟩) ?_ ?_
                    rotate_left
                    · intro w'
                      go_simp
                      with_reducible rfl
                    rotate_left
                    · simp only [Act.put, List.setIfInBounds_toArray, List.set_cons_zero, List.set_cons_succ, i64_w, i32_w]
                      rfl
                    refine one_ (i := 22) (N := some 94) #[true, true, true, true, true, true, true, true, true, true, true, true, true, true, true, true, true, true, true, true, true, true, true, false, false, false, false] rfl rfl (one_of HT_.out (by kernel_rfl)) (by decide) (fun K hK => ?_)
                    refine goes_ Try.func27 (by kernel_rfl) rfl #[.agg #[.int .u64 a0_0, .int .u64 a0_1], .agg #[.int .u64 t644, .int .u64 t645]] (by rfl) rfl rfl (by (try simp only [List.map_toArray, List.map_cons, List.map_nil]); first | done | rfl | (simp only [List.length_drop, List.length_take]; rfl) | (go_simp; simp only [u8_w, w64_u8]; done) | (go_simp; simp only [u8_w, w64_u8]; rfl)) ?_
                    with_reducible refine (wide_Cmp.calls a0_0 a0_1 t644 t645 t667 _ A97.out).mono ?_
                    rintro e w101 ⟨rfl, hb⟩
                    refine ⟨_, rfl, ?_⟩
                    have n0_ := blkB BK641 hb
                    have n1_ := blkB BK642 hb
                    have n2_ := blkB BK646 hb
                    have n3_ := blkB BK650 hb
                    have n4_ := blkB BK654 hb
                    have n5_ := blkB BK661 hb
                    have n6_ := blkB BK665 hb
                    have n7_ := Aside0.mk (below_step (bL HB) hb)
                    clear BK641
                    clear BK642
                    clear BK646
                    clear BK650
                    clear BK654
                    clear BK661
                    clear BK665
                    clear HB
                    have BK641 := n0_
                    have BK642 := n1_
                    have BK646 := n2_
                    have BK650 := n3_
                    have BK654 := n4_
                    have BK661 := n5_
                    have BK665 := n6_
                    have HB := n7_
                    clear n0_ n1_ n2_ n3_ n4_ n5_ n6_ n7_
                    (try clear hb)
                    (try clear hb2)
                    (try clear hk)
                    (try clear hi)
                    refine hK.out _ _ ⟨(blk_cell BK665.out 0).trans rfl, (blk_cell BK665.out 1).trans rfl, (blk_cell BK641.out 0).trans rfl, (blk_cell BK641.out 1).trans rfl, (blk_cell BK654.out 0).trans rfl, (blk_cell BK654.out 1).trans rfl, (blk_cell BK646.out 0).trans rfl, (blk_cell BK646.out 1).trans rfl⟩ (fun hHeld => ?_)
                    clear hK K
                    refine norm_ (a' := ?_) ?_ ?_
                    rotate_left
                    · show Act.put _ (some 94) _ = _
                      simp only [Act.put, List.setIfInBounds_toArray, List.set_cons_zero, List.set_cons_succ, i64_w, i32_w]
                      rfl
                    refine pure_ (i := 23) (N := some 95) (v := ?_) (a' := ?_) #[true, true, true, true, true, true, true, true, true, true, true, true, true, true, true, true, true, true, true, true, true, true, true, true, false, false, false] rfl rfl (any_of HT_.out (by kernel_rfl)) (fun _ _ _ h => h) (Or.inl ⟨by rfl, ?_⟩) ?_ ?_
                    rotate_left
                    · intro w'
                      go_simp
                      with_reducible rfl
                    rotate_left
                    · simp only [Act.put, List.setIfInBounds_toArray, List.set_cons_zero, List.set_cons_succ, i64_w, i32_w]
                      rfl
                    refine pure_ (i := 24) (N := some 96) (v := ?_) (a' := ?_) #[true, true, true, true, true, true, true, true, true, true, true, true, true, true, true, true, true, true, true, true, true, true, true, true, true, false, false] rfl rfl (any_of HT_.out (by kernel_rfl)) (fun _ _ _ h => h) (Or.inl ⟨by rfl, ?_⟩) ?_ ?_
                    rotate_left
                    · intro w'
                      go_simp
                      with_reducible rfl
                    rotate_left
                    · simp only [Act.put, List.setIfInBounds_toArray, List.set_cons_zero, List.set_cons_succ, i64_w, i32_w]
                      rfl
                    refine pure_ (i := 25) (N := some 97) (v := ?_) (a' := ?_) #[true, true, true, true, true, true, true, true, true, true, true, true, true, true, true, true, true, true, true, true, true, true, true, true, true, true, false] rfl rfl (any_of HT_.out (by kernel_rfl)) (fun _ _ _ h => h) (Or.inl ⟨by rfl, ?_⟩) ?_ ?_
                    rotate_left
                    · intro w'
                      go_simp
                      with_reducible rfl
                    rotate_left
                    · simp only [Act.put, List.setIfInBounds_toArray, List.set_cons_zero, List.set_cons_succ, i64_w, i32_w]
                      rfl
                    refine pure_ (i := 26) (N := some 98) (v := ?_) (a' := ?_) #[true, true, true, true, true, true, true, true, true, true, true, true, true, true, true, true, true, true, true, true, true, true, true, true, true, true, true] rfl rfl (any_of HT_.out (by kernel_rfl)) (fun _ _ _ h => h) (Or.inl ⟨by rfl, ?_⟩) ?_ ?_
                    rotate_left
                    · intro w'
                      go_simp
                      with_reducible rfl
                    rotate_left
                    · simp only [Act.put, List.setIfInBounds_toArray, List.set_cons_zero, List.set_cons_succ, i64_w, i32_w]
                      rfl
                    refine done_ (done_of HT_.out (by kernel_rfl)) ?_
                    try go_wp2
                    go_meet
                    case rel => exact ⟨_, (((decide (t666 < 0)) != (decide (t667 < 0)))), (by first | rfl | (simp; done) | (simp [*]; done)), H', ⟨by first | omega | exact Nat.le_refl _⟩, ⟨by (with_reducible repeat (first | refine blk_drewN ?_ _ | refine blk_drew ?_ | refine blk_alloc ?_ _)); exact BK641.out⟩, ⟨by (with_reducible repeat (first | refine blk_drewN ?_ _ | refine blk_drew ?_ | refine blk_alloc ?_ _)); exact BK642.out⟩, ⟨by (with_reducible repeat (first | refine blk_drewN ?_ _ | refine blk_drew ?_ | refine blk_alloc ?_ _)); exact BK646.out⟩, ⟨by (with_reducible repeat (first | refine blk_drewN ?_ _ | refine blk_drew ?_ | refine blk_alloc ?_ _)); exact BK650.out⟩, ⟨by (with_reducible repeat (first | refine blk_drewN ?_ _ | refine blk_drew ?_ | refine blk_alloc ?_ _)); exact BK654.out⟩, ⟨by (with_reducible repeat (first | refine blk_drewN ?_ _ | refine blk_drew ?_ | refine blk_alloc ?_ _)); exact BK661.out⟩, ⟨by (with_reducible repeat (first | refine blk_drewN ?_ _ | refine blk_drew ?_ | refine blk_alloc ?_ _)); exact BK665.out⟩, ⟨by repeat (first | (with_reducible first | exact HB.out | apply below_alloc | apply pw_below_drewN | apply below_drew1 | refine below_set ?_ GE641.out | refine below_set ?_ GE642.out | refine below_set ?_ GE646.out | refine below_set ?_ GE650.out | refine below_set ?_ GE654.out | refine below_set ?_ GE661.out | refine below_set ?_ GE665.out) | exact HB.out)⟩⟩
                  · rw [if_neg c95] at H
                    have c95b0 : (!(t651 == t644) || (!(t652 == t645))) = false := by simpa using c95
                    clear c95
                    have H' := Aside0.mk H
                    clear H
                    try go_wp2
                    have n0_ : Aside0 (((w82.setCell ⟨gb665, 0, none⟩ (.int .u64 t662)).setCell ⟨gb665, 1, none⟩ (.int .u64 t663)).heap[gb641]? = some (.cells #[.int .u64 a0_0, .int .u64 a0_1] 24 (0, 0))) := ⟨by (with_reducible repeat (first | refine blk_drewN ?_ _ | refine blk_drew ?_ | refine blk_alloc ?_ _)); refine blk_far ?_ NB641_665.out _; (with_reducible repeat (first | refine blk_drewN ?_ _ | refine blk_drew ?_ | refine blk_alloc ?_ _)); refine blk_far ?_ NB641_665.out _; (with_reducible repeat (first | refine blk_drewN ?_ _ | refine blk_drew ?_ | refine blk_alloc ?_ _)); exact BK641.out⟩
                    have n1_ : Aside0 (((w82.setCell ⟨gb665, 0, none⟩ (.int .u64 t662)).setCell ⟨gb665, 1, none⟩ (.int .u64 t663)).heap[gb642]? = some (.cells #[.int .u64 a1_0, .int .u64 a1_1] 24 (0, 0))) := ⟨by (with_reducible repeat (first | refine blk_drewN ?_ _ | refine blk_drew ?_ | refine blk_alloc ?_ _)); refine blk_far ?_ NB642_665.out _; (with_reducible repeat (first | refine blk_drewN ?_ _ | refine blk_drew ?_ | refine blk_alloc ?_ _)); refine blk_far ?_ NB642_665.out _; (with_reducible repeat (first | refine blk_drewN ?_ _ | refine blk_drew ?_ | refine blk_alloc ?_ _)); exact BK642.out⟩
                    have n2_ : Aside0 (((w82.setCell ⟨gb665, 0, none⟩ (.int .u64 t662)).setCell ⟨gb665, 1, none⟩ (.int .u64 t663)).heap[gb646]? = some (.cells #[.int .u64 t644, .int .u64 t645] 24 (0, 0))) := ⟨by (with_reducible repeat (first | refine blk_drewN ?_ _ | refine blk_drew ?_ | refine blk_alloc ?_ _)); refine blk_far ?_ NB646_665.out _; (with_reducible repeat (first | refine blk_drewN ?_ _ | refine blk_drew ?_ | refine blk_alloc ?_ _)); refine blk_far ?_ NB646_665.out _; (with_reducible repeat (first | refine blk_drewN ?_ _ | refine blk_drew ?_ | refine blk_alloc ?_ _)); exact BK646.out⟩
                    have n3_ : Aside0 (((w82.setCell ⟨gb665, 0, none⟩ (.int .u64 t662)).setCell ⟨gb665, 1, none⟩ (.int .u64 t663)).heap[gb650]? = some (.cells #[.int .u64 t647, .int .u64 t648] 24 (0, 0))) := ⟨by (with_reducible repeat (first | refine blk_drewN ?_ _ | refine blk_drew ?_ | refine blk_alloc ?_ _)); refine blk_far ?_ NB650_665.out _; (with_reducible repeat (first | refine blk_drewN ?_ _ | refine blk_drew ?_ | refine blk_alloc ?_ _)); refine blk_far ?_ NB650_665.out _; (with_reducible repeat (first | refine blk_drewN ?_ _ | refine blk_drew ?_ | refine blk_alloc ?_ _)); exact BK650.out⟩
                    have n4_ : Aside0 (((w82.setCell ⟨gb665, 0, none⟩ (.int .u64 t662)).setCell ⟨gb665, 1, none⟩ (.int .u64 t663)).heap[gb654]? = some (.cells #[.int .u64 t651, .int .u64 t652] 24 (0, 0))) := ⟨by (with_reducible repeat (first | refine blk_drewN ?_ _ | refine blk_drew ?_ | refine blk_alloc ?_ _)); refine blk_far ?_ NB654_665.out _; (with_reducible repeat (first | refine blk_drewN ?_ _ | refine blk_drew ?_ | refine blk_alloc ?_ _)); refine blk_far ?_ NB654_665.out _; (with_reducible repeat (first | refine blk_drewN ?_ _ | refine blk_drew ?_ | refine blk_alloc ?_ _)); exact BK654.out⟩
                    have n5_ : Aside0 (((w82.setCell ⟨gb665, 0, none⟩ (.int .u64 t662)).setCell ⟨gb665, 1, none⟩ (.int .u64 t663)).heap[gb661]? = some (.cells #[.int .u64 t658, .int .u64 t659] 24 (0, 0))) := ⟨by (with_reducible repeat (first | refine blk_drewN ?_ _ | refine blk_drew ?_ | refine blk_alloc ?_ _)); refine blk_far ?_ NB661_665.out _; (with_reducible repeat (first | refine blk_drewN ?_ _ | refine blk_drew ?_ | refine blk_alloc ?_ _)); refine blk_far ?_ NB661_665.out _; (with_reducible repeat (first | refine blk_drewN ?_ _ | refine blk_drew ?_ | refine blk_alloc ?_ _)); exact BK661.out⟩
                    have n6_ : Aside0 (((w82.setCell ⟨gb665, 0, none⟩ (.int .u64 t662)).setCell ⟨gb665, 1, none⟩ (.int .u64 t663)).heap[gb665]? = some (.cells #[.int .u64 t662, .int .u64 t663] 24 (0, 0))) := ⟨by (with_reducible repeat (first | refine blk_drewN ?_ _ | refine blk_drew ?_ | refine blk_alloc ?_ _)); refine blk_put (cs := #[.int .u64 t662, .int .u64 0]) ?_ 1 _ rfl; (with_reducible repeat (first | refine blk_drewN ?_ _ | refine blk_drew ?_ | refine blk_alloc ?_ _)); refine blk_put (cs := #[.int .u64 0, .int .u64 0]) ?_ 0 _ rfl; (with_reducible repeat (first | refine blk_drewN ?_ _ | refine blk_drew ?_ | refine blk_alloc ?_ _)); exact BK665.out⟩
                    have n7_ : Aside0 (Below w.heap.size w ((w82.setCell ⟨gb665, 0, none⟩ (.int .u64 t662)).setCell ⟨gb665, 1, none⟩ (.int .u64 t663))) := ⟨by repeat (first | (with_reducible first | exact HB.out | apply below_alloc | apply pw_below_drewN | apply below_drew1 | refine below_set ?_ GE641.out | refine below_set ?_ GE642.out | refine below_set ?_ GE646.out | refine below_set ?_ GE650.out | refine below_set ?_ GE654.out | refine below_set ?_ GE661.out | refine below_set ?_ GE665.out) | exact HB.out)⟩
                    (try clear BK641)
                    (try clear BK642)
                    (try clear BK646)
                    (try clear BK650)
                    (try clear BK654)
                    (try clear BK661)
                    (try clear BK665)
                    (try clear HB)
                    generalize ((w82.setCell ⟨gb665, 0, none⟩ (.int .u64 t662)).setCell ⟨gb665, 1, none⟩ (.int .u64 t663)) = w102 at n0_ n1_ n2_ n3_ n4_ n5_ n6_ n7_ ⊢
                    have BK641 := n0_
                    have BK642 := n1_
                    have BK646 := n2_
                    have BK650 := n3_
                    have BK654 := n4_
                    have BK661 := n5_
                    have BK665 := n6_
                    have HB := n7_
                    clear n0_ n1_ n2_ n3_ n4_ n5_ n6_ n7_
                    have n0_ := Aside0.mk (blk_drew BK641.out)
                    have n1_ := Aside0.mk (blk_drew BK642.out)
                    have n2_ := Aside0.mk (blk_drew BK646.out)
                    have n3_ := Aside0.mk (blk_drew BK650.out)
                    have n4_ := Aside0.mk (blk_drew BK654.out)
                    have n5_ := Aside0.mk (blk_drew BK661.out)
                    have n6_ := Aside0.mk (blk_drew BK665.out)
                    have n7_ := Aside0.mk (below_drew1 HB.out)
                    clear BK641
                    clear BK642
                    clear BK646
                    clear BK650
                    clear BK654
                    clear BK661
                    clear BK665
                    clear HB
                    have BK641 := n0_
                    have BK642 := n1_
                    have BK646 := n2_
                    have BK650 := n3_
                    have BK654 := n4_
                    have BK661 := n5_
                    have BK665 := n6_
                    have HB := n7_
                    clear n0_ n1_ n2_ n3_ n4_ n5_ n6_ n7_
                    refine start_ (n := 27) (S := fun w' => w'.cell? ⟨gb665, 0, none⟩ = some (.int .u64 t662) ∧ w'.cell? ⟨gb665, 1, none⟩ = some (.int .u64 t663) ∧ w'.cell? ⟨gb641, 0, none⟩ = some (.int .u64 a0_0) ∧ w'.cell? ⟨gb641, 1, none⟩ = some (.int .u64 a0_1) ∧ w'.cell? ⟨gb654, 0, none⟩ = some (.int .u64 t651) ∧ w'.cell? ⟨gb654, 1, none⟩ = some (.int .u64 t652) ∧ w'.cell? ⟨gb646, 0, none⟩ = some (.int .u64 t644) ∧ w'.cell? ⟨gb646, 1, none⟩ = some (.int .u64 t645)) (ds := []) #[false, false, false, false, false, false, false, false, false, false, false, false, false, false, false, false, false, false, false, false, false, false, false, false, false, false, false] (by kernel_rfl) rfl rfl ⟨(blk_cell BK665.out 0).trans rfl, (blk_cell BK665.out 1).trans rfl, (blk_cell BK641.out 0).trans rfl, (blk_cell BK641.out 1).trans rfl, (blk_cell BK654.out 0).trans rfl, (blk_cell BK654.out 1).trans rfl, (blk_cell BK646.out 0).trans rfl, (blk_cell BK646.out 1).trans rfl⟩ (fun hHeld => ?_); refine with_tabW lorgnettelaw01_WideParts.tab14 lorgnettelaw01_WideParts.bits14 (fun HT_ HW_ => ?_)
                    generalize w102.drew = w103 at BK641 BK642 BK646 BK650 BK654 BK661 BK665 HB hHeld ⊢
                    refine pure_ (i := 0) (N := some 72) (v := ?_) (a' := ?_) #[true, false, false, false, false, false, false, false, false, false, false, false, false, false, false, false, false, false, false, false, false, false, false, false, false, false, false] rfl rfl (any_of HT_.out (by kernel_rfl)) (fun _ _ _ h => h) (Or.inl ⟨by rfl, ?_⟩) ?_ ?_
                    rotate_left
                    · intro w'
                      go_simp
                      with_reducible rfl
                    rotate_left
                    · simp only [Act.put, List.setIfInBounds_toArray, List.set_cons_zero, List.set_cons_succ, i64_w, i32_w]
                      rfl
                    refine pure_ (i := 1) (N := some 73) (v := ?_) (a' := ?_) #[true, true, false, false, false, false, false, false, false, false, false, false, false, false, false, false, false, false, false, false, false, false, false, false, false, false, false] rfl rfl (any_of HT_.out (by kernel_rfl)) (fun _ _ _ h => h) (Or.inl ⟨by rfl, ?_⟩) ?_ ?_
                    rotate_left
                    · intro w'
                      go_simp
                      with_reducible rfl
                    rotate_left
                    · simp only [Act.put, List.setIfInBounds_toArray, List.set_cons_zero, List.set_cons_succ, i64_w, i32_w]
                      rfl
                    refine pure_ (i := 2) (N := some 74) (v := ?_) (a' := ?_) #[true, true, true, false, false, false, false, false, false, false, false, false, false, false, false, false, false, false, false, false, false, false, false, false, false, false, false] rfl rfl (any_of HT_.out (by kernel_rfl)) (fun _ _ _ h => h) (Or.inl ⟨by rfl, ?_⟩) ?_ ?_
                    rotate_left
                    · intro w'
                      go_simp
                      with_reducible rfl
                    rotate_left
                    · simp only [Act.put, List.setIfInBounds_toArray, List.set_cons_zero, List.set_cons_succ, i64_w, i32_w]
                      rfl
                    refine pure_ (i := 3) (N := some 75) (v := ?_) (a' := ?_) #[true, true, true, true, false, false, false, false, false, false, false, false, false, false, false, false, false, false, false, false, false, false, false, false, false, false, false] rfl rfl (any_of HT_.out (by kernel_rfl)) (fun _ _ _ h => h) (Or.inl ⟨by rfl, ?_⟩) ?_ ?_
                    rotate_left
                    · intro w'
                      go_simp
                      with_reducible rfl
                    rotate_left
                    · simp only [Act.put, List.setIfInBounds_toArray, List.set_cons_zero, List.set_cons_succ, i64_w, i32_w]
                      rfl
                    refine pure_ (i := 4) (N := some 76) (v := ?_) (a' := ?_) #[true, true, true, true, true, false, false, false, false, false, false, false, false, false, false, false, false, false, false, false, false, false, false, false, false, false, false] rfl rfl (any_of HT_.out (by kernel_rfl)) (fun _ _ _ h => h) (Or.inl ⟨by rfl, ?_⟩) ?_ ?_
                    rotate_left
                    · intro w'
                      go_simp
                      with_reducible rfl
                    rotate_left
                    · simp only [Act.put, List.setIfInBounds_toArray, List.set_cons_zero, List.set_cons_succ, i64_w, i32_w]
                      rfl
                    refine pure_ (i := 5) (N := some 77) (v := ?_) (a' := ?_) #[true, true, true, true, true, true, false, false, false, false, false, false, false, false, false, false, false, false, false, false, false, false, false, false, false, false, false] rfl rfl (any_of HT_.out (by kernel_rfl)) (fun _ _ _ h => h) (Or.inl ⟨by rfl, ?_⟩) ?_ ?_
                    rotate_left
                    · intro w'
                      go_simp
                      with_reducible rfl
                    rotate_left
                    · simp only [Act.put, List.setIfInBounds_toArray, List.set_cons_zero, List.set_cons_succ, i64_w, i32_w]
                      rfl
                    refine pure_ (i := 6) (N := some 78) (v := ?_) (a' := ?_) #[true, true, true, true, true, true, true, false, false, false, false, false, false, false, false, false, false, false, false, false, false, false, false, false, false, false, false] rfl rfl (any_of HT_.out (by kernel_rfl)) (fun _ _ _ h => h) (Or.inl ⟨by rfl, ?_⟩) ?_ ?_
                    rotate_left
                    · intro w'
                      go_simp
                      with_reducible rfl
                    rotate_left
                    · simp only [Act.put, List.setIfInBounds_toArray, List.set_cons_zero, List.set_cons_succ, i64_w, i32_w]
                      rfl
                    refine take_ (i := 7) (N := some 79) (v := ?_) (a' := ?_) #[true, true, true, true, true, true, true, true, false, false, false, false, false, false, false, false, false, false, false, false, false, false, false, false, false, false, false] rfl rfl (take_ofW HT_.out HW_.out (by kernel_rfl)) (fun _ _ _ h => h) (Or.inl ⟨by rfl, ?_⟩) hHeld ?_ ?_
                    rotate_left
                    · rintro w' ⟨s0, s1, s2, s3, s4, s5, s6, s7⟩
                      go_simp
                      with_reducible rfl
                    rotate_left
                    · simp only [Act.put, List.setIfInBounds_toArray, List.set_cons_zero, List.set_cons_succ, i64_w, i32_w]
                      rfl
                    refine take_ (i := 8) (N := some 80) (v := ?_) (a' := ?_) #[true, true, true, true, true, true, true, true, true, false, false, false, false, false, false, false, false, false, false, false, false, false, false, false, false, false, false] rfl rfl (take_ofW HT_.out HW_.out (by kernel_rfl)) (fun _ _ _ h => h) (Or.inl ⟨by rfl, ?_⟩) hHeld ?_ ?_
                    rotate_left
                    · rintro w' ⟨s0, s1, s2, s3, s4, s5, s6, s7⟩
                      go_simp
                      with_reducible rfl
                    rotate_left
                    · simp only [Act.put, List.setIfInBounds_toArray, List.set_cons_zero, List.set_cons_succ, i64_w, i32_w]
                      rfl
                    refine pure_ (i := 9) (N := some 81) (v := ?_) (a' := ?_) #[true, true, true, true, true, true, true, true, true, true, false, false, false, false, false, false, false, false, false, false, false, false, false, false, false, false, false] rfl rfl (any_of HT_.out (by kernel_rfl)) (fun _ _ _ h => h) (Or.inl ⟨by rfl, ?_⟩) ?_ ?_
                    rotate_left
                    · intro w'
                      go_simp
                      with_reducible rfl
                    rotate_left
                    · simp only [Act.put, List.setIfInBounds_toArray, List.set_cons_zero, List.set_cons_succ, i64_w, i32_w]
                      rfl
                    refine pure_ (i := 10) (N := some 82) (v := ?_) (a' := ?_) #[true, true, true, true, true, true, true, true, true, true, true, false, false, false, false, false, false, false, false, false, false, false, false, false, false, false, false] rfl rfl (any_of HT_.out (by kernel_rfl)) (fun _ _ _ h => h) (Or.inl ⟨by rfl, ?_⟩) ?_ ?_
                    rotate_left
                    · intro w'
                      go_simp
                      with_reducible rfl
                    rotate_left
                    · simp only [Act.put, List.setIfInBounds_toArray, List.set_cons_zero, List.set_cons_succ, i64_w, i32_w]
                      rfl
                    refine pure_ (i := 11) (N := some 83) (v := ?_) (a' := ?_) #[true, true, true, true, true, true, true, true, true, true, true, true, false, false, false, false, false, false, false, false, false, false, false, false, false, false, false] rfl rfl (any_of HT_.out (by kernel_rfl)) (fun _ _ _ h => h) (Or.inl ⟨by rfl, ?_⟩) ?_ ?_
                    rotate_left
                    · intro w'
                      go_simp
                      with_reducible rfl
                    rotate_left
                    · simp only [Act.put, List.setIfInBounds_toArray, List.set_cons_zero, List.set_cons_succ, i64_w, i32_w]
                      rfl
                    refine take_ (i := 12) (N := some 84) (v := ?_) (a' := ?_) #[true, true, true, true, true, true, true, true, true, true, true, true, true, false, false, false, false, false, false, false, false, false, false, false, false, false, false] rfl rfl (take_ofW HT_.out HW_.out (by kernel_rfl)) (fun _ _ _ h => h) (Or.inl ⟨by rfl, ?_⟩) hHeld ?_ ?_
                    rotate_left
                    · rintro w' ⟨s0, s1, s2, s3, s4, s5, s6, s7⟩
                      go_simp
                      with_reducible rfl
                    rotate_left
                    · simp only [Act.put, List.setIfInBounds_toArray, List.set_cons_zero, List.set_cons_succ, i64_w, i32_w]
                      rfl
                    refine take_ (i := 13) (N := some 85) (v := ?_) (a' := ?_) #[true, true, true, true, true, true, true, true, true, true, true, true, true, true, false, false, false, false, false, false, false, false, false, false, false, false, false] rfl rfl (take_ofW HT_.out HW_.out (by kernel_rfl)) (fun _ _ _ h => h) (Or.inl ⟨by rfl, ?_⟩) hHeld ?_ ?_
                    rotate_left
                    · rintro w' ⟨s0, s1, s2, s3, s4, s5, s6, s7⟩
                      go_simp
                      with_reducible rfl
                    rotate_left
                    · simp only [Act.put, List.setIfInBounds_toArray, List.set_cons_zero, List.set_cons_succ, i64_w, i32_w]
                      rfl
                    refine pure_ (i := 14) (N := some 86) (v := ?_) (a' := ?_) #[true, true, true, true, true, true, true, true, true, true, true, true, true, true, true, false, false, false, false, false, false, false, false, false, false, false, false] rfl rfl (any_of HT_.out (by kernel_rfl)) (fun _ _ _ h => h) (Or.inl ⟨by rfl, ?_⟩) ?_ ?_
                    rotate_left
                    · intro w'
                      go_simp
                      with_reducible rfl
                    rotate_left
                    · simp only [Act.put, List.setIfInBounds_toArray, List.set_cons_zero, List.set_cons_succ, i64_w, i32_w]
                      rfl
                    refine pure_ (i := 15) (N := some 87) (v := ?_) (a' := ?_) #[true, true, true, true, true, true, true, true, true, true, true, true, true, true, true, true, false, false, false, false, false, false, false, false, false, false, false] rfl rfl (any_of HT_.out (by kernel_rfl)) (fun _ _ _ h => h) (Or.inl ⟨by rfl, ?_⟩) ?_ ?_
                    rotate_left
                    · intro w'
                      go_simp
                      with_reducible rfl
                    rotate_left
                    · simp only [Act.put, List.setIfInBounds_toArray, List.set_cons_zero, List.set_cons_succ, i64_w, i32_w]
                      rfl
                    refine pure_ (i := 16) (N := some 88) (v := undef) (a' := ?_) #[true, true, true, true, true, true, true, true, true, true, true, true, true, true, true, true, true, false, false, false, false, false, false, false, false, false, false] rfl rfl (any_of HT_.out (by kernel_rfl)) (fun _ _ _ h => h) (Or.inr ⟨by rfl, rfl⟩) ?_ ?_
                    rotate_left
                    · simp only [Act.put, List.setIfInBounds_toArray, List.set_cons_zero, List.set_cons_succ, i64_w, i32_w]
                      rfl
                    refine pure_ (i := 17) (N := some 89) (v := undef) (a' := ?_) #[true, true, true, true, true, true, true, true, true, true, true, true, true, true, true, true, true, true, false, false, false, false, false, false, false, false, false] rfl rfl (any_of HT_.out (by kernel_rfl)) (fun _ _ _ h => h) (Or.inr ⟨by rfl, rfl⟩) ?_ ?_
                    rotate_left
                    · simp only [Act.put, List.setIfInBounds_toArray, List.set_cons_zero, List.set_cons_succ, i64_w, i32_w]
                      rfl
                    refine pure_ (i := 18) (N := some 90) (v := undef) (a' := ?_) #[true, true, true, true, true, true, true, true, true, true, true, true, true, true, true, true, true, true, true, false, false, false, false, false, false, false, false] rfl rfl (any_of HT_.out (by kernel_rfl)) (fun _ _ _ h => h) (Or.inr ⟨by rfl, rfl⟩) ?_ ?_
                    rotate_left
                    · simp only [Act.put, List.setIfInBounds_toArray, List.set_cons_zero, List.set_cons_succ, i64_w, i32_w]
                      rfl
                    refine pure_ (i := 19) (N := some 91) (v := undef) (a' := ?_) #[true, true, true, true, true, true, true, true, true, true, true, true, true, true, true, true, true, true, true, true, false, false, false, false, false, false, false] rfl rfl (any_of HT_.out (by kernel_rfl)) (fun _ _ _ h => h) (Or.inr ⟨by rfl, rfl⟩) ?_ ?_
                    rotate_left
                    · simp only [Act.put, List.setIfInBounds_toArray, List.set_cons_zero, List.set_cons_succ, i64_w, i32_w]
                      rfl
                    refine pure_ (i := 20) (N := some 92) (v := undef) (a' := ?_) #[true, true, true, true, true, true, true, true, true, true, true, true, true, true, true, true, true, true, true, true, true, false, false, false, false, false, false] rfl rfl (any_of HT_.out (by kernel_rfl)) (fun _ _ _ h => h) (Or.inr ⟨by rfl, rfl⟩) ?_ ?_
                    rotate_left
                    · simp only [Act.put, List.setIfInBounds_toArray, List.set_cons_zero, List.set_cons_succ, i64_w, i32_w]
                      rfl
                    refine pure_ (i := 21) (N := some 93) (v := undef) (a' := ?_) #[true, true, true, true, true, true, true, true, true, true, true, true, true, true, true, true, true, true, true, true, true, true, false, false, false, false, false] rfl rfl (any_of HT_.out (by kernel_rfl)) (fun _ _ _ h => h) (Or.inr ⟨by rfl, rfl⟩) ?_ ?_
                    rotate_left
                    · simp only [Act.put, List.setIfInBounds_toArray, List.set_cons_zero, List.set_cons_succ, i64_w, i32_w]
                      rfl
                    refine pure_ (i := 22) (N := some 94) (v := undef) (a' := ?_) #[true, true, true, true, true, true, true, true, true, true, true, true, true, true, true, true, true, true, true, true, true, true, true, false, false, false, false] rfl rfl (any_of HT_.out (by kernel_rfl)) (fun _ _ _ h => h) (Or.inr ⟨by rfl, rfl⟩) ?_ ?_
                    rotate_left
                    · simp only [Act.put, List.setIfInBounds_toArray, List.set_cons_zero, List.set_cons_succ, i64_w, i32_w]
                      rfl
                    refine pure_ (i := 23) (N := some 95) (v := undef) (a' := ?_) #[true, true, true, true, true, true, true, true, true, true, true, true, true, true, true, true, true, true, true, true, true, true, true, true, false, false, false] rfl rfl (any_of HT_.out (by kernel_rfl)) (fun _ _ _ h => h) (Or.inr ⟨by rfl, rfl⟩) ?_ ?_
                    rotate_left
                    · simp only [Act.put, List.setIfInBounds_toArray, List.set_cons_zero, List.set_cons_succ, i64_w, i32_w]
                      rfl
                    refine pure_ (i := 24) (N := some 96) (v := undef) (a' := ?_) #[true, true, true, true, true, true, true, true, true, true, true, true, true, true, true, true, true, true, true, true, true, true, true, true, true, false, false] rfl rfl (any_of HT_.out (by kernel_rfl)) (fun _ _ _ h => h) (Or.inr ⟨by rfl, rfl⟩) ?_ ?_
                    rotate_left
                    · simp only [Act.put, List.setIfInBounds_toArray, List.set_cons_zero, List.set_cons_succ, i64_w, i32_w]
                      rfl
                    refine pure_ (i := 25) (N := some 97) (v := ?_) (a' := ?_) #[true, true, true, true, true, true, true, true, true, true, true, true, true, true, true, true, true, true, true, true, true, true, true, true, true, true, false] rfl rfl (any_of HT_.out (by kernel_rfl)) (fun _ _ _ h => h) (Or.inl ⟨by rfl, ?_⟩) ?_ ?_
                    rotate_left
                    · intro w'
                      go_simp
                      with_reducible rfl
                    rotate_left
                    · simp only [Act.put, List.setIfInBounds_toArray, List.set_cons_zero, List.set_cons_succ, i64_w, i32_w]
                      rfl
                    refine pure_ (i := 26) (N := some 98) (v := ?_) (a' := ?_) #[true, true, true, true, true, true, true, true, true, true, true, true, true, true, true, true, true, true, true, true, true, true, true, true, true, true, true] rfl rfl (any_of HT_.out (by kernel_rfl)) (fun _ _ _ h => h) (Or.inl ⟨by rfl, ?_⟩) ?_ ?_
                    rotate_left
                    · intro w'
                      go_simp
                      with_reducible rfl
                    rotate_left
                    · simp only [Act.put, List.setIfInBounds_toArray, List.set_cons_zero, List.set_cons_succ, i64_w, i32_w]
                      rfl
                    refine done_ (done_of HT_.out (by kernel_rfl)) ?_
                    try go_wp2
                    go_meet
                    case rel => exact ⟨_, (false), (by first | rfl | (simp; done) | (simp [*]; done)), H', ⟨by first | omega | exact Nat.le_refl _⟩, ⟨by (with_reducible repeat (first | refine blk_drewN ?_ _ | refine blk_drew ?_ | refine blk_alloc ?_ _)); exact BK641.out⟩, ⟨by (with_reducible repeat (first | refine blk_drewN ?_ _ | refine blk_drew ?_ | refine blk_alloc ?_ _)); exact BK642.out⟩, ⟨by (with_reducible repeat (first | refine blk_drewN ?_ _ | refine blk_drew ?_ | refine blk_alloc ?_ _)); exact BK646.out⟩, ⟨by (with_reducible repeat (first | refine blk_drewN ?_ _ | refine blk_drew ?_ | refine blk_alloc ?_ _)); exact BK650.out⟩, ⟨by (with_reducible repeat (first | refine blk_drewN ?_ _ | refine blk_drew ?_ | refine blk_alloc ?_ _)); exact BK654.out⟩, ⟨by (with_reducible repeat (first | refine blk_drewN ?_ _ | refine blk_drew ?_ | refine blk_alloc ?_ _)); exact BK661.out⟩, ⟨by (with_reducible repeat (first | refine blk_drewN ?_ _ | refine blk_drew ?_ | refine blk_alloc ?_ _)); exact BK665.out⟩, ⟨by repeat (first | (with_reducible first | exact HB.out | apply below_alloc | apply pw_below_drewN | apply below_drew1 | refine below_set ?_ GE641.out | refine below_set ?_ GE642.out | refine below_set ?_ GE646.out | refine below_set ?_ GE650.out | refine below_set ?_ GE654.out | refine below_set ?_ GE661.out | refine below_set ?_ GE665.out) | exact HB.out)⟩⟩
              · rw [if_neg c91] at H
                have c91b0 : (t664 == 0) = false := beq_eq_false_iff_ne.mpr c91
                have c91b1 : (t664 != 0) = true := bne_iff_ne.mpr c91
                have H' := Aside0.mk H
                clear H
                try go_wp2
                have n0_ : Aside0 (((w82.setCell ⟨gb665, 0, none⟩ (.int .u64 t662)).setCell ⟨gb665, 1, none⟩ (.int .u64 t663)).heap[gb641]? = some (.cells #[.int .u64 a0_0, .int .u64 a0_1] 24 (0, 0))) := ⟨by (with_reducible repeat (first | refine blk_drewN ?_ _ | refine blk_drew ?_ | refine blk_alloc ?_ _)); refine blk_far ?_ NB641_665.out _; (with_reducible repeat (first | refine blk_drewN ?_ _ | refine blk_drew ?_ | refine blk_alloc ?_ _)); refine blk_far ?_ NB641_665.out _; (with_reducible repeat (first | refine blk_drewN ?_ _ | refine blk_drew ?_ | refine blk_alloc ?_ _)); exact BK641.out⟩
                have n1_ : Aside0 (((w82.setCell ⟨gb665, 0, none⟩ (.int .u64 t662)).setCell ⟨gb665, 1, none⟩ (.int .u64 t663)).heap[gb642]? = some (.cells #[.int .u64 a1_0, .int .u64 a1_1] 24 (0, 0))) := ⟨by (with_reducible repeat (first | refine blk_drewN ?_ _ | refine blk_drew ?_ | refine blk_alloc ?_ _)); refine blk_far ?_ NB642_665.out _; (with_reducible repeat (first | refine blk_drewN ?_ _ | refine blk_drew ?_ | refine blk_alloc ?_ _)); refine blk_far ?_ NB642_665.out _; (with_reducible repeat (first | refine blk_drewN ?_ _ | refine blk_drew ?_ | refine blk_alloc ?_ _)); exact BK642.out⟩
                have n2_ : Aside0 (((w82.setCell ⟨gb665, 0, none⟩ (.int .u64 t662)).setCell ⟨gb665, 1, none⟩ (.int .u64 t663)).heap[gb646]? = some (.cells #[.int .u64 t644, .int .u64 t645] 24 (0, 0))) := ⟨by (with_reducible repeat (first | refine blk_drewN ?_ _ | refine blk_drew ?_ | refine blk_alloc ?_ _)); refine blk_far ?_ NB646_665.out _; (with_reducible repeat (first | refine blk_drewN ?_ _ | refine blk_drew ?_ | refine blk_alloc ?_ _)); refine blk_far ?_ NB646_665.out _; (with_reducible repeat (first | refine blk_drewN ?_ _ | refine blk_drew ?_ | refine blk_alloc ?_ _)); exact BK646.out⟩
                have n3_ : Aside0 (((w82.setCell ⟨gb665, 0, none⟩ (.int .u64 t662)).setCell ⟨gb665, 1, none⟩ (.int .u64 t663)).heap[gb650]? = some (.cells #[.int .u64 t647, .int .u64 t648] 24 (0, 0))) := ⟨by (with_reducible repeat (first | refine blk_drewN ?_ _ | refine blk_drew ?_ | refine blk_alloc ?_ _)); refine blk_far ?_ NB650_665.out _; (with_reducible repeat (first | refine blk_drewN ?_ _ | refine blk_drew ?_ | refine blk_alloc ?_ _)); refine blk_far ?_ NB650_665.out _; (with_reducible repeat (first | refine blk_drewN ?_ _ | refine blk_drew ?_ | refine blk_alloc ?_ _)); exact BK650.out⟩
                have n4_ : Aside0 (((w82.setCell ⟨gb665, 0, none⟩ (.int .u64 t662)).setCell ⟨gb665, 1, none⟩ (.int .u64 t663)).heap[gb654]? = some (.cells #[.int .u64 t651, .int .u64 t652] 24 (0, 0))) := ⟨by (with_reducible repeat (first | refine blk_drewN ?_ _ | refine blk_drew ?_ | refine blk_alloc ?_ _)); refine blk_far ?_ NB654_665.out _; (with_reducible repeat (first | refine blk_drewN ?_ _ | refine blk_drew ?_ | refine blk_alloc ?_ _)); refine blk_far ?_ NB654_665.out _; (with_reducible repeat (first | refine blk_drewN ?_ _ | refine blk_drew ?_ | refine blk_alloc ?_ _)); exact BK654.out⟩
                have n5_ : Aside0 (((w82.setCell ⟨gb665, 0, none⟩ (.int .u64 t662)).setCell ⟨gb665, 1, none⟩ (.int .u64 t663)).heap[gb661]? = some (.cells #[.int .u64 t658, .int .u64 t659] 24 (0, 0))) := ⟨by (with_reducible repeat (first | refine blk_drewN ?_ _ | refine blk_drew ?_ | refine blk_alloc ?_ _)); refine blk_far ?_ NB661_665.out _; (with_reducible repeat (first | refine blk_drewN ?_ _ | refine blk_drew ?_ | refine blk_alloc ?_ _)); refine blk_far ?_ NB661_665.out _; (with_reducible repeat (first | refine blk_drewN ?_ _ | refine blk_drew ?_ | refine blk_alloc ?_ _)); exact BK661.out⟩
                have n6_ : Aside0 (((w82.setCell ⟨gb665, 0, none⟩ (.int .u64 t662)).setCell ⟨gb665, 1, none⟩ (.int .u64 t663)).heap[gb665]? = some (.cells #[.int .u64 t662, .int .u64 t663] 24 (0, 0))) := ⟨by (with_reducible repeat (first | refine blk_drewN ?_ _ | refine blk_drew ?_ | refine blk_alloc ?_ _)); refine blk_put (cs := #[.int .u64 t662, .int .u64 0]) ?_ 1 _ rfl; (with_reducible repeat (first | refine blk_drewN ?_ _ | refine blk_drew ?_ | refine blk_alloc ?_ _)); refine blk_put (cs := #[.int .u64 0, .int .u64 0]) ?_ 0 _ rfl; (with_reducible repeat (first | refine blk_drewN ?_ _ | refine blk_drew ?_ | refine blk_alloc ?_ _)); exact BK665.out⟩
                have n7_ : Aside0 (Below w.heap.size w ((w82.setCell ⟨gb665, 0, none⟩ (.int .u64 t662)).setCell ⟨gb665, 1, none⟩ (.int .u64 t663))) := ⟨by repeat (first | (with_reducible first | exact HB.out | apply below_alloc | apply pw_below_drewN | apply below_drew1 | refine below_set ?_ GE641.out | refine below_set ?_ GE642.out | refine below_set ?_ GE646.out | refine below_set ?_ GE650.out | refine below_set ?_ GE654.out | refine below_set ?_ GE661.out | refine below_set ?_ GE665.out) | exact HB.out)⟩
                (try clear BK641)
                (try clear BK642)
                (try clear BK646)
                (try clear BK650)
                (try clear BK654)
                (try clear BK661)
                (try clear BK665)
                (try clear HB)
                generalize ((w82.setCell ⟨gb665, 0, none⟩ (.int .u64 t662)).setCell ⟨gb665, 1, none⟩ (.int .u64 t663)) = w104 at n0_ n1_ n2_ n3_ n4_ n5_ n6_ n7_ ⊢
                have BK641 := n0_
                have BK642 := n1_
                have BK646 := n2_
                have BK650 := n3_
                have BK654 := n4_
                have BK661 := n5_
                have BK665 := n6_
                have HB := n7_
                clear n0_ n1_ n2_ n3_ n4_ n5_ n6_ n7_
                have n0_ := Aside0.mk (blk_drew BK641.out)
                have n1_ := Aside0.mk (blk_drew BK642.out)
                have n2_ := Aside0.mk (blk_drew BK646.out)
                have n3_ := Aside0.mk (blk_drew BK650.out)
                have n4_ := Aside0.mk (blk_drew BK654.out)
                have n5_ := Aside0.mk (blk_drew BK661.out)
                have n6_ := Aside0.mk (blk_drew BK665.out)
                have n7_ := Aside0.mk (below_drew1 HB.out)
                clear BK641
                clear BK642
                clear BK646
                clear BK650
                clear BK654
                clear BK661
                clear BK665
                clear HB
                have BK641 := n0_
                have BK642 := n1_
                have BK646 := n2_
                have BK650 := n3_
                have BK654 := n4_
                have BK661 := n5_
                have BK665 := n6_
                have HB := n7_
                clear n0_ n1_ n2_ n3_ n4_ n5_ n6_ n7_
                refine start_ (n := 27) (S := fun w' => True) (ds := []) #[false, false, false, false, false, false, false, false, false, false, false, false, false, false, false, false, false, false, false, false, false, false, false, false, false, false, false] (by kernel_rfl) rfl rfl trivial (fun hHeld => ?_); refine with_tabW lorgnettelaw01_WideParts.tab14 lorgnettelaw01_WideParts.bits14 (fun HT_ HW_ => ?_)
                generalize w104.drew = w105 at BK641 BK642 BK646 BK650 BK654 BK661 BK665 HB hHeld ⊢
                refine pure_ (i := 0) (N := some 72) (v := ?_) (a' := ?_) #[true, false, false, false, false, false, false, false, false, false, false, false, false, false, false, false, false, false, false, false, false, false, false, false, false, false, false] rfl rfl (any_of HT_.out (by kernel_rfl)) (fun _ _ _ h => h) (Or.inl ⟨by rfl, ?_⟩) ?_ ?_
                rotate_left
                · intro w'
                  go_simp
                  with_reducible rfl
                rotate_left
                · simp only [Act.put, List.setIfInBounds_toArray, List.set_cons_zero, List.set_cons_succ, i64_w, i32_w]
                  rfl
                refine pure_ (i := 1) (N := some 73) (v := ?_) (a' := ?_) #[true, true, false, false, false, false, false, false, false, false, false, false, false, false, false, false, false, false, false, false, false, false, false, false, false, false, false] rfl rfl (any_of HT_.out (by kernel_rfl)) (fun _ _ _ h => h) (Or.inl ⟨by rfl, ?_⟩) ?_ ?_
                rotate_left
                · intro w'
                  go_simp
                  with_reducible rfl
                rotate_left
                · simp only [Act.put, List.setIfInBounds_toArray, List.set_cons_zero, List.set_cons_succ, i64_w, i32_w]
                  rfl
                refine pure_ (i := 2) (N := some 74) (v := ?_) (a' := ?_) #[true, true, true, false, false, false, false, false, false, false, false, false, false, false, false, false, false, false, false, false, false, false, false, false, false, false, false] rfl rfl (any_of HT_.out (by kernel_rfl)) (fun _ _ _ h => h) (Or.inl ⟨by rfl, ?_⟩) ?_ ?_
                rotate_left
                · intro w'
                  go_simp
                  with_reducible rfl
                rotate_left
                · simp only [Act.put, List.setIfInBounds_toArray, List.set_cons_zero, List.set_cons_succ, i64_w, i32_w]
                  rfl
                refine pure_ (i := 3) (N := some 75) (v := ?_) (a' := ?_) #[true, true, true, true, false, false, false, false, false, false, false, false, false, false, false, false, false, false, false, false, false, false, false, false, false, false, false] rfl rfl (any_of HT_.out (by kernel_rfl)) (fun _ _ _ h => h) (Or.inl ⟨by rfl, ?_⟩) ?_ ?_
                rotate_left
                · intro w'
                  go_simp
                  with_reducible rfl
                rotate_left
                · simp only [Act.put, List.setIfInBounds_toArray, List.set_cons_zero, List.set_cons_succ, i64_w, i32_w]
                  rfl
                refine pure_ (i := 4) (N := some 76) (v := ?_) (a' := ?_) #[true, true, true, true, true, false, false, false, false, false, false, false, false, false, false, false, false, false, false, false, false, false, false, false, false, false, false] rfl rfl (any_of HT_.out (by kernel_rfl)) (fun _ _ _ h => h) (Or.inl ⟨by rfl, ?_⟩) ?_ ?_
                rotate_left
                · intro w'
                  go_simp
                  with_reducible rfl
                rotate_left
                · simp only [Act.put, List.setIfInBounds_toArray, List.set_cons_zero, List.set_cons_succ, i64_w, i32_w]
                  rfl
                refine pure_ (i := 5) (N := some 77) (v := ?_) (a' := ?_) #[true, true, true, true, true, true, false, false, false, false, false, false, false, false, false, false, false, false, false, false, false, false, false, false, false, false, false] rfl rfl (any_of HT_.out (by kernel_rfl)) (fun _ _ _ h => h) (Or.inl ⟨by rfl, ?_⟩) ?_ ?_
                rotate_left
                · intro w'
                  go_simp
                  with_reducible rfl
                rotate_left
                · simp only [Act.put, List.setIfInBounds_toArray, List.set_cons_zero, List.set_cons_succ, i64_w, i32_w]
                  rfl
                refine pure_ (i := 6) (N := some 78) (v := ?_) (a' := ?_) #[true, true, true, true, true, true, true, false, false, false, false, false, false, false, false, false, false, false, false, false, false, false, false, false, false, false, false] rfl rfl (any_of HT_.out (by kernel_rfl)) (fun _ _ _ h => h) (Or.inl ⟨by rfl, ?_⟩) ?_ ?_
                rotate_left
                · intro w'
                  go_simp
                  with_reducible rfl
                rotate_left
                · simp only [Act.put, List.setIfInBounds_toArray, List.set_cons_zero, List.set_cons_succ, i64_w, i32_w]
                  rfl
                refine pure_ (i := 7) (N := some 79) (v := undef) (a' := ?_) #[true, true, true, true, true, true, true, true, false, false, false, false, false, false, false, false, false, false, false, false, false, false, false, false, false, false, false] rfl rfl (any_of HT_.out (by kernel_rfl)) (fun _ _ _ h => h) (Or.inr ⟨by rfl, rfl⟩) ?_ ?_
                rotate_left
                · simp only [Act.put, List.setIfInBounds_toArray, List.set_cons_zero, List.set_cons_succ, i64_w, i32_w]
                  rfl
                refine pure_ (i := 8) (N := some 80) (v := undef) (a' := ?_) #[true, true, true, true, true, true, true, true, true, false, false, false, false, false, false, false, false, false, false, false, false, false, false, false, false, false, false] rfl rfl (any_of HT_.out (by kernel_rfl)) (fun _ _ _ h => h) (Or.inr ⟨by rfl, rfl⟩) ?_ ?_
                rotate_left
                · simp only [Act.put, List.setIfInBounds_toArray, List.set_cons_zero, List.set_cons_succ, i64_w, i32_w]
                  rfl
                refine pure_ (i := 9) (N := some 81) (v := undef) (a' := ?_) #[true, true, true, true, true, true, true, true, true, true, false, false, false, false, false, false, false, false, false, false, false, false, false, false, false, false, false] rfl rfl (any_of HT_.out (by kernel_rfl)) (fun _ _ _ h => h) (Or.inr ⟨by rfl, rfl⟩) ?_ ?_
                rotate_left
                · simp only [Act.put, List.setIfInBounds_toArray, List.set_cons_zero, List.set_cons_succ, i64_w, i32_w]
                  rfl
                refine pure_ (i := 10) (N := some 82) (v := ?_) (a' := ?_) #[true, true, true, true, true, true, true, true, true, true, true, false, false, false, false, false, false, false, false, false, false, false, false, false, false, false, false] rfl rfl (any_of HT_.out (by kernel_rfl)) (fun _ _ _ h => h) (Or.inl ⟨by rfl, ?_⟩) ?_ ?_
                rotate_left
                · intro w'
                  go_simp
                  with_reducible rfl
                rotate_left
                · simp only [Act.put, List.setIfInBounds_toArray, List.set_cons_zero, List.set_cons_succ, i64_w, i32_w]
                  rfl
                refine pure_ (i := 11) (N := some 83) (v := ?_) (a' := ?_) #[true, true, true, true, true, true, true, true, true, true, true, true, false, false, false, false, false, false, false, false, false, false, false, false, false, false, false] rfl rfl (any_of HT_.out (by kernel_rfl)) (fun _ _ _ h => h) (Or.inl ⟨by rfl, ?_⟩) ?_ ?_
                rotate_left
                · intro w'
                  go_simp
                  with_reducible rfl
                rotate_left
                · simp only [Act.put, List.setIfInBounds_toArray, List.set_cons_zero, List.set_cons_succ, i64_w, i32_w]
                  rfl
                refine pure_ (i := 12) (N := some 84) (v := undef) (a' := ?_) #[true, true, true, true, true, true, true, true, true, true, true, true, true, false, false, false, false, false, false, false, false, false, false, false, false, false, false] rfl rfl (any_of HT_.out (by kernel_rfl)) (fun _ _ _ h => h) (Or.inr ⟨by rfl, rfl⟩) ?_ ?_
                rotate_left
                · simp only [Act.put, List.setIfInBounds_toArray, List.set_cons_zero, List.set_cons_succ, i64_w, i32_w]
                  rfl
                refine pure_ (i := 13) (N := some 85) (v := undef) (a' := ?_) #[true, true, true, true, true, true, true, true, true, true, true, true, true, true, false, false, false, false, false, false, false, false, false, false, false, false, false] rfl rfl (any_of HT_.out (by kernel_rfl)) (fun _ _ _ h => h) (Or.inr ⟨by rfl, rfl⟩) ?_ ?_
                rotate_left
                · simp only [Act.put, List.setIfInBounds_toArray, List.set_cons_zero, List.set_cons_succ, i64_w, i32_w]
                  rfl
                refine pure_ (i := 14) (N := some 86) (v := undef) (a' := ?_) #[true, true, true, true, true, true, true, true, true, true, true, true, true, true, true, false, false, false, false, false, false, false, false, false, false, false, false] rfl rfl (any_of HT_.out (by kernel_rfl)) (fun _ _ _ h => h) (Or.inr ⟨by rfl, rfl⟩) ?_ ?_
                rotate_left
                · simp only [Act.put, List.setIfInBounds_toArray, List.set_cons_zero, List.set_cons_succ, i64_w, i32_w]
                  rfl
                refine pure_ (i := 15) (N := some 87) (v := undef) (a' := ?_) #[true, true, true, true, true, true, true, true, true, true, true, true, true, true, true, true, false, false, false, false, false, false, false, false, false, false, false] rfl rfl (any_of HT_.out (by kernel_rfl)) (fun _ _ _ h => h) (Or.inr ⟨by rfl, rfl⟩) ?_ ?_
                rotate_left
                · simp only [Act.put, List.setIfInBounds_toArray, List.set_cons_zero, List.set_cons_succ, i64_w, i32_w]
                  rfl
                refine pure_ (i := 16) (N := some 88) (v := undef) (a' := ?_) #[true, true, true, true, true, true, true, true, true, true, true, true, true, true, true, true, true, false, false, false, false, false, false, false, false, false, false] rfl rfl (any_of HT_.out (by kernel_rfl)) (fun _ _ _ h => h) (Or.inr ⟨by rfl, rfl⟩) ?_ ?_
                rotate_left
                · simp only [Act.put, List.setIfInBounds_toArray, List.set_cons_zero, List.set_cons_succ, i64_w, i32_w]
                  rfl
                refine pure_ (i := 17) (N := some 89) (v := undef) (a' := ?_) #[true, true, true, true, true, true, true, true, true, true, true, true, true, true, true, true, true, true, false, false, false, false, false, false, false, false, false] rfl rfl (any_of HT_.out (by kernel_rfl)) (fun _ _ _ h => h) (Or.inr ⟨by rfl, rfl⟩) ?_ ?_
                rotate_left
                · simp only [Act.put, List.setIfInBounds_toArray, List.set_cons_zero, List.set_cons_succ, i64_w, i32_w]
                  rfl
                refine pure_ (i := 18) (N := some 90) (v := undef) (a' := ?_) #[true, true, true, true, true, true, true, true, true, true, true, true, true, true, true, true, true, true, true, false, false, false, false, false, false, false, false] rfl rfl (any_of HT_.out (by kernel_rfl)) (fun _ _ _ h => h) (Or.inr ⟨by rfl, rfl⟩) ?_ ?_
                rotate_left
                · simp only [Act.put, List.setIfInBounds_toArray, List.set_cons_zero, List.set_cons_succ, i64_w, i32_w]
                  rfl
                refine pure_ (i := 19) (N := some 91) (v := undef) (a' := ?_) #[true, true, true, true, true, true, true, true, true, true, true, true, true, true, true, true, true, true, true, true, false, false, false, false, false, false, false] rfl rfl (any_of HT_.out (by kernel_rfl)) (fun _ _ _ h => h) (Or.inr ⟨by rfl, rfl⟩) ?_ ?_
                rotate_left
                · simp only [Act.put, List.setIfInBounds_toArray, List.set_cons_zero, List.set_cons_succ, i64_w, i32_w]
                  rfl
                refine pure_ (i := 20) (N := some 92) (v := undef) (a' := ?_) #[true, true, true, true, true, true, true, true, true, true, true, true, true, true, true, true, true, true, true, true, true, false, false, false, false, false, false] rfl rfl (any_of HT_.out (by kernel_rfl)) (fun _ _ _ h => h) (Or.inr ⟨by rfl, rfl⟩) ?_ ?_
                rotate_left
                · simp only [Act.put, List.setIfInBounds_toArray, List.set_cons_zero, List.set_cons_succ, i64_w, i32_w]
                  rfl
                refine pure_ (i := 21) (N := some 93) (v := undef) (a' := ?_) #[true, true, true, true, true, true, true, true, true, true, true, true, true, true, true, true, true, true, true, true, true, true, false, false, false, false, false] rfl rfl (any_of HT_.out (by kernel_rfl)) (fun _ _ _ h => h) (Or.inr ⟨by rfl, rfl⟩) ?_ ?_
                rotate_left
                · simp only [Act.put, List.setIfInBounds_toArray, List.set_cons_zero, List.set_cons_succ, i64_w, i32_w]
                  rfl
                refine pure_ (i := 22) (N := some 94) (v := undef) (a' := ?_) #[true, true, true, true, true, true, true, true, true, true, true, true, true, true, true, true, true, true, true, true, true, true, true, false, false, false, false] rfl rfl (any_of HT_.out (by kernel_rfl)) (fun _ _ _ h => h) (Or.inr ⟨by rfl, rfl⟩) ?_ ?_
                rotate_left
                · simp only [Act.put, List.setIfInBounds_toArray, List.set_cons_zero, List.set_cons_succ, i64_w, i32_w]
                  rfl
                refine pure_ (i := 23) (N := some 95) (v := undef) (a' := ?_) #[true, true, true, true, true, true, true, true, true, true, true, true, true, true, true, true, true, true, true, true, true, true, true, true, false, false, false] rfl rfl (any_of HT_.out (by kernel_rfl)) (fun _ _ _ h => h) (Or.inr ⟨by rfl, rfl⟩) ?_ ?_
                rotate_left
                · simp only [Act.put, List.setIfInBounds_toArray, List.set_cons_zero, List.set_cons_succ, i64_w, i32_w]
                  rfl
                refine pure_ (i := 24) (N := some 96) (v := undef) (a' := ?_) #[true, true, true, true, true, true, true, true, true, true, true, true, true, true, true, true, true, true, true, true, true, true, true, true, true, false, false] rfl rfl (any_of HT_.out (by kernel_rfl)) (fun _ _ _ h => h) (Or.inr ⟨by rfl, rfl⟩) ?_ ?_
                rotate_left
                · simp only [Act.put, List.setIfInBounds_toArray, List.set_cons_zero, List.set_cons_succ, i64_w, i32_w]
                  rfl
                refine pure_ (i := 25) (N := some 97) (v := undef) (a' := ?_) #[true, true, true, true, true, true, true, true, true, true, true, true, true, true, true, true, true, true, true, true, true, true, true, true, true, true, false] rfl rfl (any_of HT_.out (by kernel_rfl)) (fun _ _ _ h => h) (Or.inr ⟨by rfl, rfl⟩) ?_ ?_
                rotate_left
                · simp only [Act.put, List.setIfInBounds_toArray, List.set_cons_zero, List.set_cons_succ, i64_w, i32_w]
                  rfl
                refine pure_ (i := 26) (N := some 98) (v := ?_) (a' := ?_) #[true, true, true, true, true, true, true, true, true, true, true, true, true, true, true, true, true, true, true, true, true, true, true, true, true, true, true] rfl rfl (any_of HT_.out (by kernel_rfl)) (fun _ _ _ h => h) (Or.inl ⟨by rfl, ?_⟩) ?_ ?_
                rotate_left
                · intro w'
                  go_simp
                  with_reducible rfl
                rotate_left
                · simp only [Act.put, List.setIfInBounds_toArray, List.set_cons_zero, List.set_cons_succ, i64_w, i32_w]
                  rfl
                refine done_ (done_of HT_.out (by kernel_rfl)) ?_
                try go_wp2
                go_meet
                case rel => exact ⟨_, (true), (by first | rfl | (simp; done) | (simp [*]; done)), H', ⟨by first | omega | exact Nat.le_refl _⟩, ⟨by (with_reducible repeat (first | refine blk_drewN ?_ _ | refine blk_drew ?_ | refine blk_alloc ?_ _)); exact BK641.out⟩, ⟨by (with_reducible repeat (first | refine blk_drewN ?_ _ | refine blk_drew ?_ | refine blk_alloc ?_ _)); exact BK642.out⟩, ⟨by (with_reducible repeat (first | refine blk_drewN ?_ _ | refine blk_drew ?_ | refine blk_alloc ?_ _)); exact BK646.out⟩, ⟨by (with_reducible repeat (first | refine blk_drewN ?_ _ | refine blk_drew ?_ | refine blk_alloc ?_ _)); exact BK650.out⟩, ⟨by (with_reducible repeat (first | refine blk_drewN ?_ _ | refine blk_drew ?_ | refine blk_alloc ?_ _)); exact BK654.out⟩, ⟨by (with_reducible repeat (first | refine blk_drewN ?_ _ | refine blk_drew ?_ | refine blk_alloc ?_ _)); exact BK661.out⟩, ⟨by (with_reducible repeat (first | refine blk_drewN ?_ _ | refine blk_drew ?_ | refine blk_alloc ?_ _)); exact BK665.out⟩, ⟨by repeat (first | (with_reducible first | exact HB.out | apply below_alloc | apply pw_below_drewN | apply below_drew1 | refine below_set ?_ GE641.out | refine below_set ?_ GE642.out | refine below_set ?_ GE646.out | refine below_set ?_ GE650.out | refine below_set ?_ GE654.out | refine below_set ?_ GE661.out | refine below_set ?_ GE665.out) | exact HB.out)⟩⟩
            · rw [if_neg c90] at H
              have c90b0 : (t660 == 0) = false := beq_eq_false_iff_ne.mpr c90
              have c90b1 : (t660 != 0) = true := bne_iff_ne.mpr c90
              (first | rw [c90b0] | (simp only [i64_w, i32_w]; rw [c90b0]) | skip)
              have H' := Aside0.mk H
              clear H
              try go_wp2
              have n0_ : Aside0 (((w82.setCell ⟨gb665, 0, none⟩ (.int .u64 t662)).setCell ⟨gb665, 1, none⟩ (.int .u64 t663)).heap[gb641]? = some (.cells #[.int .u64 a0_0, .int .u64 a0_1] 24 (0, 0))) := ⟨by (with_reducible repeat (first | refine blk_drewN ?_ _ | refine blk_drew ?_ | refine blk_alloc ?_ _)); refine blk_far ?_ NB641_665.out _; (with_reducible repeat (first | refine blk_drewN ?_ _ | refine blk_drew ?_ | refine blk_alloc ?_ _)); refine blk_far ?_ NB641_665.out _; (with_reducible repeat (first | refine blk_drewN ?_ _ | refine blk_drew ?_ | refine blk_alloc ?_ _)); exact BK641.out⟩
              have n1_ : Aside0 (((w82.setCell ⟨gb665, 0, none⟩ (.int .u64 t662)).setCell ⟨gb665, 1, none⟩ (.int .u64 t663)).heap[gb642]? = some (.cells #[.int .u64 a1_0, .int .u64 a1_1] 24 (0, 0))) := ⟨by (with_reducible repeat (first | refine blk_drewN ?_ _ | refine blk_drew ?_ | refine blk_alloc ?_ _)); refine blk_far ?_ NB642_665.out _; (with_reducible repeat (first | refine blk_drewN ?_ _ | refine blk_drew ?_ | refine blk_alloc ?_ _)); refine blk_far ?_ NB642_665.out _; (with_reducible repeat (first | refine blk_drewN ?_ _ | refine blk_drew ?_ | refine blk_alloc ?_ _)); exact BK642.out⟩
              have n2_ : Aside0 (((w82.setCell ⟨gb665, 0, none⟩ (.int .u64 t662)).setCell ⟨gb665, 1, none⟩ (.int .u64 t663)).heap[gb646]? = some (.cells #[.int .u64 t644, .int .u64 t645] 24 (0, 0))) := ⟨by (with_reducible repeat (first | refine blk_drewN ?_ _ | refine blk_drew ?_ | refine blk_alloc ?_ _)); refine blk_far ?_ NB646_665.out _; (with_reducible repeat (first | refine blk_drewN ?_ _ | refine blk_drew ?_ | refine blk_alloc ?_ _)); refine blk_far ?_ NB646_665.out _; (with_reducible repeat (first | refine blk_drewN ?_ _ | refine blk_drew ?_ | refine blk_alloc ?_ _)); exact BK646.out⟩
              have n3_ : Aside0 (((w82.setCell ⟨gb665, 0, none⟩ (.int .u64 t662)).setCell ⟨gb665, 1, none⟩ (.int .u64 t663)).heap[gb650]? = some (.cells #[.int .u64 t647, .int .u64 t648] 24 (0, 0))) := ⟨by (with_reducible repeat (first | refine blk_drewN ?_ _ | refine blk_drew ?_ | refine blk_alloc ?_ _)); refine blk_far ?_ NB650_665.out _; (with_reducible repeat (first | refine blk_drewN ?_ _ | refine blk_drew ?_ | refine blk_alloc ?_ _)); refine blk_far ?_ NB650_665.out _; (with_reducible repeat (first | refine blk_drewN ?_ _ | refine blk_drew ?_ | refine blk_alloc ?_ _)); exact BK650.out⟩
              have n4_ : Aside0 (((w82.setCell ⟨gb665, 0, none⟩ (.int .u64 t662)).setCell ⟨gb665, 1, none⟩ (.int .u64 t663)).heap[gb654]? = some (.cells #[.int .u64 t651, .int .u64 t652] 24 (0, 0))) := ⟨by (with_reducible repeat (first | refine blk_drewN ?_ _ | refine blk_drew ?_ | refine blk_alloc ?_ _)); refine blk_far ?_ NB654_665.out _; (with_reducible repeat (first | refine blk_drewN ?_ _ | refine blk_drew ?_ | refine blk_alloc ?_ _)); refine blk_far ?_ NB654_665.out _; (with_reducible repeat (first | refine blk_drewN ?_ _ | refine blk_drew ?_ | refine blk_alloc ?_ _)); exact BK654.out⟩
              have n5_ : Aside0 (((w82.setCell ⟨gb665, 0, none⟩ (.int .u64 t662)).setCell ⟨gb665, 1, none⟩ (.int .u64 t663)).heap[gb661]? = some (.cells #[.int .u64 t658, .int .u64 t659] 24 (0, 0))) := ⟨by (with_reducible repeat (first | refine blk_drewN ?_ _ | refine blk_drew ?_ | refine blk_alloc ?_ _)); refine blk_far ?_ NB661_665.out _; (with_reducible repeat (first | refine blk_drewN ?_ _ | refine blk_drew ?_ | refine blk_alloc ?_ _)); refine blk_far ?_ NB661_665.out _; (with_reducible repeat (first | refine blk_drewN ?_ _ | refine blk_drew ?_ | refine blk_alloc ?_ _)); exact BK661.out⟩
              have n6_ : Aside0 (((w82.setCell ⟨gb665, 0, none⟩ (.int .u64 t662)).setCell ⟨gb665, 1, none⟩ (.int .u64 t663)).heap[gb665]? = some (.cells #[.int .u64 t662, .int .u64 t663] 24 (0, 0))) := ⟨by (with_reducible repeat (first | refine blk_drewN ?_ _ | refine blk_drew ?_ | refine blk_alloc ?_ _)); refine blk_put (cs := #[.int .u64 t662, .int .u64 0]) ?_ 1 _ rfl; (with_reducible repeat (first | refine blk_drewN ?_ _ | refine blk_drew ?_ | refine blk_alloc ?_ _)); refine blk_put (cs := #[.int .u64 0, .int .u64 0]) ?_ 0 _ rfl; (with_reducible repeat (first | refine blk_drewN ?_ _ | refine blk_drew ?_ | refine blk_alloc ?_ _)); exact BK665.out⟩
              have n7_ : Aside0 (Below w.heap.size w ((w82.setCell ⟨gb665, 0, none⟩ (.int .u64 t662)).setCell ⟨gb665, 1, none⟩ (.int .u64 t663))) := ⟨by repeat (first | (with_reducible first | exact HB.out | apply below_alloc | apply pw_below_drewN | apply below_drew1 | refine below_set ?_ GE641.out | refine below_set ?_ GE642.out | refine below_set ?_ GE646.out | refine below_set ?_ GE650.out | refine below_set ?_ GE654.out | refine below_set ?_ GE661.out | refine below_set ?_ GE665.out) | exact HB.out)⟩
              (try clear BK641)
              (try clear BK642)
              (try clear BK646)
              (try clear BK650)
              (try clear BK654)
              (try clear BK661)
              (try clear BK665)
              (try clear HB)
              generalize ((w82.setCell ⟨gb665, 0, none⟩ (.int .u64 t662)).setCell ⟨gb665, 1, none⟩ (.int .u64 t663)) = w106 at n0_ n1_ n2_ n3_ n4_ n5_ n6_ n7_ ⊢
              have BK641 := n0_
              have BK642 := n1_
              have BK646 := n2_
              have BK650 := n3_
              have BK654 := n4_
              have BK661 := n5_
              have BK665 := n6_
              have HB := n7_
              clear n0_ n1_ n2_ n3_ n4_ n5_ n6_ n7_
              have n0_ := Aside0.mk (blk_drew BK641.out)
              have n1_ := Aside0.mk (blk_drew BK642.out)
              have n2_ := Aside0.mk (blk_drew BK646.out)
              have n3_ := Aside0.mk (blk_drew BK650.out)
              have n4_ := Aside0.mk (blk_drew BK654.out)
              have n5_ := Aside0.mk (blk_drew BK661.out)
              have n6_ := Aside0.mk (blk_drew BK665.out)
              have n7_ := Aside0.mk (below_drew1 HB.out)
              clear BK641
              clear BK642
              clear BK646
              clear BK650
              clear BK654
              clear BK661
              clear BK665
              clear HB
              have BK641 := n0_
              have BK642 := n1_
              have BK646 := n2_
              have BK650 := n3_
              have BK654 := n4_
              have BK661 := n5_
              have BK665 := n6_
              have HB := n7_
              clear n0_ n1_ n2_ n3_ n4_ n5_ n6_ n7_
              refine start_ (n := 27) (S := fun w' => True) (ds := []) #[false, false, false, false, false, false, false, false, false, false, false, false, false, false, false, false, false, false, false, false, false, false, false, false, false, false, false] (by kernel_rfl) rfl rfl trivial (fun hHeld => ?_); refine with_tabW lorgnettelaw01_WideParts.tab14 lorgnettelaw01_WideParts.bits14 (fun HT_ HW_ => ?_)
              generalize w106.drew = w107 at BK641 BK642 BK646 BK650 BK654 BK661 BK665 HB hHeld ⊢
              refine pure_ (i := 0) (N := some 72) (v := ?_) (a' := ?_) #[true, false, false, false, false, false, false, false, false, false, false, false, false, false, false, false, false, false, false, false, false, false, false, false, false, false, false] rfl rfl (any_of HT_.out (by kernel_rfl)) (fun _ _ _ h => h) (Or.inl ⟨by rfl, ?_⟩) ?_ ?_
              rotate_left
              · intro w'
                go_simp
                with_reducible rfl
              rotate_left
              · simp only [Act.put, List.setIfInBounds_toArray, List.set_cons_zero, List.set_cons_succ, i64_w, i32_w]
                rfl
              refine pure_ (i := 1) (N := some 73) (v := ?_) (a' := ?_) #[true, true, false, false, false, false, false, false, false, false, false, false, false, false, false, false, false, false, false, false, false, false, false, false, false, false, false] rfl rfl (any_of HT_.out (by kernel_rfl)) (fun _ _ _ h => h) (Or.inl ⟨by rfl, ?_⟩) ?_ ?_
              rotate_left
              · intro w'
                go_simp
                with_reducible rfl
              rotate_left
              · simp only [Act.put, List.setIfInBounds_toArray, List.set_cons_zero, List.set_cons_succ, i64_w, i32_w]
                rfl
              refine pure_ (i := 2) (N := some 74) (v := ?_) (a' := ?_) #[true, true, true, false, false, false, false, false, false, false, false, false, false, false, false, false, false, false, false, false, false, false, false, false, false, false, false] rfl rfl (any_of HT_.out (by kernel_rfl)) (fun _ _ _ h => h) (Or.inl ⟨by rfl, ?_⟩) ?_ ?_
              rotate_left
              · intro w'
                go_simp
                with_reducible rfl
              rotate_left
              · simp only [Act.put, List.setIfInBounds_toArray, List.set_cons_zero, List.set_cons_succ, i64_w, i32_w]
                rfl
              refine pure_ (i := 3) (N := some 75) (v := undef) (a' := ?_) #[true, true, true, true, false, false, false, false, false, false, false, false, false, false, false, false, false, false, false, false, false, false, false, false, false, false, false] rfl rfl (any_of HT_.out (by kernel_rfl)) (fun _ _ _ h => h) (Or.inr ⟨by rfl, rfl⟩) ?_ ?_
              rotate_left
              · simp only [Act.put, List.setIfInBounds_toArray, List.set_cons_zero, List.set_cons_succ, i64_w, i32_w]
                rfl
              refine pure_ (i := 4) (N := some 76) (v := undef) (a' := ?_) #[true, true, true, true, true, false, false, false, false, false, false, false, false, false, false, false, false, false, false, false, false, false, false, false, false, false, false] rfl rfl (any_of HT_.out (by kernel_rfl)) (fun _ _ _ h => h) (Or.inr ⟨by rfl, rfl⟩) ?_ ?_
              rotate_left
              · simp only [Act.put, List.setIfInBounds_toArray, List.set_cons_zero, List.set_cons_succ, i64_w, i32_w]
                rfl
              refine pure_ (i := 5) (N := some 77) (v := ?_) (a' := ?_) #[true, true, true, true, true, true, false, false, false, false, false, false, false, false, false, false, false, false, false, false, false, false, false, false, false, false, false] rfl rfl (any_of HT_.out (by kernel_rfl)) (fun _ _ _ h => h) (Or.inl ⟨by rfl, ?_⟩) ?_ ?_
              rotate_left
              · intro w'
                go_simp
                with_reducible rfl
              rotate_left
              · simp only [Act.put, List.setIfInBounds_toArray, List.set_cons_zero, List.set_cons_succ, i64_w, i32_w]
                rfl
              refine pure_ (i := 6) (N := some 78) (v := ?_) (a' := ?_) #[true, true, true, true, true, true, true, false, false, false, false, false, false, false, false, false, false, false, false, false, false, false, false, false, false, false, false] rfl rfl (any_of HT_.out (by kernel_rfl)) (fun _ _ _ h => h) (Or.inl ⟨by rfl, ?_⟩) ?_ ?_
              rotate_left
              · intro w'
                go_simp
                with_reducible rfl
              rotate_left
              · simp only [Act.put, List.setIfInBounds_toArray, List.set_cons_zero, List.set_cons_succ, i64_w, i32_w]
                rfl
              refine pure_ (i := 7) (N := some 79) (v := undef) (a' := ?_) #[true, true, true, true, true, true, true, true, false, false, false, false, false, false, false, false, false, false, false, false, false, false, false, false, false, false, false] rfl rfl (any_of HT_.out (by kernel_rfl)) (fun _ _ _ h => h) (Or.inr ⟨by rfl, rfl⟩) ?_ ?_
              rotate_left
              · simp only [Act.put, List.setIfInBounds_toArray, List.set_cons_zero, List.set_cons_succ, i64_w, i32_w]
                rfl
              refine pure_ (i := 8) (N := some 80) (v := undef) (a' := ?_) #[true, true, true, true, true, true, true, true, true, false, false, false, false, false, false, false, false, false, false, false, false, false, false, false, false, false, false] rfl rfl (any_of HT_.out (by kernel_rfl)) (fun _ _ _ h => h) (Or.inr ⟨by rfl, rfl⟩) ?_ ?_
              rotate_left
              · simp only [Act.put, List.setIfInBounds_toArray, List.set_cons_zero, List.set_cons_succ, i64_w, i32_w]
                rfl
              refine pure_ (i := 9) (N := some 81) (v := undef) (a' := ?_) #[true, true, true, true, true, true, true, true, true, true, false, false, false, false, false, false, false, false, false, false, false, false, false, false, false, false, false] rfl rfl (any_of HT_.out (by kernel_rfl)) (fun _ _ _ h => h) (Or.inr ⟨by rfl, rfl⟩) ?_ ?_
              rotate_left
              · simp only [Act.put, List.setIfInBounds_toArray, List.set_cons_zero, List.set_cons_succ, i64_w, i32_w]
                rfl
              refine pure_ (i := 10) (N := some 82) (v := ?_) (a' := ?_) #[true, true, true, true, true, true, true, true, true, true, true, false, false, false, false, false, false, false, false, false, false, false, false, false, false, false, false] rfl rfl (any_of HT_.out (by kernel_rfl)) (fun _ _ _ h => h) (Or.inl ⟨by rfl, ?_⟩) ?_ ?_
              rotate_left
              · intro w'
                go_simp
                with_reducible rfl
              rotate_left
              · simp only [Act.put, List.setIfInBounds_toArray, List.set_cons_zero, List.set_cons_succ, i64_w, i32_w]
                rfl
              refine pure_ (i := 11) (N := some 83) (v := ?_) (a' := ?_) #[true, true, true, true, true, true, true, true, true, true, true, true, false, false, false, false, false, false, false, false, false, false, false, false, false, false, false] rfl rfl (any_of HT_.out (by kernel_rfl)) (fun _ _ _ h => h) (Or.inl ⟨by rfl, ?_⟩) ?_ ?_
              rotate_left
              · intro w'
                go_simp
                with_reducible rfl
              rotate_left
              · simp only [Act.put, List.setIfInBounds_toArray, List.set_cons_zero, List.set_cons_succ, i64_w, i32_w]
                rfl
              refine pure_ (i := 12) (N := some 84) (v := undef) (a' := ?_) #[true, true, true, true, true, true, true, true, true, true, true, true, true, false, false, false, false, false, false, false, false, false, false, false, false, false, false] rfl rfl (any_of HT_.out (by kernel_rfl)) (fun _ _ _ h => h) (Or.inr ⟨by rfl, rfl⟩) ?_ ?_
              rotate_left
              · simp only [Act.put, List.setIfInBounds_toArray, List.set_cons_zero, List.set_cons_succ, i64_w, i32_w]
                rfl
              refine pure_ (i := 13) (N := some 85) (v := undef) (a' := ?_) #[true, true, true, true, true, true, true, true, true, true, true, true, true, true, false, false, false, false, false, false, false, false, false, false, false, false, false] rfl rfl (any_of HT_.out (by kernel_rfl)) (fun _ _ _ h => h) (Or.inr ⟨by rfl, rfl⟩) ?_ ?_
              rotate_left
              · simp only [Act.put, List.setIfInBounds_toArray, List.set_cons_zero, List.set_cons_succ, i64_w, i32_w]
                rfl
              refine pure_ (i := 14) (N := some 86) (v := undef) (a' := ?_) #[true, true, true, true, true, true, true, true, true, true, true, true, true, true, true, false, false, false, false, false, false, false, false, false, false, false, false] rfl rfl (any_of HT_.out (by kernel_rfl)) (fun _ _ _ h => h) (Or.inr ⟨by rfl, rfl⟩) ?_ ?_
              rotate_left
              · simp only [Act.put, List.setIfInBounds_toArray, List.set_cons_zero, List.set_cons_succ, i64_w, i32_w]
                rfl
              refine pure_ (i := 15) (N := some 87) (v := undef) (a' := ?_) #[true, true, true, true, true, true, true, true, true, true, true, true, true, true, true, true, false, false, false, false, false, false, false, false, false, false, false] rfl rfl (any_of HT_.out (by kernel_rfl)) (fun _ _ _ h => h) (Or.inr ⟨by rfl, rfl⟩) ?_ ?_
              rotate_left
              · simp only [Act.put, List.setIfInBounds_toArray, List.set_cons_zero, List.set_cons_succ, i64_w, i32_w]
                rfl
              refine pure_ (i := 16) (N := some 88) (v := undef) (a' := ?_) #[true, true, true, true, true, true, true, true, true, true, true, true, true, true, true, true, true, false, false, false, false, false, false, false, false, false, false] rfl rfl (any_of HT_.out (by kernel_rfl)) (fun _ _ _ h => h) (Or.inr ⟨by rfl, rfl⟩) ?_ ?_
              rotate_left
              · simp only [Act.put, List.setIfInBounds_toArray, List.set_cons_zero, List.set_cons_succ, i64_w, i32_w]
                rfl
              refine pure_ (i := 17) (N := some 89) (v := undef) (a' := ?_) #[true, true, true, true, true, true, true, true, true, true, true, true, true, true, true, true, true, true, false, false, false, false, false, false, false, false, false] rfl rfl (any_of HT_.out (by kernel_rfl)) (fun _ _ _ h => h) (Or.inr ⟨by rfl, rfl⟩) ?_ ?_
              rotate_left
              · simp only [Act.put, List.setIfInBounds_toArray, List.set_cons_zero, List.set_cons_succ, i64_w, i32_w]
                rfl
              refine pure_ (i := 18) (N := some 90) (v := undef) (a' := ?_) #[true, true, true, true, true, true, true, true, true, true, true, true, true, true, true, true, true, true, true, false, false, false, false, false, false, false, false] rfl rfl (any_of HT_.out (by kernel_rfl)) (fun _ _ _ h => h) (Or.inr ⟨by rfl, rfl⟩) ?_ ?_
              rotate_left
              · simp only [Act.put, List.setIfInBounds_toArray, List.set_cons_zero, List.set_cons_succ, i64_w, i32_w]
                rfl
              refine pure_ (i := 19) (N := some 91) (v := undef) (a' := ?_) #[true, true, true, true, true, true, true, true, true, true, true, true, true, true, true, true, true, true, true, true, false, false, false, false, false, false, false] rfl rfl (any_of HT_.out (by kernel_rfl)) (fun _ _ _ h => h) (Or.inr ⟨by rfl, rfl⟩) ?_ ?_
              rotate_left
              · simp only [Act.put, List.setIfInBounds_toArray, List.set_cons_zero, List.set_cons_succ, i64_w, i32_w]
                rfl
              refine pure_ (i := 20) (N := some 92) (v := undef) (a' := ?_) #[true, true, true, true, true, true, true, true, true, true, true, true, true, true, true, true, true, true, true, true, true, false, false, false, false, false, false] rfl rfl (any_of HT_.out (by kernel_rfl)) (fun _ _ _ h => h) (Or.inr ⟨by rfl, rfl⟩) ?_ ?_
              rotate_left
              · simp only [Act.put, List.setIfInBounds_toArray, List.set_cons_zero, List.set_cons_succ, i64_w, i32_w]
                rfl
              refine pure_ (i := 21) (N := some 93) (v := undef) (a' := ?_) #[true, true, true, true, true, true, true, true, true, true, true, true, true, true, true, true, true, true, true, true, true, true, false, false, false, false, false] rfl rfl (any_of HT_.out (by kernel_rfl)) (fun _ _ _ h => h) (Or.inr ⟨by rfl, rfl⟩) ?_ ?_
              rotate_left
              · simp only [Act.put, List.setIfInBounds_toArray, List.set_cons_zero, List.set_cons_succ, i64_w, i32_w]
                rfl
              refine pure_ (i := 22) (N := some 94) (v := undef) (a' := ?_) #[true, true, true, true, true, true, true, true, true, true, true, true, true, true, true, true, true, true, true, true, true, true, true, false, false, false, false] rfl rfl (any_of HT_.out (by kernel_rfl)) (fun _ _ _ h => h) (Or.inr ⟨by rfl, rfl⟩) ?_ ?_
              rotate_left
              · simp only [Act.put, List.setIfInBounds_toArray, List.set_cons_zero, List.set_cons_succ, i64_w, i32_w]
                rfl
              refine pure_ (i := 23) (N := some 95) (v := undef) (a' := ?_) #[true, true, true, true, true, true, true, true, true, true, true, true, true, true, true, true, true, true, true, true, true, true, true, true, false, false, false] rfl rfl (any_of HT_.out (by kernel_rfl)) (fun _ _ _ h => h) (Or.inr ⟨by rfl, rfl⟩) ?_ ?_
              rotate_left
              · simp only [Act.put, List.setIfInBounds_toArray, List.set_cons_zero, List.set_cons_succ, i64_w, i32_w]
                rfl
              refine pure_ (i := 24) (N := some 96) (v := undef) (a' := ?_) #[true, true, true, true, true, true, true, true, true, true, true, true, true, true, true, true, true, true, true, true, true, true, true, true, true, false, false] rfl rfl (any_of HT_.out (by kernel_rfl)) (fun _ _ _ h => h) (Or.inr ⟨by rfl, rfl⟩) ?_ ?_
              rotate_left
              · simp only [Act.put, List.setIfInBounds_toArray, List.set_cons_zero, List.set_cons_succ, i64_w, i32_w]
                rfl
              refine pure_ (i := 25) (N := some 97) (v := undef) (a' := ?_) #[true, true, true, true, true, true, true, true, true, true, true, true, true, true, true, true, true, true, true, true, true, true, true, true, true, true, false] rfl rfl (any_of HT_.out (by kernel_rfl)) (fun _ _ _ h => h) (Or.inr ⟨by rfl, rfl⟩) ?_ ?_
              rotate_left
              · simp only [Act.put, List.setIfInBounds_toArray, List.set_cons_zero, List.set_cons_succ, i64_w, i32_w]
                rfl
              refine pure_ (i := 26) (N := some 98) (v := ?_) (a' := ?_) #[true, true, true, true, true, true, true, true, true, true, true, true, true, true, true, true, true, true, true, true, true, true, true, true, true, true, true] rfl rfl (any_of HT_.out (by kernel_rfl)) (fun _ _ _ h => h) (Or.inl ⟨by rfl, ?_⟩) ?_ ?_
              rotate_left
              · intro w'
                go_simp
                with_reducible rfl
              rotate_left
              · simp only [Act.put, List.setIfInBounds_toArray, List.set_cons_zero, List.set_cons_succ, i64_w, i32_w]
                rfl
              refine done_ (done_of HT_.out (by kernel_rfl)) ?_
              try go_wp2
              go_meet
              case rel => exact ⟨_, (true), (by first | rfl | (simp; done) | (simp [*]; done)), H', ⟨by first | omega | exact Nat.le_refl _⟩, ⟨by (with_reducible repeat (first | refine blk_drewN ?_ _ | refine blk_drew ?_ | refine blk_alloc ?_ _)); exact BK641.out⟩, ⟨by (with_reducible repeat (first | refine blk_drewN ?_ _ | refine blk_drew ?_ | refine blk_alloc ?_ _)); exact BK642.out⟩, ⟨by (with_reducible repeat (first | refine blk_drewN ?_ _ | refine blk_drew ?_ | refine blk_alloc ?_ _)); exact BK646.out⟩, ⟨by (with_reducible repeat (first | refine blk_drewN ?_ _ | refine blk_drew ?_ | refine blk_alloc ?_ _)); exact BK650.out⟩, ⟨by (with_reducible repeat (first | refine blk_drewN ?_ _ | refine blk_drew ?_ | refine blk_alloc ?_ _)); exact BK654.out⟩, ⟨by (with_reducible repeat (first | refine blk_drewN ?_ _ | refine blk_drew ?_ | refine blk_alloc ?_ _)); exact BK661.out⟩, ⟨by (with_reducible repeat (first | refine blk_drewN ?_ _ | refine blk_drew ?_ | refine blk_alloc ?_ _)); exact BK665.out⟩, ⟨by repeat (first | (with_reducible first | exact HB.out | apply below_alloc | apply pw_below_drewN | apply below_drew1 | refine below_set ?_ GE641.out | refine below_set ?_ GE642.out | refine below_set ?_ GE646.out | refine below_set ?_ GE650.out | refine below_set ?_ GE654.out | refine below_set ?_ GE661.out | refine below_set ?_ GE665.out) | exact HB.out)⟩⟩
          case rest =>
            clear HC42
            try clear p2
            try clear c9
            try clear c90
            try clear c90b0
            try clear c90b1
            try clear c91
            try clear c91b0
            try clear c91b1
            obtain ⟨kq, x98_41, rfl, HA, HJ41, BK641, BK642, BK646, BK650, BK654, BK661, BK665, HB⟩ := hcut
            cases kq with
            | zero => exact absurd HA.out (by simp [lorgnettelaw01_WideParts.j0])
            | succ kj41 =>
              have H := HA.out
              clear HA
              simp only [lorgnettelaw01_WideParts.j0] at H
              by_cases c108 : x98_41 = true
              · subst c108
                have H1 : (none) = some r := by rw [if_pos rfl] at H; exact H
                clear H
                have H := H1
                clear H1
                exact absurd H (by simp)
              · replace c108 := Bool.eq_false_iff.mpr c108
                subst c108
                have H1 : ((wide_Cmp.f t651 t652 t644 t645).bind fun t668 => (if t668 < 0 then ((wide_Neg.f t651 t652).bind fun bt669 => (if bt669.2.2 = 0 then (lorgnettelaw01_WideParts.j1 kj41 a1_0 a1_1 t644 t645 bt669.1 bt669.2.1) else (none))) else (lorgnettelaw01_WideParts.j1 kj41 a1_0 a1_1 t644 t645 t651 t652))) = some r := by rw [if_neg (show ¬ (false = true) by decide)] at H; exact H
                clear H
                have H := H1
                clear H1
                replace H := Option.bind_eq_some_iff.mp H
                obtain ⟨t668, A1090, H⟩ := H
                replace H : (if t668 < 0 then ((wide_Neg.f t651 t652).bind fun bt669 => (if bt669.2.2 = 0 then (lorgnettelaw01_WideParts.j1 kj41 a1_0 a1_1 t644 t645 bt669.1 bt669.2.1) else (none))) else (lorgnettelaw01_WideParts.j1 kj41 a1_0 a1_1 t644 t645 t651 t652)) = some r := H
                have A109 := Aside0.mk A1090
                clear A1090
                have HC110 := Aside0.mk H
                clear H
                have hnb111 := NB654_641.out
                have hnc111 := NB641_654.out
                have hnb112 := NB654_642.out
                have hnc112 := NB642_654.out
                have hnb113 := NB654_646.out
                have hnc113 := NB646_654.out
                have hnb114 := NB654_650.out
                have hnc114 := NB650_654.out
                have hnb115 := NB654_661.out
                have hnc115 := NB661_654.out
                have hnb116 := NB654_665.out
                have hnc116 := NB665_654.out
                have hcz117_0 : wc.cell? ⟨gb654, 0, none⟩ = some (.int .u64 t651) := (blk_cell BK654.out 0).trans rfl
                have hcz117_1 : wc.cell? ⟨gb654, 1, none⟩ = some (.int .u64 t652) := (blk_cell BK654.out 1).trans rfl
                have hfz117_0 := blk_frozen BK654.out 0
                have hfz117_1 := blk_frozen BK654.out 1
                have hnb118 := NB646_641.out
                have hnc118 := NB641_646.out
                have hnb119 := NB646_642.out
                have hnc119 := NB642_646.out
                have hnb120 := NB646_650.out
                have hnc120 := NB650_646.out
                have hnb121 := NB646_661.out
                have hnc121 := NB661_646.out
                have hnb122 := NB646_665.out
                have hnc122 := NB665_646.out
                have hcz123_0 : wc.cell? ⟨gb646, 0, none⟩ = some (.int .u64 t644) := (blk_cell BK646.out 0).trans rfl
                have hcz123_1 : wc.cell? ⟨gb646, 1, none⟩ = some (.int .u64 t645) := (blk_cell BK646.out 1).trans rfl
                have hfz123_0 := blk_frozen BK646.out 0
                have hfz123_1 := blk_frozen BK646.out 1
                go_upto_if 102 with (first | ((with_reducible refine gate_callee (f := 27) rfl ?_); refine goesL_ (some 101) rfl rfl Try.func27 (by kernel_rfl) rfl #[.agg #[.int .u64 t651, .int .u64 t652], .agg #[.int .u64 t644, .int .u64 t645]] rfl (by (try simp only [List.map_toArray, List.map_cons, List.map_nil]); first | done | rfl | (simp only [List.length_drop, List.length_take]; rfl) | (go_simp; simp only [u8_w, w64_u8]; done) | (go_simp; simp only [u8_w, w64_u8]; rfl)) ?_; (with_reducible refine (wide_Cmp.calls t651 t652 t644 t645 t668 _ A109.out).mono ?_); rintro e w124 ⟨rfl, hb⟩; refine ⟨_, rfl, ?_⟩; have n0_ := blkB BK641 hb; have n1_ := blkB BK642 hb; have n2_ := blkB BK646 hb; have n3_ := blkB BK650 hb; have n4_ := blkB BK654 hb; have n5_ := blkB BK661 hb; have n6_ := blkB BK665 hb; have n7_ := Aside0.mk (below_step (bL HB) hb); clear BK641 BK642 BK646 BK650 BK654 BK661 BK665 HB; have BK641 := n0_; have BK642 := n1_; have BK646 := n2_; have BK650 := n3_; have BK654 := n4_; have BK661 := n5_; have BK665 := n6_; have HB := n7_; clear n0_ n1_ n2_ n3_ n4_ n5_ n6_ n7_; (try clear hb); (try clear hb2); (try clear hk); (try clear hi)))
                (try simp only [Act.put, List.setIfInBounds_toArray, List.set_cons_zero, List.set_cons_succ])
                go_cut [] (fun wc => ∃ (kq : Nat) (x655000_109 : Int) (x655001_109 : Int), Aside0 (lorgnettelaw01_WideParts.j1 kq a1_0 a1_1 t644 t645 x655000_109 x655001_109 = some r) ∧ Aside0 (kq ≤ kj41) ∧ Aside0 (wc.heap[gb641]? = some (.cells #[.int .u64 a0_0, .int .u64 a0_1] 24 (0, 0))) ∧ Aside0 (wc.heap[gb642]? = some (.cells #[.int .u64 a1_0, .int .u64 a1_1] 24 (0, 0))) ∧ Aside0 (wc.heap[gb646]? = some (.cells #[.int .u64 t644, .int .u64 t645] 24 (0, 0))) ∧ Aside0 (wc.heap[gb650]? = some (.cells #[.int .u64 t647, .int .u64 t648] 24 (0, 0))) ∧ Aside0 (wc.heap[gb654]? = some (.cells #[.int .u64 x655000_109, .int .u64 x655001_109] 24 (0, 0))) ∧ Aside0 (wc.heap[gb661]? = some (.cells #[.int .u64 t658, .int .u64 t659] 24 (0, 0))) ∧ Aside0 (wc.heap[gb665]? = some (.cells #[.int .u64 t662, .int .u64 t663] 24 (0, 0))) ∧ Aside0 (Below w.heap.size w wc))
                case first =>
                  have H := HC110.out
                  clear HC110
                  by_cases c125 : t668 < 0
                  · rw [if_pos c125] at H
                    have c125b0 : decide (t668 < 0) = true := decide_eq_true c125
                    clear c125
                    (first | rw [c125b0] | (simp only [i64_w, i32_w]; rw [c125b0]) | skip)
                    replace H := Option.bind_eq_some_iff.mp H
                    obtain ⟨⟨t669, t670, t671⟩, A1260, H⟩ := H
                    replace H : (if t671 = 0 then (lorgnettelaw01_WideParts.j1 kj41 a1_0 a1_1 t644 t645 t669 t670) else (none)) = some r := H
                    have A126 := Aside0.mk A1260
                    clear A1260
                    by_cases c127 : t671 = 0
                    · rw [if_pos c127] at H
                      have c127b0 : (t671 == 0) = true := beq_iff_eq.mpr c127
                      have c127b1 : (t671 != 0) = false := bne_eq_false_iff_eq.mpr c127
                      clear c127
                      have H' := Aside0.mk H
                      clear H
                      have hnb128 := NB654_641.out
                      have hnc128 := NB641_654.out
                      have hnb129 := NB654_642.out
                      have hnc129 := NB642_654.out
                      have hnb130 := NB654_646.out
                      have hnc130 := NB646_654.out
                      have hnb131 := NB654_650.out
                      have hnc131 := NB650_654.out
                      have hnb132 := NB654_661.out
                      have hnc132 := NB661_654.out
                      have hnb133 := NB654_665.out
                      have hnc133 := NB665_654.out
                      have hcz134_0 : w124.cell? ⟨gb654, 0, none⟩ = some (.int .u64 t651) := (blk_cell BK654.out 0).trans rfl
                      have hcz134_1 : w124.cell? ⟨gb654, 1, none⟩ = some (.int .u64 t652) := (blk_cell BK654.out 1).trans rfl
                      have hfz134_0 := blk_frozen BK654.out 0
                      have hfz134_1 := blk_frozen BK654.out 1
                      go_wp2_with (first | ((with_reducible refine gate_callee (f := 21) rfl ?_); refine goesL_ (some 105) rfl rfl Try.func21 (by kernel_rfl) rfl #[.agg #[.int .u64 t651, .int .u64 t652]] rfl (by (try simp only [List.map_toArray, List.map_cons, List.map_nil]); first | done | rfl | (simp only [List.length_drop, List.length_take]; rfl) | (go_simp; simp only [u8_w, w64_u8]; done) | (go_simp; simp only [u8_w, w64_u8]; rfl)) ?_; (with_reducible refine (wide_Neg.calls t651 t652 t669 t670 t671 _ A126.out).mono ?_); rintro e w135 ⟨rfl, hb⟩; refine ⟨_, rfl, ?_⟩; have n0_ := blkB BK641 hb; have n1_ := blkB BK642 hb; have n2_ := blkB BK646 hb; have n3_ := blkB BK650 hb; have n4_ := blkB BK654 hb; have n5_ := blkB BK661 hb; have n6_ := blkB BK665 hb; have n7_ := Aside0.mk (below_step (bL HB) hb); clear BK641 BK642 BK646 BK650 BK654 BK661 BK665 HB; have BK641 := n0_; have BK642 := n1_; have BK646 := n2_; have BK650 := n3_; have BK654 := n4_; have BK661 := n5_; have BK665 := n6_; have HB := n7_; clear n0_ n1_ n2_ n3_ n4_ n5_ n6_ n7_; (try clear hb); (try clear hb2); (try clear hk); (try clear hi)) | ((with_reducible refine gate_dst (N := 14) rfl ?_); refine box_event ?hg (N := 14) ?hd (cs := #[.int .u64 0, .int .u64 0]) (t := 24) ?hr ?_; (case hd => rfl); (case hg => rfl); (case hr => first | (go_simp; done) | (go_simp; rfl)); intro gb672 hg w136 hbox hb; have n0_ := blkB BK641 hb; have n1_ := blkB BK642 hb; have n2_ := blkB BK646 hb; have n3_ := blkB BK650 hb; have n4_ := blkB BK654 hb; have n5_ := blkB BK661 hb; have n6_ := blkB BK665 hb; have n7_ := Aside0.mk (below_step (bL HB) hb); have n8_ := Aside0.mk (hbox); have n9_ := Aside0.mk ((by rw [hg]; exact (below_size (bL HB)) : w.heap.size ≤ gb672)); have n10_ := Aside0.mk ((by rw [hg]; exact (below_size (bL HB)) : w.heap.size ≤ gb672)); have n11_ := blkL BK641 hg; have n12_ := blkG BK641 hg; have n13_ := blkL BK642 hg; have n14_ := blkG BK642 hg; have n15_ := blkL BK646 hg; have n16_ := blkG BK646 hg; have n17_ := blkL BK650 hg; have n18_ := blkG BK650 hg; have n19_ := blkL BK654 hg; have n20_ := blkG BK654 hg; have n21_ := blkL BK661 hg; have n22_ := blkG BK661 hg; have n23_ := blkL BK665 hg; have n24_ := blkG BK665 hg; clear BK641 BK642 BK646 BK650 BK654 BK661 BK665 HB; have BK641 := n0_; have BK642 := n1_; have BK646 := n2_; have BK650 := n3_; have BK654 := n4_; have BK661 := n5_; have BK665 := n6_; have HB := n7_; have BK672 := n8_; have GW672 := n9_; have GE672 := n10_; have NB641_672 := n11_; have NB672_641 := n12_; have NB642_672 := n13_; have NB672_642 := n14_; have NB646_672 := n15_; have NB672_646 := n16_; have NB650_672 := n17_; have NB672_650 := n18_; have NB654_672 := n19_; have NB672_654 := n20_; have NB661_672 := n21_; have NB672_661 := n22_; have NB665_672 := n23_; have NB672_665 := n24_; clear n0_ n1_ n2_ n3_ n4_ n5_ n6_ n7_ n8_ n9_ n10_ n11_ n12_ n13_ n14_ n15_ n16_ n17_ n18_ n19_ n20_ n21_ n22_ n23_ n24_; clear hb hbox hg; have hnb137 := NB672_641.out; have hnc137 := NB641_672.out; have hnb138 := NB672_642.out; have hnc138 := NB642_672.out; have hnb139 := NB672_646.out; have hnc139 := NB646_672.out; have hnb140 := NB672_650.out; have hnc140 := NB650_672.out; have hnb141 := NB672_654.out; have hnc141 := NB654_672.out; have hnb142 := NB672_661.out; have hnc142 := NB661_672.out; have hnb143 := NB672_665.out; have hnc143 := NB665_672.out; have hcz144_0 : w136.cell? ⟨gb672, 0, none⟩ = some (.int .u64 0) := (blk_cell BK672.out 0).trans rfl; have hcz144_1 : w136.cell? ⟨gb672, 1, none⟩ = some (.int .u64 0) := (blk_cell BK672.out 1).trans rfl; have hfz144_0 := blk_frozen BK672.out 0; have hfz144_1 := blk_frozen BK672.out 1; have hcz145_0 : w136.cell? ⟨gb654, 0, none⟩ = some (.int .u64 t651) := (blk_cell BK654.out 0).trans rfl; have hcz145_1 : w136.cell? ⟨gb654, 1, none⟩ = some (.int .u64 t652) := (blk_cell BK654.out 1).trans rfl; have hfz145_0 := blk_frozen BK654.out 0; have hfz145_1 := blk_frozen BK654.out 1))
                      go_meet
                      case rel => exact ⟨_, (t669), (t670), H', ⟨by have := HJ41.out; first | omega | exact Nat.le_refl _⟩, ⟨by (with_reducible repeat (first | refine blk_drewN ?_ _ | refine blk_drew ?_ | refine blk_alloc ?_ _)); refine blk_far ?_ NB641_654.out _; (with_reducible repeat (first | refine blk_drewN ?_ _ | refine blk_drew ?_ | refine blk_alloc ?_ _)); refine blk_far ?_ NB641_654.out _; (with_reducible repeat (first | refine blk_drewN ?_ _ | refine blk_drew ?_ | refine blk_alloc ?_ _)); refine blk_far ?_ NB641_672.out _; (with_reducible repeat (first | refine blk_drewN ?_ _ | refine blk_drew ?_ | refine blk_alloc ?_ _)); refine blk_far ?_ NB641_672.out _; (with_reducible repeat (first | refine blk_drewN ?_ _ | refine blk_drew ?_ | refine blk_alloc ?_ _)); exact BK641.out⟩, ⟨by (with_reducible repeat (first | refine blk_drewN ?_ _ | refine blk_drew ?_ | refine blk_alloc ?_ _)); refine blk_far ?_ NB642_654.out _; (with_reducible repeat (first | refine blk_drewN ?_ _ | refine blk_drew ?_ | refine blk_alloc ?_ _)); refine blk_far ?_ NB642_654.out _; (with_reducible repeat (first | refine blk_drewN ?_ _ | refine blk_drew ?_ | refine blk_alloc ?_ _)); refine blk_far ?_ NB642_672.out _; (with_reducible repeat (first | refine blk_drewN ?_ _ | refine blk_drew ?_ | refine blk_alloc ?_ _)); refine blk_far ?_ NB642_672.out _; (with_reducible repeat (first | refine blk_drewN ?_ _ | refine blk_drew ?_ | refine blk_alloc ?_ _)); exact BK642.out⟩, ⟨by (with_reducible repeat (first | refine blk_drewN ?_ _ | refine blk_drew ?_ | refine blk_alloc ?_ _)); refine blk_far ?_ NB646_654.out _; (with_reducible repeat (first | refine blk_drewN ?_ _ | refine blk_drew ?_ | refine blk_alloc ?_ _)); refine blk_far ?_ NB646_654.out _; (with_reducible repeat (first | refine blk_drewN ?_ _ | refine blk_drew ?_ | refine blk_alloc ?_ _)); refine blk_far ?_ NB646_672.out _; (with_reducible repeat (first | refine blk_drewN ?_ _ | refine blk_drew ?_ | refine blk_alloc ?_ _)); refine blk_far ?_ NB646_672.out _; (with_reducible repeat (first | refine blk_drewN ?_ _ | refine blk_drew ?_ | refine blk_alloc ?_ _)); exact BK646.out⟩, ⟨by (with_reducible repeat (first | refine blk_drewN ?_ _ | refine blk_drew ?_ | refine blk_alloc ?_ _)); refine blk_far ?_ NB650_654.out _; (with_reducible repeat (first | refine blk_drewN ?_ _ | refine blk_drew ?_ | refine blk_alloc ?_ _)); refine blk_far ?_ NB650_654.out _; (with_reducible repeat (first | refine blk_drewN ?_ _ | refine blk_drew ?_ | refine blk_alloc ?_ _)); refine blk_far ?_ NB650_672.out _; (with_reducible repeat (first | refine blk_drewN ?_ _ | refine blk_drew ?_ | refine blk_alloc ?_ _)); refine blk_far ?_ NB650_672.out _; (with_reducible repeat (first | refine blk_drewN ?_ _ | refine blk_drew ?_ | refine blk_alloc ?_ _)); exact BK650.out⟩, ⟨by (with_reducible repeat (first | refine blk_drewN ?_ _ | refine blk_drew ?_ | refine blk_alloc ?_ _)); refine blk_put (cs := #[.int .u64 t669, .int .u64 t652]) ?_ 1 _ rfl; (with_reducible repeat (first | refine blk_drewN ?_ _ | refine blk_drew ?_ | refine blk_alloc ?_ _)); refine blk_put (cs := #[.int .u64 t651, .int .u64 t652]) ?_ 0 _ rfl; (with_reducible repeat (first | refine blk_drewN ?_ _ | refine blk_drew ?_ | refine blk_alloc ?_ _)); refine blk_far ?_ NB654_672.out _; (with_reducible repeat (first | refine blk_drewN ?_ _ | refine blk_drew ?_ | refine blk_alloc ?_ _)); refine blk_far ?_ NB654_672.out _; (with_reducible repeat (first | refine blk_drewN ?_ _ | refine blk_drew ?_ | refine blk_alloc ?_ _)); exact BK654.out⟩, ⟨by (with_reducible repeat (first | refine blk_drewN ?_ _ | refine blk_drew ?_ | refine blk_alloc ?_ _)); refine blk_far ?_ NB661_654.out _; (with_reducible repeat (first | refine blk_drewN ?_ _ | refine blk_drew ?_ | refine blk_alloc ?_ _)); refine blk_far ?_ NB661_654.out _; (with_reducible repeat (first | refine blk_drewN ?_ _ | refine blk_drew ?_ | refine blk_alloc ?_ _)); refine blk_far ?_ NB661_672.out _; (with_reducible repeat (first | refine blk_drewN ?_ _ | refine blk_drew ?_ | refine blk_alloc ?_ _)); refine blk_far ?_ NB661_672.out _; (with_reducible repeat (first | refine blk_drewN ?_ _ | refine blk_drew ?_ | refine blk_alloc ?_ _)); exact BK661.out⟩, ⟨by (with_reducible repeat (first | refine blk_drewN ?_ _ | refine blk_drew ?_ | refine blk_alloc ?_ _)); refine blk_far ?_ NB665_654.out _; (with_reducible repeat (first | refine blk_drewN ?_ _ | refine blk_drew ?_ | refine blk_alloc ?_ _)); refine blk_far ?_ NB665_654.out _; (with_reducible repeat (first | refine blk_drewN ?_ _ | refine blk_drew ?_ | refine blk_alloc ?_ _)); refine blk_far ?_ NB665_672.out _; (with_reducible repeat (first | refine blk_drewN ?_ _ | refine blk_drew ?_ | refine blk_alloc ?_ _)); refine blk_far ?_ NB665_672.out _; (with_reducible repeat (first | refine blk_drewN ?_ _ | refine blk_drew ?_ | refine blk_alloc ?_ _)); exact BK665.out⟩, ⟨by repeat (first | (with_reducible first | exact HB.out | apply below_alloc | apply pw_below_drewN | apply below_drew1 | refine below_set ?_ GE641.out | refine below_set ?_ GE642.out | refine below_set ?_ GE646.out | refine below_set ?_ GE650.out | refine below_set ?_ GE654.out | refine below_set ?_ GE661.out | refine below_set ?_ GE665.out | refine below_set ?_ GE672.out) | exact HB.out)⟩⟩
                    · rw [if_neg c127] at H
                      exact absurd H (by simp)
                  · rw [if_neg c125] at H
                    have c125b0 : decide (t668 < 0) = false := decide_eq_false c125
                    clear c125
                    (first | rw [c125b0] | (simp only [i64_w, i32_w]; rw [c125b0]) | skip)
                    have H' := Aside0.mk H
                    clear H
                    go_wp2
                    go_meet
                    case rel => exact ⟨_, (t651), (t652), H', ⟨by have := HJ41.out; first | omega | exact Nat.le_refl _⟩, ⟨by (with_reducible repeat (first | refine blk_drewN ?_ _ | refine blk_drew ?_ | refine blk_alloc ?_ _)); exact BK641.out⟩, ⟨by (with_reducible repeat (first | refine blk_drewN ?_ _ | refine blk_drew ?_ | refine blk_alloc ?_ _)); exact BK642.out⟩, ⟨by (with_reducible repeat (first | refine blk_drewN ?_ _ | refine blk_drew ?_ | refine blk_alloc ?_ _)); exact BK646.out⟩, ⟨by (with_reducible repeat (first | refine blk_drewN ?_ _ | refine blk_drew ?_ | refine blk_alloc ?_ _)); exact BK650.out⟩, ⟨by (with_reducible repeat (first | refine blk_drewN ?_ _ | refine blk_drew ?_ | refine blk_alloc ?_ _)); exact BK654.out⟩, ⟨by (with_reducible repeat (first | refine blk_drewN ?_ _ | refine blk_drew ?_ | refine blk_alloc ?_ _)); exact BK661.out⟩, ⟨by (with_reducible repeat (first | refine blk_drewN ?_ _ | refine blk_drew ?_ | refine blk_alloc ?_ _)); exact BK665.out⟩, ⟨by repeat (first | (with_reducible first | exact HB.out | apply below_alloc | apply pw_below_drewN | apply below_drew1 | refine below_set ?_ GE641.out | refine below_set ?_ GE642.out | refine below_set ?_ GE646.out | refine below_set ?_ GE650.out | refine below_set ?_ GE654.out | refine below_set ?_ GE661.out | refine below_set ?_ GE665.out) | exact HB.out)⟩⟩
                case rest =>
                  clear HC110
                  try clear c1
                  try clear c2
                  try clear p2
                  try clear c9
                  try clear c10
                  try clear c11
                  try clear c12
                  try clear c13
                  try clear c14
                  try clear c21
                  try clear c27
                  try clear c90
                  try clear c90b0
                  try clear c90b1
                  try clear c91
                  try clear c91b0
                  try clear c91b1
                  try clear c108
                  try clear c111
                  try clear c112
                  try clear c113
                  try clear c114
                  try clear c115
                  try clear c116
                  try clear c118
                  try clear c119
                  try clear c120
                  try clear c121
                  try clear c122
                  try clear c125
                  try clear c125b0
                  try clear c127
                  try clear c127b0
                  try clear c127b1
                  try clear c128
                  try clear c129
                  try clear c130
                  try clear c131
                  try clear c132
                  try clear c133
                  try clear c137
                  try clear c138
                  try clear c139
                  try clear c140
                  try clear c141
                  try clear c142
                  try clear c143
                  try clear hcz117_0
                  try clear hcz117_1
                  try clear hcz123_0
                  try clear hcz123_1
                  try clear hcz134_0
                  try clear hcz134_1
                  try clear hcz144_0
                  try clear hcz144_1
                  try clear hcz145_0
                  try clear hcz145_1
                  try clear hfz117_0
                  try clear hfz117_1
                  try clear hfz123_0
                  try clear hfz123_1
                  try clear hfz134_0
                  try clear hfz134_1
                  try clear hfz144_0
                  try clear hfz144_1
                  try clear hfz145_0
                  try clear hfz145_1
                  try clear p2
                  obtain ⟨kq, x655000_109, x655001_109, HA, HJ109, BK641, BK642, BK646, BK650, BK654, BK661, BK665, HB⟩ := hcut
                  cases kq with
                  | zero => exact absurd HA.out (by simp [lorgnettelaw01_WideParts.j1])
                  | succ kj109 =>
                    have H := HA.out
                    clear HA
                    simp only [lorgnettelaw01_WideParts.j1] at H
                    replace H := Option.bind_eq_some_iff.mp H
                    obtain ⟨t673, A1460, H⟩ := H
                    replace H : (if t673 > 0 then ((wide_Cmp.f x655000_109 x655001_109 a1_0 a1_1).bind fun t674 => (some (decide (t674 < 0)))) else ((wide_Neg.f x655000_109 x655001_109).bind fun bt675 => (if bt675.2.2 = 0 then ((wide_Cmp.f a1_0 a1_1 bt675.1 bt675.2.1).bind fun t679 => (some (decide (t679 < 0)))) else (none)))) = some r := H
                    have A146 := Aside0.mk A1460
                    clear A1460
                    by_cases c147 : t673 > 0
                    · rw [if_pos c147] at H
                      have c147b0 : decide (0 < t673) = true := decide_eq_true c147
                      clear c147
                      replace H := Option.bind_eq_some_iff.mp H
                      obtain ⟨t674, A1480, H⟩ := H
                      replace H : (some (decide (t674 < 0))) = some r := H
                      have A148 := Aside0.mk A1480
                      clear A1480
                      obtain rfl := Option.some.inj H
                      have hnb149 := NB642_641.out
                      have hnc149 := NB641_642.out
                      have hnb150 := NB642_646.out
                      have hnc150 := NB646_642.out
                      have hnb151 := NB642_650.out
                      have hnc151 := NB650_642.out
                      have hnb152 := NB642_654.out
                      have hnc152 := NB654_642.out
                      have hnb153 := NB642_661.out
                      have hnc153 := NB661_642.out
                      have hnb154 := NB642_665.out
                      have hnc154 := NB665_642.out
                      have hcz155_0 : wc.cell? ⟨gb642, 0, none⟩ = some (.int .u64 a1_0) := (blk_cell BK642.out 0).trans rfl
                      have hcz155_1 : wc.cell? ⟨gb642, 1, none⟩ = some (.int .u64 a1_1) := (blk_cell BK642.out 1).trans rfl
                      have hfz155_0 := blk_frozen BK642.out 0
                      have hfz155_1 := blk_frozen BK642.out 1
                      have hnb156 := NB646_641.out
                      have hnc156 := NB641_646.out
                      have hnb157 := NB646_650.out
                      have hnc157 := NB650_646.out
                      have hnb158 := NB646_654.out
                      have hnc158 := NB654_646.out
                      have hnb159 := NB646_661.out
                      have hnc159 := NB661_646.out
                      have hnb160 := NB646_665.out
                      have hnc160 := NB665_646.out
                      have hcz161_0 : wc.cell? ⟨gb646, 0, none⟩ = some (.int .u64 t644) := (blk_cell BK646.out 0).trans rfl
                      have hcz161_1 : wc.cell? ⟨gb646, 1, none⟩ = some (.int .u64 t645) := (blk_cell BK646.out 1).trans rfl
                      have hfz161_0 := blk_frozen BK646.out 0
                      have hfz161_1 := blk_frozen BK646.out 1
                      go_wp2_with (first | ((with_reducible refine gate_callee (f := 27) rfl ?_); refine goesL_ (some 113) rfl rfl Try.func27 (by kernel_rfl) rfl #[.agg #[.int .u64 a1_0, .int .u64 a1_1], .agg #[.int .u64 t644, .int .u64 t645]] rfl (by (try simp only [List.map_toArray, List.map_cons, List.map_nil]); first | done | rfl | (simp only [List.length_drop, List.length_take]; rfl) | (go_simp; simp only [u8_w, w64_u8]; done) | (go_simp; simp only [u8_w, w64_u8]; rfl)) ?_; (with_reducible refine (wide_Cmp.calls a1_0 a1_1 t644 t645 t673 _ A146.out).mono ?_); rintro e w162 ⟨rfl, hb⟩; refine ⟨_, rfl, ?_⟩; have n0_ := blkB BK641 hb; have n1_ := blkB BK642 hb; have n2_ := blkB BK646 hb; have n3_ := blkB BK650 hb; have n4_ := blkB BK654 hb; have n5_ := blkB BK661 hb; have n6_ := blkB BK665 hb; have n7_ := Aside0.mk (below_step (bL HB) hb); clear BK641 BK642 BK646 BK650 BK654 BK661 BK665 HB; have BK641 := n0_; have BK642 := n1_; have BK646 := n2_; have BK650 := n3_; have BK654 := n4_; have BK661 := n5_; have BK665 := n6_; have HB := n7_; clear n0_ n1_ n2_ n3_ n4_ n5_ n6_ n7_; (try clear hb); (try clear hb2); (try clear hk); (try clear hi); have hnb163 := NB654_641.out; have hnc163 := NB641_654.out; have hnb164 := NB654_650.out; have hnc164 := NB650_654.out; have hnb165 := NB654_661.out; have hnc165 := NB661_654.out; have hnb166 := NB654_665.out; have hnc166 := NB665_654.out; have hcz167_0 : w162.cell? ⟨gb654, 0, none⟩ = some (.int .u64 x655000_109) := (blk_cell BK654.out 0).trans rfl; have hcz167_1 : w162.cell? ⟨gb654, 1, none⟩ = some (.int .u64 x655001_109) := (blk_cell BK654.out 1).trans rfl; have hfz167_0 := blk_frozen BK654.out 0; have hfz167_1 := blk_frozen BK654.out 1; have hcz168_0 : w162.cell? ⟨gb642, 0, none⟩ = some (.int .u64 a1_0) := (blk_cell BK642.out 0).trans rfl; have hcz168_1 : w162.cell? ⟨gb642, 1, none⟩ = some (.int .u64 a1_1) := (blk_cell BK642.out 1).trans rfl; have hfz168_0 := blk_frozen BK642.out 0; have hfz168_1 := blk_frozen BK642.out 1) | ((with_reducible refine gate_callee (f := 27) rfl ?_); refine goesL_ (some 117) rfl rfl Try.func27 (by kernel_rfl) rfl #[.agg #[.int .u64 x655000_109, .int .u64 x655001_109], .agg #[.int .u64 a1_0, .int .u64 a1_1]] rfl (by (try simp only [List.map_toArray, List.map_cons, List.map_nil]); first | done | rfl | (simp only [List.length_drop, List.length_take]; rfl) | (go_simp; simp only [u8_w, w64_u8]; done) | (go_simp; simp only [u8_w, w64_u8]; rfl)) ?_; (with_reducible refine (wide_Cmp.calls x655000_109 x655001_109 a1_0 a1_1 t674 _ A148.out).mono ?_); rintro e w169 ⟨rfl, hb⟩; refine ⟨_, rfl, ?_⟩; have n0_ := blkB BK641 hb; have n1_ := blkB BK642 hb; have n2_ := blkB BK646 hb; have n3_ := blkB BK650 hb; have n4_ := blkB BK654 hb; have n5_ := blkB BK661 hb; have n6_ := blkB BK665 hb; have n7_ := Aside0.mk (below_step (bL HB) hb); clear BK641 BK642 BK646 BK650 BK654 BK661 BK665 HB; have BK641 := n0_; have BK642 := n1_; have BK646 := n2_; have BK650 := n3_; have BK654 := n4_; have BK661 := n5_; have BK665 := n6_; have HB := n7_; clear n0_ n1_ n2_ n3_ n4_ n5_ n6_ n7_; (try clear hb); (try clear hb2); (try clear hk); (try clear hi)))
                      go_ret
                      exact ⟨by first | rfl | (simp [errW_none, errW_some] <;> rfl) | (simp [*, errW_none, errW_some] <;> rfl), by repeat (first | (with_reducible first | exact HB.out | apply below_alloc | apply pw_below_drewN | apply below_drew1 | refine below_set ?_ GE641.out | refine below_set ?_ GE642.out | refine below_set ?_ GE646.out | refine below_set ?_ GE650.out | refine below_set ?_ GE654.out | refine below_set ?_ GE661.out | refine below_set ?_ GE665.out) | exact HB.out)⟩
                    · rw [if_neg c147] at H
                      have c147b0 : decide (0 < t673) = false := decide_eq_false c147
                      clear c147
                      replace H := Option.bind_eq_some_iff.mp H
                      obtain ⟨⟨t675, t676, t677⟩, A1700, H⟩ := H
                      replace H : (if t677 = 0 then ((wide_Cmp.f a1_0 a1_1 t675 t676).bind fun t679 => (some (decide (t679 < 0)))) else (none)) = some r := H
                      have A170 := Aside0.mk A1700
                      clear A1700
                      by_cases c171 : t677 = 0
                      · rw [if_pos c171] at H
                        have c171b0 : (t677 == 0) = true := beq_iff_eq.mpr c171
                        have c171b1 : (t677 != 0) = false := bne_eq_false_iff_eq.mpr c171
                        clear c171
                        replace H := Option.bind_eq_some_iff.mp H
                        obtain ⟨t679, A1720, H⟩ := H
                        replace H : (some (decide (t679 < 0))) = some r := H
                        have A172 := Aside0.mk A1720
                        clear A1720
                        obtain rfl := Option.some.inj H
                        have hnb173 := NB642_641.out
                        have hnc173 := NB641_642.out
                        have hnb174 := NB642_646.out
                        have hnc174 := NB646_642.out
                        have hnb175 := NB642_650.out
                        have hnc175 := NB650_642.out
                        have hnb176 := NB642_654.out
                        have hnc176 := NB654_642.out
                        have hnb177 := NB642_661.out
                        have hnc177 := NB661_642.out
                        have hnb178 := NB642_665.out
                        have hnc178 := NB665_642.out
                        have hcz179_0 : wc.cell? ⟨gb642, 0, none⟩ = some (.int .u64 a1_0) := (blk_cell BK642.out 0).trans rfl
                        have hcz179_1 : wc.cell? ⟨gb642, 1, none⟩ = some (.int .u64 a1_1) := (blk_cell BK642.out 1).trans rfl
                        have hfz179_0 := blk_frozen BK642.out 0
                        have hfz179_1 := blk_frozen BK642.out 1
                        have hnb180 := NB646_641.out
                        have hnc180 := NB641_646.out
                        have hnb181 := NB646_650.out
                        have hnc181 := NB650_646.out
                        have hnb182 := NB646_654.out
                        have hnc182 := NB654_646.out
                        have hnb183 := NB646_661.out
                        have hnc183 := NB661_646.out
                        have hnb184 := NB646_665.out
                        have hnc184 := NB665_646.out
                        have hcz185_0 : wc.cell? ⟨gb646, 0, none⟩ = some (.int .u64 t644) := (blk_cell BK646.out 0).trans rfl
                        have hcz185_1 : wc.cell? ⟨gb646, 1, none⟩ = some (.int .u64 t645) := (blk_cell BK646.out 1).trans rfl
                        have hfz185_0 := blk_frozen BK646.out 0
                        have hfz185_1 := blk_frozen BK646.out 1
                        go_wp2_with (first | ((with_reducible refine gate_callee (f := 27) rfl ?_); refine goesL_ (some 113) rfl rfl Try.func27 (by kernel_rfl) rfl #[.agg #[.int .u64 a1_0, .int .u64 a1_1], .agg #[.int .u64 t644, .int .u64 t645]] rfl (by (try simp only [List.map_toArray, List.map_cons, List.map_nil]); first | done | rfl | (simp only [List.length_drop, List.length_take]; rfl) | (go_simp; simp only [u8_w, w64_u8]; done) | (go_simp; simp only [u8_w, w64_u8]; rfl)) ?_; (with_reducible refine (wide_Cmp.calls a1_0 a1_1 t644 t645 t673 _ A146.out).mono ?_); rintro e w186 ⟨rfl, hb⟩; refine ⟨_, rfl, ?_⟩; have n0_ := blkB BK641 hb; have n1_ := blkB BK642 hb; have n2_ := blkB BK646 hb; have n3_ := blkB BK650 hb; have n4_ := blkB BK654 hb; have n5_ := blkB BK661 hb; have n6_ := blkB BK665 hb; have n7_ := Aside0.mk (below_step (bL HB) hb); clear BK641 BK642 BK646 BK650 BK654 BK661 BK665 HB; have BK641 := n0_; have BK642 := n1_; have BK646 := n2_; have BK650 := n3_; have BK654 := n4_; have BK661 := n5_; have BK665 := n6_; have HB := n7_; clear n0_ n1_ n2_ n3_ n4_ n5_ n6_ n7_; (try clear hb); (try clear hb2); (try clear hk); (try clear hi); have hnb187 := NB654_641.out; have hnc187 := NB641_654.out; have hnb188 := NB654_650.out; have hnc188 := NB650_654.out; have hnb189 := NB654_661.out; have hnc189 := NB661_654.out; have hnb190 := NB654_665.out; have hnc190 := NB665_654.out; have hcz191_0 : w186.cell? ⟨gb654, 0, none⟩ = some (.int .u64 x655000_109) := (blk_cell BK654.out 0).trans rfl; have hcz191_1 : w186.cell? ⟨gb654, 1, none⟩ = some (.int .u64 x655001_109) := (blk_cell BK654.out 1).trans rfl; have hfz191_0 := blk_frozen BK654.out 0; have hfz191_1 := blk_frozen BK654.out 1) | ((with_reducible refine gate_callee (f := 21) rfl ?_); refine goesL_ (some 121) rfl rfl Try.func21 (by kernel_rfl) rfl #[.agg #[.int .u64 x655000_109, .int .u64 x655001_109]] rfl (by (try simp only [List.map_toArray, List.map_cons, List.map_nil]); first | done | rfl | (simp only [List.length_drop, List.length_take]; rfl) | (go_simp; simp only [u8_w, w64_u8]; done) | (go_simp; simp only [u8_w, w64_u8]; rfl)) ?_; (with_reducible refine (wide_Neg.calls x655000_109 x655001_109 t675 t676 t677 _ A170.out).mono ?_); rintro e w192 ⟨rfl, hb⟩; refine ⟨_, rfl, ?_⟩; have n0_ := blkB BK641 hb; have n1_ := blkB BK642 hb; have n2_ := blkB BK646 hb; have n3_ := blkB BK650 hb; have n4_ := blkB BK654 hb; have n5_ := blkB BK661 hb; have n6_ := blkB BK665 hb; have n7_ := Aside0.mk (below_step (bL HB) hb); clear BK641 BK642 BK646 BK650 BK654 BK661 BK665 HB; have BK641 := n0_; have BK642 := n1_; have BK646 := n2_; have BK650 := n3_; have BK654 := n4_; have BK661 := n5_; have BK665 := n6_; have HB := n7_; clear n0_ n1_ n2_ n3_ n4_ n5_ n6_ n7_; (try clear hb); (try clear hb2); (try clear hk); (try clear hi)) | ((with_reducible refine gate_dst (N := 16) rfl ?_); refine box_event ?hg (N := 16) ?hd (cs := #[.int .u64 0, .int .u64 0]) (t := 24) ?hr ?_; (case hd => rfl); (case hg => rfl); (case hr => first | (go_simp; done) | (go_simp; rfl)); intro gb678 hg w193 hbox hb; have n0_ := blkB BK641 hb; have n1_ := blkB BK642 hb; have n2_ := blkB BK646 hb; have n3_ := blkB BK650 hb; have n4_ := blkB BK654 hb; have n5_ := blkB BK661 hb; have n6_ := blkB BK665 hb; have n7_ := Aside0.mk (below_step (bL HB) hb); have n8_ := Aside0.mk (hbox); have n9_ := Aside0.mk ((by rw [hg]; exact (below_size (bL HB)) : w.heap.size ≤ gb678)); have n10_ := Aside0.mk ((by rw [hg]; exact (below_size (bL HB)) : w.heap.size ≤ gb678)); have n11_ := blkL BK641 hg; have n12_ := blkG BK641 hg; have n13_ := blkL BK642 hg; have n14_ := blkG BK642 hg; have n15_ := blkL BK646 hg; have n16_ := blkG BK646 hg; have n17_ := blkL BK650 hg; have n18_ := blkG BK650 hg; have n19_ := blkL BK654 hg; have n20_ := blkG BK654 hg; have n21_ := blkL BK661 hg; have n22_ := blkG BK661 hg; have n23_ := blkL BK665 hg; have n24_ := blkG BK665 hg; clear BK641 BK642 BK646 BK650 BK654 BK661 BK665 HB; have BK641 := n0_; have BK642 := n1_; have BK646 := n2_; have BK650 := n3_; have BK654 := n4_; have BK661 := n5_; have BK665 := n6_; have HB := n7_; have BK678 := n8_; have GW678 := n9_; have GE678 := n10_; have NB641_678 := n11_; have NB678_641 := n12_; have NB642_678 := n13_; have NB678_642 := n14_; have NB646_678 := n15_; have NB678_646 := n16_; have NB650_678 := n17_; have NB678_650 := n18_; have NB654_678 := n19_; have NB678_654 := n20_; have NB661_678 := n21_; have NB678_661 := n22_; have NB665_678 := n23_; have NB678_665 := n24_; clear n0_ n1_ n2_ n3_ n4_ n5_ n6_ n7_ n8_ n9_ n10_ n11_ n12_ n13_ n14_ n15_ n16_ n17_ n18_ n19_ n20_ n21_ n22_ n23_ n24_; clear hb hbox hg; have hnb194 := NB678_641.out; have hnc194 := NB641_678.out; have hnb195 := NB678_642.out; have hnc195 := NB642_678.out; have hnb196 := NB678_646.out; have hnc196 := NB646_678.out; have hnb197 := NB678_650.out; have hnc197 := NB650_678.out; have hnb198 := NB678_654.out; have hnc198 := NB654_678.out; have hnb199 := NB678_661.out; have hnc199 := NB661_678.out; have hnb200 := NB678_665.out; have hnc200 := NB665_678.out; have hcz201_0 : w193.cell? ⟨gb678, 0, none⟩ = some (.int .u64 0) := (blk_cell BK678.out 0).trans rfl; have hcz201_1 : w193.cell? ⟨gb678, 1, none⟩ = some (.int .u64 0) := (blk_cell BK678.out 1).trans rfl; have hfz201_0 := blk_frozen BK678.out 0; have hfz201_1 := blk_frozen BK678.out 1; have hcz202_0 : w193.cell? ⟨gb642, 0, none⟩ = some (.int .u64 a1_0) := (blk_cell BK642.out 0).trans rfl; have hcz202_1 : w193.cell? ⟨gb642, 1, none⟩ = some (.int .u64 a1_1) := (blk_cell BK642.out 1).trans rfl; have hfz202_0 := blk_frozen BK642.out 0; have hfz202_1 := blk_frozen BK642.out 1) | (go_at_call 27; (with_reducible refine (wide_Cmp.calls a1_0 a1_1 t675 t676 t679 _ A172.out).mono ?_); rintro e w203 ⟨rfl, hb⟩; have n0_ := Aside0.mk (blk_below (g := gb641) (o := .cells #[.int .u64 a0_0, .int .u64 a0_1] 24 (0, 0)) (bF BK641) hb); have n1_ := Aside0.mk (blk_below (g := gb642) (o := .cells #[.int .u64 a1_0, .int .u64 a1_1] 24 (0, 0)) (bF BK642) hb); have n2_ := Aside0.mk (blk_below (g := gb646) (o := .cells #[.int .u64 t644, .int .u64 t645] 24 (0, 0)) (bF BK646) hb); have n3_ := Aside0.mk (blk_below (g := gb650) (o := .cells #[.int .u64 t647, .int .u64 t648] 24 (0, 0)) (bF BK650) hb); have n4_ := Aside0.mk (blk_below (g := gb654) (o := .cells #[.int .u64 x655000_109, .int .u64 x655001_109] 24 (0, 0)) (bF BK654) hb); have n5_ := Aside0.mk (blk_below (g := gb661) (o := .cells #[.int .u64 t658, .int .u64 t659] 24 (0, 0)) (bF BK661) hb); have n6_ := Aside0.mk (blk_below (g := gb665) (o := .cells #[.int .u64 t662, .int .u64 t663] 24 (0, 0)) (bF BK665) hb); have n7_ := Aside0.mk (blk_below (g := gb678) (o := .cells #[.int .u64 t675, .int .u64 t676] 24 (0, 0)) (by (with_reducible repeat (first | refine blk_drewN ?_ _ | refine blk_drew ?_ | refine blk_alloc ?_ _)); refine blk_put (cs := #[.int .u64 t675, .int .u64 0]) ?_ 1 _ rfl; (with_reducible repeat (first | refine blk_drewN ?_ _ | refine blk_drew ?_ | refine blk_alloc ?_ _)); refine blk_put (cs := #[.int .u64 0, .int .u64 0]) ?_ 0 _ rfl; (with_reducible repeat (first | refine blk_drewN ?_ _ | refine blk_drew ?_ | refine blk_alloc ?_ _)); exact BK678.out) hb); have n8_ := Aside0.mk (below_step (bL HB) hb); clear BK641 BK642 BK646 BK650 BK654 BK661 BK665 BK678 HB; have BK641 := n0_; have BK642 := n1_; have BK646 := n2_; have BK650 := n3_; have BK654 := n4_; have BK661 := n5_; have BK665 := n6_; have BK678 := n7_; have HB := n8_; clear n0_ n1_ n2_ n3_ n4_ n5_ n6_ n7_ n8_; (try clear hb); (try clear hb2); (try clear hk); (try clear hi)))
                        go_ret
                        exact ⟨by first | rfl | (simp [errW_none, errW_some] <;> rfl) | (simp [*, errW_none, errW_some] <;> rfl), by repeat (first | (with_reducible first | exact HB.out | apply below_alloc | apply pw_below_drewN | apply below_drew1 | refine below_set ?_ GE641.out | refine below_set ?_ GE642.out | refine below_set ?_ GE646.out | refine below_set ?_ GE650.out | refine below_set ?_ GE654.out | refine below_set ?_ GE661.out | refine below_set ?_ GE665.out | refine below_set ?_ GE678.out) | exact HB.out)⟩
                      · rw [if_neg c171] at H
                        exact absurd H (by simp)
        · rw [if_neg c39] at H
          have c39b0 : (t649 == 0) = false := beq_eq_false_iff_ne.mpr c39
          have c39b1 : (t649 != 0) = true := bne_iff_ne.mpr c39
          replace H := Option.bind_eq_some_iff.mp H
          obtain ⟨⟨t655, t656⟩, A2040, H⟩ := H
          replace H : (if (a1_0 == t655 && (a1_1 == t656)) = true then (if (t651 == t644 && (t652 == t645)) = true then ((wide_Cmp.f a0_0 a0_1 t644 t645).bind fun t657 => (some (decide (t657 < 0)))) else (none)) else (none)) = some r := H
          have A204 := Aside0.mk A2040
          clear A2040
          by_cases c205 : (a1_0 == t655 && (a1_1 == t656)) = true
          · rw [if_pos c205] at H
            have c205b0 : (a1_0 == t655 && (a1_1 == t656)) = true := c205
            (try (have c205b1 : decide (a1_0 = t655 && (a1_1 == t656)) = true := by simpa using c205))
            (try (have c205b2 : (a1_0 == t655 && (a1_1 == t656)) = true := by simpa using c205))
            clear c205
            by_cases c206 : (t651 == t644 && (t652 == t645)) = true
            · rw [if_pos c206] at H
              have c206b0 : (t651 == t644 && (t652 == t645)) = true := c206
              (try (have c206b1 : decide (t651 = t644 && (t652 == t645)) = true := by simpa using c206))
              (try (have c206b2 : (t651 == t644 && (t652 == t645)) = true := by simpa using c206))
              clear c206
              replace H := Option.bind_eq_some_iff.mp H
              obtain ⟨t657, A2070, H⟩ := H
              replace H : (some (decide (t657 < 0))) = some r := H
              have A207 := Aside0.mk A2070
              clear A2070
              obtain rfl := Option.some.inj H
              go_enter Try.func7, Try.ntmps7
              try go_wp2_with (first | ((with_reducible refine gate_dst (N := 2) rfl ?_); refine box_event ?hg (N := 2) ?hd (cs := #[.int .u64 a0_0, .int .u64 a0_1]) (t := 24) ?hr ?_; (case hd => rfl); (case hg => rfl); (case hr => first | (go_simp; done) | (go_simp; rfl)); intro gb641 hg w208 hbox hb; have n0_ := Aside0.mk (below_step (bL HB) hb); have n1_ := Aside0.mk (hbox); have n2_ := Aside0.mk ((by rw [hg]; exact (below_size (bL HB)) : w.heap.size ≤ gb641)); have n3_ := Aside0.mk ((by rw [hg]; exact (below_size (bL HB)) : w.heap.size ≤ gb641)); clear HB; have HB := n0_; have BK641 := n1_; have GW641 := n2_; have GE641 := n3_; clear n0_ n1_ n2_ n3_; clear hb hbox hg) | ((with_reducible refine gate_dst (N := 3) rfl ?_); refine box_event ?hg (N := 3) ?hd (cs := #[.int .u64 a1_0, .int .u64 a1_1]) (t := 24) ?hr ?_; (case hd => rfl); (case hg => rfl); (case hr => first | (go_simp; done) | (go_simp; rfl)); intro gb642 hg w209 hbox hb; have n0_ := blkB BK641 hb; have n1_ := Aside0.mk (below_step (bL HB) hb); have n2_ := Aside0.mk (hbox); have n3_ := Aside0.mk ((by rw [hg]; exact (below_size (bL HB)) : w.heap.size ≤ gb642)); have n4_ := Aside0.mk ((by rw [hg]; exact (below_size (bL HB)) : w.heap.size ≤ gb642)); have n5_ := blkL BK641 hg; have n6_ := blkG BK641 hg; clear BK641 HB; have BK641 := n0_; have HB := n1_; have BK642 := n2_; have GW642 := n3_; have GE642 := n4_; have NB641_642 := n5_; have NB642_641 := n6_; clear n0_ n1_ n2_ n3_ n4_ n5_ n6_; clear hb hbox hg) | ((with_reducible refine gate_callee (f := 8) rfl ?_); refine goesL_ (some 18) rfl rfl Try.func8 (by kernel_rfl) rfl #[] rfl (by (try simp only [List.map_toArray, List.map_cons, List.map_nil]); first | done | rfl | (simp only [List.length_drop, List.length_take]; rfl) | (go_simp; simp only [u8_w, w64_u8]; done) | (go_simp; simp only [u8_w, w64_u8]; rfl)) ?_; (with_reducible refine (lorgnettelaw01_awake.calls k  true _ A3.out).mono ?_); rintro e w210 ⟨rfl, hb⟩; refine ⟨_, rfl, ?_⟩; have n0_ := blkB BK641 hb; have n1_ := blkB BK642 hb; have n2_ := Aside0.mk (below_step (bL HB) hb); clear BK641 BK642 HB; have BK641 := n0_; have BK642 := n1_; have HB := n2_; clear n0_ n1_ n2_; (try clear hb); (try clear hb2); (try clear hk); (try clear hi)) | ((with_reducible refine gate_callee (f := 12) rfl ?_); refine goesL_ (some 20) rfl rfl Try.func12 (by kernel_rfl) rfl #[.int .i64 0] rfl (by (try simp only [List.map_toArray, List.map_cons, List.map_nil]); first | done | rfl | (simp only [List.length_drop, List.length_take]; rfl) | (go_simp; simp only [u8_w, w64_u8]; done) | (go_simp; simp only [u8_w, w64_u8]; rfl)) ?_; (with_reducible refine (wide_Of.calls 0 t644 t645 _ A5.out).mono ?_); rintro e w211 ⟨rfl, hb⟩; refine ⟨_, rfl, ?_⟩; have n0_ := blkB BK641 hb; have n1_ := blkB BK642 hb; have n2_ := Aside0.mk (below_step (bL HB) hb); clear BK641 BK642 HB; have BK641 := n0_; have BK642 := n1_; have HB := n2_; clear n0_ n1_ n2_; (try clear hb); (try clear hb2); (try clear hk); (try clear hi)) | ((with_reducible refine gate_dst (N := 5) rfl ?_); refine box_event ?hg (N := 5) ?hd (cs := #[.int .u64 0, .int .u64 0]) (t := 24) ?hr ?_; (case hd => rfl); (case hg => rfl); (case hr => first | (go_simp; done) | (go_simp; rfl)); intro gb646 hg w212 hbox hb; have n0_ := blkB BK641 hb; have n1_ := blkB BK642 hb; have n2_ := Aside0.mk (below_step (bL HB) hb); have n3_ := Aside0.mk (hbox); have n4_ := Aside0.mk ((by rw [hg]; exact (below_size (bL HB)) : w.heap.size ≤ gb646)); have n5_ := Aside0.mk ((by rw [hg]; exact (below_size (bL HB)) : w.heap.size ≤ gb646)); have n6_ := blkL BK641 hg; have n7_ := blkG BK641 hg; have n8_ := blkL BK642 hg; have n9_ := blkG BK642 hg; clear BK641 BK642 HB; have BK641 := n0_; have BK642 := n1_; have HB := n2_; have BK646 := n3_; have GW646 := n4_; have GE646 := n5_; have NB641_646 := n6_; have NB646_641 := n7_; have NB642_646 := n8_; have NB646_642 := n9_; clear n0_ n1_ n2_ n3_ n4_ n5_ n6_ n7_ n8_ n9_; clear hb hbox hg; have hnb213 := NB646_641.out; have hnc213 := NB641_646.out; have hnb214 := NB646_642.out; have hnc214 := NB642_646.out; have hcz215_0 : w212.cell? ⟨gb646, 0, none⟩ = some (.int .u64 0) := (blk_cell BK646.out 0).trans rfl; have hcz215_1 : w212.cell? ⟨gb646, 1, none⟩ = some (.int .u64 0) := (blk_cell BK646.out 1).trans rfl; have hfz215_0 := blk_frozen BK646.out 0; have hfz215_1 := blk_frozen BK646.out 1; have hnb216 := NB641_642.out; have hnc216 := NB642_641.out; have hcz217_0 : w212.cell? ⟨gb641, 0, none⟩ = some (.int .u64 a0_0) := (blk_cell BK641.out 0).trans rfl; have hcz217_1 : w212.cell? ⟨gb641, 1, none⟩ = some (.int .u64 a0_1) := (blk_cell BK641.out 1).trans rfl; have hfz217_0 := blk_frozen BK641.out 0; have hfz217_1 := blk_frozen BK641.out 1; have hcz218_0 : w212.cell? ⟨gb642, 0, none⟩ = some (.int .u64 a1_0) := (blk_cell BK642.out 0).trans rfl; have hcz218_1 : w212.cell? ⟨gb642, 1, none⟩ = some (.int .u64 a1_1) := (blk_cell BK642.out 1).trans rfl; have hfz218_0 := blk_frozen BK642.out 0; have hfz218_1 := blk_frozen BK642.out 1) | ((with_reducible refine gate_callee (f := 22) rfl ?_); refine goesL_ (some 24) rfl rfl Try.func22 (by kernel_rfl) rfl #[.agg #[.int .u64 a0_0, .int .u64 a0_1], .agg #[.int .u64 a1_0, .int .u64 a1_1]] rfl (by (try simp only [List.map_toArray, List.map_cons, List.map_nil]); first | done | rfl | (simp only [List.length_drop, List.length_take]; rfl) | (go_simp; simp only [u8_w, w64_u8]; done) | (go_simp; simp only [u8_w, w64_u8]; rfl)) ?_; (with_reducible refine (wide_Quo.calls k a0_0 a0_1 a1_0 a1_1 t647 t648 t649 _ A6.out).mono ?_); rintro e w219 ⟨rfl, hb⟩; refine ⟨_, rfl, ?_⟩; have n0_ := Aside0.mk (blk_below (g := gb641) (o := .cells #[.int .u64 a0_0, .int .u64 a0_1] 24 (0, 0)) (bF BK641) hb); have n1_ := Aside0.mk (blk_below (g := gb642) (o := .cells #[.int .u64 a1_0, .int .u64 a1_1] 24 (0, 0)) (bF BK642) hb); have n2_ := Aside0.mk (blk_below (g := gb646) (o := .cells #[.int .u64 t644, .int .u64 t645] 24 (0, 0)) (by (with_reducible repeat (first | refine blk_drewN ?_ _ | refine blk_drew ?_ | refine blk_alloc ?_ _)); refine blk_put (cs := #[.int .u64 t644, .int .u64 0]) ?_ 1 _ rfl; (with_reducible repeat (first | refine blk_drewN ?_ _ | refine blk_drew ?_ | refine blk_alloc ?_ _)); refine blk_put (cs := #[.int .u64 0, .int .u64 0]) ?_ 0 _ rfl; (with_reducible repeat (first | refine blk_drewN ?_ _ | refine blk_drew ?_ | refine blk_alloc ?_ _)); exact BK646.out) hb); have n3_ := Aside0.mk (below_step (bL HB) hb); clear BK641 BK642 BK646 HB; have BK641 := n0_; have BK642 := n1_; have BK646 := n2_; have HB := n3_; clear n0_ n1_ n2_ n3_; (try clear hb); (try clear hb2); (try clear hk); (try clear hi)) | ((with_reducible refine gate_dst (N := 6) rfl ?_); refine box_event ?hg (N := 6) ?hd (cs := #[.int .u64 0, .int .u64 0]) (t := 24) ?hr ?_; (case hd => rfl); (case hg => rfl); (case hr => first | (go_simp; done) | (go_simp; rfl)); intro gb650 hg w220 hbox hb; have n0_ := blkB BK641 hb; have n1_ := blkB BK642 hb; have n2_ := blkB BK646 hb; have n3_ := Aside0.mk (below_step (bL HB) hb); have n4_ := Aside0.mk (hbox); have n5_ := Aside0.mk ((by rw [hg]; exact (below_size (bL HB)) : w.heap.size ≤ gb650)); have n6_ := Aside0.mk ((by rw [hg]; exact (below_size (bL HB)) : w.heap.size ≤ gb650)); have n7_ := blkL BK641 hg; have n8_ := blkG BK641 hg; have n9_ := blkL BK642 hg; have n10_ := blkG BK642 hg; have n11_ := blkL BK646 hg; have n12_ := blkG BK646 hg; clear BK641 BK642 BK646 HB; have BK641 := n0_; have BK642 := n1_; have BK646 := n2_; have HB := n3_; have BK650 := n4_; have GW650 := n5_; have GE650 := n6_; have NB641_650 := n7_; have NB650_641 := n8_; have NB642_650 := n9_; have NB650_642 := n10_; have NB646_650 := n11_; have NB650_646 := n12_; clear n0_ n1_ n2_ n3_ n4_ n5_ n6_ n7_ n8_ n9_ n10_ n11_ n12_; clear hb hbox hg; have hnb221 := NB650_641.out; have hnc221 := NB641_650.out; have hnb222 := NB650_642.out; have hnc222 := NB642_650.out; have hnb223 := NB650_646.out; have hnc223 := NB646_650.out; have hcz224_0 : w220.cell? ⟨gb650, 0, none⟩ = some (.int .u64 0) := (blk_cell BK650.out 0).trans rfl; have hcz224_1 : w220.cell? ⟨gb650, 1, none⟩ = some (.int .u64 0) := (blk_cell BK650.out 1).trans rfl; have hfz224_0 := blk_frozen BK650.out 0; have hfz224_1 := blk_frozen BK650.out 1; have hcz225_0 : w220.cell? ⟨gb641, 0, none⟩ = some (.int .u64 a0_0) := (blk_cell BK641.out 0).trans rfl; have hcz225_1 : w220.cell? ⟨gb641, 1, none⟩ = some (.int .u64 a0_1) := (blk_cell BK641.out 1).trans rfl; have hfz225_0 := blk_frozen BK641.out 0; have hfz225_1 := blk_frozen BK641.out 1; have hcz226_0 : w220.cell? ⟨gb642, 0, none⟩ = some (.int .u64 a1_0) := (blk_cell BK642.out 0).trans rfl; have hcz226_1 : w220.cell? ⟨gb642, 1, none⟩ = some (.int .u64 a1_1) := (blk_cell BK642.out 1).trans rfl; have hfz226_0 := blk_frozen BK642.out 0; have hfz226_1 := blk_frozen BK642.out 1) | ((with_reducible refine gate_callee (f := 23) rfl ?_); refine goesL_ (some 30) rfl rfl Try.func23 (by kernel_rfl) rfl #[.agg #[.int .u64 a0_0, .int .u64 a0_1], .agg #[.int .u64 a1_0, .int .u64 a1_1]] rfl (by (try simp only [List.map_toArray, List.map_cons, List.map_nil]); first | done | rfl | (simp only [List.length_drop, List.length_take]; rfl) | (go_simp; simp only [u8_w, w64_u8]; done) | (go_simp; simp only [u8_w, w64_u8]; rfl)) ?_; (with_reducible refine (wide_Rem.calls k a0_0 a0_1 a1_0 a1_1 t651 t652 t653 _ A7.out).mono ?_); rintro e w227 ⟨rfl, hb⟩; refine ⟨_, rfl, ?_⟩; have n0_ := Aside0.mk (blk_below (g := gb641) (o := .cells #[.int .u64 a0_0, .int .u64 a0_1] 24 (0, 0)) (bF BK641) hb); have n1_ := Aside0.mk (blk_below (g := gb642) (o := .cells #[.int .u64 a1_0, .int .u64 a1_1] 24 (0, 0)) (bF BK642) hb); have n2_ := Aside0.mk (blk_below (g := gb646) (o := .cells #[.int .u64 t644, .int .u64 t645] 24 (0, 0)) (bF BK646) hb); have n3_ := Aside0.mk (blk_below (g := gb650) (o := .cells #[.int .u64 t647, .int .u64 t648] 24 (0, 0)) (by (with_reducible repeat (first | refine blk_drewN ?_ _ | refine blk_drew ?_ | refine blk_alloc ?_ _)); refine blk_put (cs := #[.int .u64 t647, .int .u64 0]) ?_ 1 _ rfl; (with_reducible repeat (first | refine blk_drewN ?_ _ | refine blk_drew ?_ | refine blk_alloc ?_ _)); refine blk_put (cs := #[.int .u64 0, .int .u64 0]) ?_ 0 _ rfl; (with_reducible repeat (first | refine blk_drewN ?_ _ | refine blk_drew ?_ | refine blk_alloc ?_ _)); exact BK650.out) hb); have n4_ := Aside0.mk (below_step (bL HB) hb); clear BK641 BK642 BK646 BK650 HB; have BK641 := n0_; have BK642 := n1_; have BK646 := n2_; have BK650 := n3_; have HB := n4_; clear n0_ n1_ n2_ n3_ n4_; (try clear hb); (try clear hb2); (try clear hk); (try clear hi)) | ((with_reducible refine gate_dst (N := 8) rfl ?_); refine box_event ?hg (N := 8) ?hd (cs := #[.int .u64 0, .int .u64 0]) (t := 24) ?hr ?_; (case hd => rfl); (case hg => rfl); (case hr => first | (go_simp; done) | (go_simp; rfl)); intro gb654 hg w228 hbox hb; have n0_ := blkB BK641 hb; have n1_ := blkB BK642 hb; have n2_ := blkB BK646 hb; have n3_ := blkB BK650 hb; have n4_ := Aside0.mk (below_step (bL HB) hb); have n5_ := Aside0.mk (hbox); have n6_ := Aside0.mk ((by rw [hg]; exact (below_size (bL HB)) : w.heap.size ≤ gb654)); have n7_ := Aside0.mk ((by rw [hg]; exact (below_size (bL HB)) : w.heap.size ≤ gb654)); have n8_ := blkL BK641 hg; have n9_ := blkG BK641 hg; have n10_ := blkL BK642 hg; have n11_ := blkG BK642 hg; have n12_ := blkL BK646 hg; have n13_ := blkG BK646 hg; have n14_ := blkL BK650 hg; have n15_ := blkG BK650 hg; clear BK641 BK642 BK646 BK650 HB; have BK641 := n0_; have BK642 := n1_; have BK646 := n2_; have BK650 := n3_; have HB := n4_; have BK654 := n5_; have GW654 := n6_; have GE654 := n7_; have NB641_654 := n8_; have NB654_641 := n9_; have NB642_654 := n10_; have NB654_642 := n11_; have NB646_654 := n12_; have NB654_646 := n13_; have NB650_654 := n14_; have NB654_650 := n15_; clear n0_ n1_ n2_ n3_ n4_ n5_ n6_ n7_ n8_ n9_ n10_ n11_ n12_ n13_ n14_ n15_; clear hb hbox hg; have hnb229 := NB654_641.out; have hnc229 := NB641_654.out; have hnb230 := NB654_642.out; have hnc230 := NB642_654.out; have hnb231 := NB654_646.out; have hnc231 := NB646_654.out; have hnb232 := NB654_650.out; have hnc232 := NB650_654.out; have hcz233_0 : w228.cell? ⟨gb654, 0, none⟩ = some (.int .u64 0) := (blk_cell BK654.out 0).trans rfl; have hcz233_1 : w228.cell? ⟨gb654, 1, none⟩ = some (.int .u64 0) := (blk_cell BK654.out 1).trans rfl; have hfz233_0 := blk_frozen BK654.out 0; have hfz233_1 := blk_frozen BK654.out 1; have hcz234_0 : w228.cell? ⟨gb642, 0, none⟩ = some (.int .u64 a1_0) := (blk_cell BK642.out 0).trans rfl; have hcz234_1 : w228.cell? ⟨gb642, 1, none⟩ = some (.int .u64 a1_1) := (blk_cell BK642.out 1).trans rfl; have hfz234_0 := blk_frozen BK642.out 0; have hfz234_1 := blk_frozen BK642.out 1; have hcz235_0 : w228.cell? ⟨gb646, 0, none⟩ = some (.int .u64 t644) := (blk_cell BK646.out 0).trans rfl; have hcz235_1 : w228.cell? ⟨gb646, 1, none⟩ = some (.int .u64 t645) := (blk_cell BK646.out 1).trans rfl; have hfz235_0 := blk_frozen BK646.out 0; have hfz235_1 := blk_frozen BK646.out 1))
              have n0_ : Aside0 (((w228.setCell ⟨gb654, 0, none⟩ (.int .u64 t651)).setCell ⟨gb654, 1, none⟩ (.int .u64 t652)).heap[gb641]? = some (.cells #[.int .u64 a0_0, .int .u64 a0_1] 24 (0, 0))) := ⟨by (with_reducible repeat (first | refine blk_drewN ?_ _ | refine blk_drew ?_ | refine blk_alloc ?_ _)); refine blk_far ?_ NB641_654.out _; (with_reducible repeat (first | refine blk_drewN ?_ _ | refine blk_drew ?_ | refine blk_alloc ?_ _)); refine blk_far ?_ NB641_654.out _; (with_reducible repeat (first | refine blk_drewN ?_ _ | refine blk_drew ?_ | refine blk_alloc ?_ _)); exact BK641.out⟩
              have n1_ : Aside0 (((w228.setCell ⟨gb654, 0, none⟩ (.int .u64 t651)).setCell ⟨gb654, 1, none⟩ (.int .u64 t652)).heap[gb642]? = some (.cells #[.int .u64 a1_0, .int .u64 a1_1] 24 (0, 0))) := ⟨by (with_reducible repeat (first | refine blk_drewN ?_ _ | refine blk_drew ?_ | refine blk_alloc ?_ _)); refine blk_far ?_ NB642_654.out _; (with_reducible repeat (first | refine blk_drewN ?_ _ | refine blk_drew ?_ | refine blk_alloc ?_ _)); refine blk_far ?_ NB642_654.out _; (with_reducible repeat (first | refine blk_drewN ?_ _ | refine blk_drew ?_ | refine blk_alloc ?_ _)); exact BK642.out⟩
              have n2_ : Aside0 (((w228.setCell ⟨gb654, 0, none⟩ (.int .u64 t651)).setCell ⟨gb654, 1, none⟩ (.int .u64 t652)).heap[gb646]? = some (.cells #[.int .u64 t644, .int .u64 t645] 24 (0, 0))) := ⟨by (with_reducible repeat (first | refine blk_drewN ?_ _ | refine blk_drew ?_ | refine blk_alloc ?_ _)); refine blk_far ?_ NB646_654.out _; (with_reducible repeat (first | refine blk_drewN ?_ _ | refine blk_drew ?_ | refine blk_alloc ?_ _)); refine blk_far ?_ NB646_654.out _; (with_reducible repeat (first | refine blk_drewN ?_ _ | refine blk_drew ?_ | refine blk_alloc ?_ _)); exact BK646.out⟩
              have n3_ : Aside0 (((w228.setCell ⟨gb654, 0, none⟩ (.int .u64 t651)).setCell ⟨gb654, 1, none⟩ (.int .u64 t652)).heap[gb650]? = some (.cells #[.int .u64 t647, .int .u64 t648] 24 (0, 0))) := ⟨by (with_reducible repeat (first | refine blk_drewN ?_ _ | refine blk_drew ?_ | refine blk_alloc ?_ _)); refine blk_far ?_ NB650_654.out _; (with_reducible repeat (first | refine blk_drewN ?_ _ | refine blk_drew ?_ | refine blk_alloc ?_ _)); refine blk_far ?_ NB650_654.out _; (with_reducible repeat (first | refine blk_drewN ?_ _ | refine blk_drew ?_ | refine blk_alloc ?_ _)); exact BK650.out⟩
              have n4_ : Aside0 (((w228.setCell ⟨gb654, 0, none⟩ (.int .u64 t651)).setCell ⟨gb654, 1, none⟩ (.int .u64 t652)).heap[gb654]? = some (.cells #[.int .u64 t651, .int .u64 t652] 24 (0, 0))) := ⟨by (with_reducible repeat (first | refine blk_drewN ?_ _ | refine blk_drew ?_ | refine blk_alloc ?_ _)); refine blk_put (cs := #[.int .u64 t651, .int .u64 0]) ?_ 1 _ rfl; (with_reducible repeat (first | refine blk_drewN ?_ _ | refine blk_drew ?_ | refine blk_alloc ?_ _)); refine blk_put (cs := #[.int .u64 0, .int .u64 0]) ?_ 0 _ rfl; (with_reducible repeat (first | refine blk_drewN ?_ _ | refine blk_drew ?_ | refine blk_alloc ?_ _)); exact BK654.out⟩
              have n5_ : Aside0 (Below w.heap.size w ((w228.setCell ⟨gb654, 0, none⟩ (.int .u64 t651)).setCell ⟨gb654, 1, none⟩ (.int .u64 t652))) := ⟨by repeat (first | (with_reducible first | exact HB.out | apply below_alloc | apply pw_below_drewN | apply below_drew1 | refine below_set ?_ GE641.out | refine below_set ?_ GE642.out | refine below_set ?_ GE646.out | refine below_set ?_ GE650.out | refine below_set ?_ GE654.out) | exact HB.out)⟩
              (try clear BK641)
              (try clear BK642)
              (try clear BK646)
              (try clear BK650)
              (try clear BK654)
              (try clear HB)
              generalize ((w228.setCell ⟨gb654, 0, none⟩ (.int .u64 t651)).setCell ⟨gb654, 1, none⟩ (.int .u64 t652)) = w236 at n0_ n1_ n2_ n3_ n4_ n5_ ⊢
              have BK641 := n0_
              have BK642 := n1_
              have BK646 := n2_
              have BK650 := n3_
              have BK654 := n4_
              have HB := n5_
              clear n0_ n1_ n2_ n3_ n4_ n5_
              have n0_ := Aside0.mk (blk_drew BK641.out)
              have n1_ := Aside0.mk (blk_drew BK642.out)
              have n2_ := Aside0.mk (blk_drew BK646.out)
              have n3_ := Aside0.mk (blk_drew BK650.out)
              have n4_ := Aside0.mk (blk_drew BK654.out)
              have n5_ := Aside0.mk (below_drew1 HB.out)
              clear BK641
              clear BK642
              clear BK646
              clear BK650
              clear BK654
              clear HB
              have BK641 := n0_
              have BK642 := n1_
              have BK646 := n2_
              have BK650 := n3_
              have BK654 := n4_
              have HB := n5_
              clear n0_ n1_ n2_ n3_ n4_ n5_
              refine start_ (n := 15) (S := fun w' => w'.cell? ⟨gb642, 0, none⟩ = some (.int .u64 a1_0) ∧ w'.cell? ⟨gb642, 1, none⟩ = some (.int .u64 a1_1) ∧ w'.cell? ⟨gb654, 0, none⟩ = some (.int .u64 t651) ∧ w'.cell? ⟨gb654, 1, none⟩ = some (.int .u64 t652) ∧ w'.cell? ⟨gb646, 0, none⟩ = some (.int .u64 t644) ∧ w'.cell? ⟨gb646, 1, none⟩ = some (.int .u64 t645) ∧ w'.cell? ⟨gb641, 0, none⟩ = some (.int .u64 a0_0) ∧ w'.cell? ⟨gb641, 1, none⟩ = some (.int .u64 a0_1)) (ds := []) #[false, false, false, false, false, false, false, false, false, false, false, false, false, false, false] (by kernel_rfl) rfl rfl ⟨(blk_cell BK642.out 0).trans rfl, (blk_cell BK642.out 1).trans rfl, (blk_cell BK654.out 0).trans rfl, (blk_cell BK654.out 1).trans rfl, (blk_cell BK646.out 0).trans rfl, (blk_cell BK646.out 1).trans rfl, (blk_cell BK641.out 0).trans rfl, (blk_cell BK641.out 1).trans rfl⟩ (fun hHeld => ?_); refine with_tabW lorgnettelaw01_WideParts.tab11 lorgnettelaw01_WideParts.bits11 (fun HT_ HW_ => ?_)
              generalize w236.drew = w237 at BK641 BK642 BK646 BK650 BK654 HB hHeld ⊢
              refine take_ (i := 0) (N := some 46) (v := ?_) (a' := ?_) #[true, false, false, false, false, false, false, false, false, false, false, false, false, false, false] rfl rfl (take_ofW HT_.out HW_.out (by kernel_rfl)) (fun _ _ _ h => h) (Or.inl ⟨by rfl, ?_⟩) hHeld ?_ ?_
              rotate_left
              · rintro w' ⟨s0, s1, s2, s3, s4, s5, s6, s7⟩
                go_simp
                with_reducible rfl
              rotate_left
              · simp only [Act.put, List.setIfInBounds_toArray, List.set_cons_zero, List.set_cons_succ, i64_w, i32_w]
                rfl
              refine one_ (i := 1) (N := some 47) #[true, true, false, false, false, false, false, false, false, false, false, false, false, false, false] rfl rfl (one_of HT_.out (by kernel_rfl)) (by decide) (fun K hK => ?_)
              refine goes_ Try.func12 (by kernel_rfl) rfl #[.int .i64 (-1)] (by rfl) rfl rfl (by (try simp only [List.map_toArray, List.map_cons, List.map_nil]); first | done | rfl | (simp only [List.length_drop, List.length_take]; rfl) | (go_simp; simp only [u8_w, w64_u8]; done) | (go_simp; simp only [u8_w, w64_u8]; rfl)) ?_
              with_reducible refine (wide_Of.calls (-1) t655 t656 _ A204.out).mono ?_
              rintro e w238 ⟨rfl, hb⟩
              refine ⟨_, rfl, ?_⟩
              have n0_ := blkB BK641 hb
              have n1_ := blkB BK642 hb
              have n2_ := blkB BK646 hb
              have n3_ := blkB BK650 hb
              have n4_ := blkB BK654 hb
              have n5_ := Aside0.mk (below_step (bL HB) hb)
              clear BK641
              clear BK642
              clear BK646
              clear BK650
              clear BK654
              clear HB
              have BK641 := n0_
              have BK642 := n1_
              have BK646 := n2_
              have BK650 := n3_
              have BK654 := n4_
              have HB := n5_
              clear n0_ n1_ n2_ n3_ n4_ n5_
              (try clear hb)
              (try clear hb2)
              (try clear hk)
              (try clear hi)
              refine hK.out _ _ ⟨(blk_cell BK642.out 0).trans rfl, (blk_cell BK642.out 1).trans rfl, (blk_cell BK654.out 0).trans rfl, (blk_cell BK654.out 1).trans rfl, (blk_cell BK646.out 0).trans rfl, (blk_cell BK646.out 1).trans rfl, (blk_cell BK641.out 0).trans rfl, (blk_cell BK641.out 1).trans rfl⟩ (fun hHeld => ?_)
              clear hK K
              refine norm_ (a' := ?_) ?_ ?_
              rotate_left
              · show Act.put _ (some 47) _ = _
                simp only [Act.put, List.setIfInBounds_toArray, List.set_cons_zero, List.set_cons_succ, i64_w, i32_w]
                rfl
              refine pure_ (i := 2) (N := some 48) (v := ?_) (a' := ?_) #[true, true, true, false, false, false, false, false, false, false, false, false, false, false, false] rfl rfl (any_of HT_.out (by kernel_rfl)) (fun _ _ _ h => h) (Or.inl ⟨by rfl, ?_⟩) ?_ ?_
              rotate_left
              · intro w'
                go_simp
                with_reducible rfl
              rotate_left
              · simp only [Act.put, List.setIfInBounds_toArray, List.set_cons_zero, List.set_cons_succ, i64_w, i32_w]
                rfl
              refine pure_ (i := 3) (N := some 49) (v := ?_) (a' := ?_) #[true, true, true, true, false, false, false, false, false, false, false, false, false, false, false] rfl rfl (any_of HT_.out (by kernel_rfl)) (fun _ _ _ h => h) (Or.inl ⟨by rfl, ?_⟩) ?_ ?_
              rotate_left
              · intro w'
                go_simp
                with_reducible rfl
              rotate_left
              · simp only [Act.put, List.setIfInBounds_toArray, List.set_cons_zero, List.set_cons_succ, i64_w, i32_w]
                rfl
              refine take_ (i := 4) (N := some 50) (v := ?_) (a' := ?_) #[true, true, true, true, true, false, false, false, false, false, false, false, false, false, false] rfl rfl (take_ofW HT_.out HW_.out (by kernel_rfl)) (fun _ _ _ h => h) (Or.inl ⟨by rfl, ?_⟩) hHeld ?_ ?_
              rotate_left
              · rintro w' ⟨s0, s1, s2, s3, s4, s5, s6, s7⟩
                go_simp
                with_reducible rfl
              rotate_left
              · simp only [Act.put, List.setIfInBounds_toArray, List.set_cons_zero, List.set_cons_succ, i64_w, i32_w]
                rfl
              refine take_ (i := 5) (N := some 51) (v := ?_) (a' := ?_) #[true, true, true, true, true, true, false, false, false, false, false, false, false, false, false] rfl rfl (take_ofW HT_.out HW_.out (by kernel_rfl)) (fun _ _ _ h => h) (Or.inl ⟨by rfl, ?_⟩) hHeld ?_ ?_
              rotate_left
              · rintro w' ⟨s0, s1, s2, s3, s4, s5, s6, s7⟩
                go_simp
                with_reducible rfl
              rotate_left
              · simp only [Act.put, List.setIfInBounds_toArray, List.set_cons_zero, List.set_cons_succ, i64_w, i32_w]
                rfl
              refine pure_ (i := 6) (N := some 52) (v := ?_) (a' := ?_) #[true, true, true, true, true, true, true, false, false, false, false, false, false, false, false] rfl rfl (any_of HT_.out (by kernel_rfl)) (fun _ _ _ h => h) (Or.inl ⟨by rfl, ?_⟩) ?_ ?_
              rotate_left
              · intro w'
                go_simp
                with_reducible rfl
              rotate_left
              · simp only [Act.put, List.setIfInBounds_toArray, List.set_cons_zero, List.set_cons_succ, i64_w, i32_w]
                rfl
              refine pure_ (i := 7) (N := some 53) (v := ?_) (a' := ?_) #[true, true, true, true, true, true, true, true, false, false, false, false, false, false, false] rfl rfl (any_of HT_.out (by kernel_rfl)) (fun _ _ _ h => h) (Or.inl ⟨by rfl, ?_⟩) ?_ ?_
              rotate_left
              · intro w'
                go_simp
                with_reducible rfl
              rotate_left
              · simp only [Act.put, List.setIfInBounds_toArray, List.set_cons_zero, List.set_cons_succ, i64_w, i32_w]
                rfl
              refine pure_ (i := 8) (N := some 54) (v := ?_) (a' := ?_) #[true, true, true, true, true, true, true, true, true, false, false, false, false, false, false] rfl rfl (any_of HT_.out (by kernel_rfl)) (fun _ _ _ h => h) (Or.inl ⟨by rfl, ?_⟩) ?_ ?_
              rotate_left
              · intro w'
                go_simp
                with_reducible rfl
              rotate_left
              · simp only [Act.put, List.setIfInBounds_toArray, List.set_cons_zero, List.set_cons_succ, i64_w, i32_w]
                rfl
              refine take_ (i := 9) (N := some 55) (v := ?_) (a' := ?_) #[true, true, true, true, true, true, true, true, true, true, false, false, false, false, false] rfl rfl (take_ofW HT_.out HW_.out (by kernel_rfl)) (fun _ _ _ h => h) (Or.inl ⟨by rfl, ?_⟩) hHeld ?_ ?_
              rotate_left
              · rintro w' ⟨s0, s1, s2, s3, s4, s5, s6, s7⟩
                go_simp
                with_reducible rfl
              rotate_left
              · simp only [Act.put, List.setIfInBounds_toArray, List.set_cons_zero, List.set_cons_succ, i64_w, i32_w]
                rfl
              refine take_ (i := 10) (N := some 56) (v := ?_) (a' := ?_) #[true, true, true, true, true, true, true, true, true, true, true, false, false, false, false] rfl rfl (take_ofW HT_.out HW_.out (by kernel_rfl)) (fun _ _ _ h => h) (Or.inl ⟨by rfl, ?_⟩) hHeld ?_ ?_
              rotate_left
              · rintro w' ⟨s0, s1, s2, s3, s4, s5, s6, s7⟩
                go_simp
                with_reducible rfl
              rotate_left
              · simp only [Act.put, List.setIfInBounds_toArray, List.set_cons_zero, List.set_cons_succ, i64_w, i32_w]
                rfl
              refine one_ (i := 11) (N := some 57) #[true, true, true, true, true, true, true, true, true, true, true, true, false, false, false] rfl rfl (one_of HT_.out (by kernel_rfl)) (by decide) (fun K hK => ?_)
              refine goes_ Try.func27 (by kernel_rfl) rfl #[.agg #[.int .u64 a0_0, .int .u64 a0_1], .agg #[.int .u64 t644, .int .u64 t645]] (by rfl) rfl rfl (by (try simp only [List.map_toArray, List.map_cons, List.map_nil]); first | done | rfl | (simp only [List.length_drop, List.length_take]; rfl) | (go_simp; simp only [u8_w, w64_u8]; done) | (go_simp; simp only [u8_w, w64_u8]; rfl)) ?_
              with_reducible refine (wide_Cmp.calls a0_0 a0_1 t644 t645 t657 _ A207.out).mono ?_
              rintro e w239 ⟨rfl, hb⟩
              refine ⟨_, rfl, ?_⟩
              have n0_ := blkB BK641 hb
              have n1_ := blkB BK642 hb
              have n2_ := blkB BK646 hb
              have n3_ := blkB BK650 hb
              have n4_ := blkB BK654 hb
              have n5_ := Aside0.mk (below_step (bL HB) hb)
              clear BK641
              clear BK642
              clear BK646
              clear BK650
              clear BK654
              clear HB
              have BK641 := n0_
              have BK642 := n1_
              have BK646 := n2_
              have BK650 := n3_
              have BK654 := n4_
              have HB := n5_
              clear n0_ n1_ n2_ n3_ n4_ n5_
              (try clear hb)
              (try clear hb2)
              (try clear hk)
              (try clear hi)
              refine hK.out _ _ ⟨(blk_cell BK642.out 0).trans rfl, (blk_cell BK642.out 1).trans rfl, (blk_cell BK654.out 0).trans rfl, (blk_cell BK654.out 1).trans rfl, (blk_cell BK646.out 0).trans rfl, (blk_cell BK646.out 1).trans rfl, (blk_cell BK641.out 0).trans rfl, (blk_cell BK641.out 1).trans rfl⟩ (fun hHeld => ?_)
              clear hK K
              refine norm_ (a' := ?_) ?_ ?_
              rotate_left
              · show Act.put _ (some 57) _ = _
                simp only [Act.put, List.setIfInBounds_toArray, List.set_cons_zero, List.set_cons_succ, i64_w, i32_w]
                rfl
              refine pure_ (i := 12) (N := some 58) (v := ?_) (a' := ?_) #[true, true, true, true, true, true, true, true, true, true, true, true, true, false, false] rfl rfl (any_of HT_.out (by kernel_rfl)) (fun _ _ _ h => h) (Or.inl ⟨by rfl, ?_⟩) ?_ ?_
              rotate_left
              · intro w'
                go_simp
                with_reducible rfl
              rotate_left
              · simp only [Act.put, List.setIfInBounds_toArray, List.set_cons_zero, List.set_cons_succ, i64_w, i32_w]
                rfl
              refine pure_ (i := 13) (N := some 59) (v := ?_) (a' := ?_) #[true, true, true, true, true, true, true, true, true, true, true, true, true, true, false] rfl rfl (any_of HT_.out (by kernel_rfl)) (fun _ _ _ h => h) (Or.inl ⟨by rfl, ?_⟩) ?_ ?_
              rotate_left
              · intro w'
                go_simp
                with_reducible rfl
              rotate_left
              · simp only [Act.put, List.setIfInBounds_toArray, List.set_cons_zero, List.set_cons_succ, i64_w, i32_w]
                rfl
              refine pure_ (i := 14) (N := some 4) (v := ?_) (a' := ?_) #[true, true, true, true, true, true, true, true, true, true, true, true, true, true, true] rfl rfl (any_of HT_.out (by kernel_rfl)) (fun _ _ _ h => h) (Or.inl ⟨by rfl, ?_⟩) ?_ ?_
              rotate_left
              · intro w'
                go_simp
                with_reducible rfl
              rotate_left
              · simp only [Act.put, List.setIfInBounds_toArray, List.set_cons_zero, List.set_cons_succ, i64_w, i32_w]
                rfl
              refine done_ (done_of HT_.out (by kernel_rfl)) ?_
              try go_wp2
              go_ret
              exact ⟨by first | rfl | (simp [errW_none, errW_some] <;> rfl) | (simp [*, errW_none, errW_some] <;> rfl), by repeat (first | (with_reducible first | exact HB.out | apply below_alloc | apply pw_below_drewN | apply below_drew1 | refine below_set ?_ GE641.out | refine below_set ?_ GE642.out | refine below_set ?_ GE646.out | refine below_set ?_ GE650.out | refine below_set ?_ GE654.out) | exact HB.out)⟩
            · rw [if_neg c206] at H
              exact absurd H (by simp)
          · rw [if_neg c205] at H
            exact absurd H (by simp)
      · rw [if_neg c38] at H
        exact absurd H (by simp)
  · replace c4 := Bool.eq_false_iff.mpr c4
    subst c4
    have H1 : (none) = some r := by rw [if_neg (show ¬ (false = true) by decide)] at H; exact H
    clear H
    have H := H1
    clear H1
    exact absurd H (by simp)

end Go.Proofs.Ytjnaebcdidilgaa.Q
