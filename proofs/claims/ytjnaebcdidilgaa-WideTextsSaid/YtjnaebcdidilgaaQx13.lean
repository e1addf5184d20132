/- Functions of the program as Lean functions, and their walks: printed by print.py as this session changed it (mkprint.py). Lean checks it. No condition. (halved) -/
import Derived.Test.YtjnaebcdidilgaaQx0
import Derived.Test.YtjnaebcdidilgaaQx1
import Derived.Test.YtjnaebcdidilgaaQx3
import Derived.Test.YtjnaebcdidilgaaQx7
import Derived.Test.YtjnaebcdidilgaaQx11
import Derived.Test.YtjnaebcdidilgaaQx12
namespace Go.Proofs.Ytjnaebcdidilgaa.Q
open Go.RowKit Go.Proofs.YtjnaebcdidilgaaW.PrintWords Go.Proofs.YtjnaebcdidilgaaW.PrintLast Go.Proofs.YtjnaebcdidilgaaW.PrintMore
attribute [local go_sem] max2_int min2_int max_two min_two max_three min_three max_four min_four   -- for this text's walks alone
attribute [local go_sem] Instr.field asAgg
set_option linter.unusedVariables false
set_option linter.unusedSimpArgs false

attribute [local go_sem high] eqA24
/-! ### lorgnettelaw01_awake: function 8 -/
def lorgnettelaw01_awake.f (k : Nat)  : Option (Bool) := (wide_Parse.f k (⟨#[49, 55, 48, 49, 52, 49, 49, 56, 51, 52, 54, 48, 52, 54, 57, 50, 51, 49, 55, 51, 49, 54, 56, 55, 51, 48, 51, 55, 49, 53, 56, 56, 52, 49, 48, 53, 55, 50, 55]⟩ : ByteArray)).bind fun bt229 => ((wide_Of.f 1).bind fun bt233 => ((wide_Add.f bt229.1 bt229.2.1 bt233.1 bt233.2).bind fun bt235 => ((wide_Of.f (-7)).bind fun bt239 => ((wide_Of.f 2).bind fun bt241 => ((wide_Quo.f k bt239.1 bt239.2 bt241.1 bt241.2).bind fun bt243 => ((wide_Of.f (-7)).bind fun bt247 => ((wide_Of.f 2).bind fun bt249 => ((wide_Rem.f k bt247.1 bt247.2 bt249.1 bt249.2).bind fun bt251 => (if bt229.2.2 = 0 then ((wide_Print.f k bt229.1 bt229.2.1).bind fun t255 => (if t255.toList = ([49, 55, 48, 49, 52, 49, 49, 56, 51, 52, 54, 48, 52, 54, 57, 50, 51, 49, 55, 51, 49, 54, 56, 55, 51, 48, 51, 55, 49, 53, 56, 56, 52, 49, 48, 53, 55, 50, 55] : List UInt8) then (if bt235.2.2 = 10 then ((wide_Of.f (-3)).bind fun bt256 => (if (bt243.1 == bt256.1 && (bt243.2.1 == bt256.2)) = true then (if bt243.2.2 = 0 then ((wide_Of.f (-1)).bind fun bt258 => (if (bt251.1 == bt258.1 && (bt251.2.1 == bt258.2)) = true then (if bt251.2.2 = 0 then ((wide_Print.f k bt251.1 bt251.2.1).bind fun t260 => (some (t260.toList == ([45, 49] : List UInt8)))) else (none)) else (none))) else (none)) else (none))) else (none)) else (none))) else (none))))))))))
theorem lorgnettelaw01_awake.mono : ∀ k, LeO (lorgnettelaw01_awake.f k ) (lorgnettelaw01_awake.f (k + 1) ) := by
 intro  k
 unfold lorgnettelaw01_awake.f
 repeat' first
   | (with_reducible exact wide_Parse.mono _ _)
   | (with_reducible exact wide_Print.mono _ _ _)
   | (with_reducible exact wide_Quo.mono _ _ _ _ _)
   | (with_reducible exact wide_Rem.mono _ _ _ _ _)
   | (with_reducible exact LeO.refl _)
   | (with_reducible exact LeO.none _)
   | (with_reducible refine LeO.ite ?_ ?_)
   | (with_reducible refine LeO.bind ?_ (fun _ => ?_))
def lorgnettelaw01_awake.T2 : Bool × List (List Nat × List Nat) := (true, [([], []), ([], []), ([0, 1, 1], [0, 1]), ([2], [2]), ([3], [3]), ([3], [3]), ([], []), ([6, 4, 2, 0, 1, 2, 3, 4, 6], [4, 6]), ([5, 7, 0, 1, 2, 3, 4, 5, 6, 7], [5])])
def lorgnettelaw01_awake.B2 : List Nat := [0, 0, 3, 7, 15, 15, 0, 95, 255]
theorem lorgnettelaw01_awake.tab2 : rtab .any (opsOf Try.f8 2) = lorgnettelaw01_awake.T2 := by kernel_rfl
theorem lorgnettelaw01_awake.bits2 : waitsOk lorgnettelaw01_awake.T2.2 lorgnettelaw01_awake.B2 = true := by kernel_rfl
def lorgnettelaw01_awake.T5 : Bool × List (List Nat × List Nat) := (true, [([], []), ([0], [0]), ([1], [1]), ([2], [2]), ([3, 2, 2], [2, 3]), ([4, 2], [2, 4]), ([2, 5], [2, 5]), ([6, 4], [6]), ([7], [7]), ([8, 7], [7, 8]), ([7, 9], [7, 9]), ([10, 7], [10]), ([11], [11]), ([11, 11], [11]), ([12, 13, 11], [11, 12, 13]), ([11, 14], [11, 14]), ([15, 13], [15]), ([16], [16]), ([17, 16], [16, 17]), ([16, 18], [16, 18]), ([19, 16], [19]), ([20], [20]), ([20, 20], [20]), ([21, 22, 20], [20, 21, 22]), ([20, 23], [20, 23]), ([24, 22], [24]), ([25], [25]), ([26, 25], [25, 26]), ([25, 27], [25, 27]), ([28, 25], [28]), ([29], [29]), ([30, 29, 29], [29, 30]), ([31, 29], [29, 31]), ([29, 32], [29, 32]), ([33, 31, 0, 1, 2, 3, 4, 5, 6, 7, 8, 9, 10, 11, 12, 13, 14, 15, 16, 17, 18, 19, 20, 21, 22, 23, 24, 25, 26, 27, 28, 29, 30, 31, 32, 33], [33])])
def lorgnettelaw01_awake.B5 : List Nat := [0, 1, 3, 7, 15, 31, 63, 127, 255, 511, 1023, 2047, 4095, 4095, 16383, 32767, 65535, 131071, 262143, 524287, 1048575, 2097151, 2097151, 8388607, 16777215, 33554431, 67108863, 134217727, 268435455, 536870911, 1073741823, 2147483647, 4294967295, 8589934591, 17179869183]
theorem lorgnettelaw01_awake.tab5 : rtab .any (opsOf Try.f8 5) = lorgnettelaw01_awake.T5 := by kernel_rfl
theorem lorgnettelaw01_awake.bits5 : waitsOk lorgnettelaw01_awake.T5.2 lorgnettelaw01_awake.B5 = true := by kernel_rfl
set_option maxHeartbeats 8000000 in
set_option maxRecDepth 100000 in
theorem lorgnettelaw01_awake.calls (k : Nat)  (r : Bool) (w : World) (h : lorgnettelaw01_awake.f k  = some r) :
  Calls Try.prog 8 #[] w fun e w' => e = .returned (.bool r) ∧ Below w.heap.size w w' := by
 have hu24 := Try.underlying24
 have HB := Aside0.mk (Below.refl w.heap.size w)
 have H : ((wide_Parse.f k (⟨#[49, 55, 48, 49, 52, 49, 49, 56, 51, 52, 54, 48, 52, 54, 57, 50, 51, 49, 55, 51, 49, 54, 56, 55, 51, 48, 51, 55, 49, 53, 56, 56, 52, 49, 48, 53, 55, 50, 55]⟩ : ByteArray)).bind fun bt229 => ((wide_Of.f 1).bind fun bt233 => ((wide_Add.f bt229.1 bt229.2.1 bt233.1 bt233.2).bind fun bt235 => ((wide_Of.f (-7)).bind fun bt239 => ((wide_Of.f 2).bind fun bt241 => ((wide_Quo.f k bt239.1 bt239.2 bt241.1 bt241.2).bind fun bt243 => ((wide_Of.f (-7)).bind fun bt247 => ((wide_Of.f 2).bind fun bt249 => ((wide_Rem.f k bt247.1 bt247.2 bt249.1 bt249.2).bind fun bt251 => (if bt229.2.2 = 0 then ((wide_Print.f k bt229.1 bt229.2.1).bind fun t255 => (if t255.toList = ([49, 55, 48, 49, 52, 49, 49, 56, 51, 52, 54, 48, 52, 54, 57, 50, 51, 49, 55, 51, 49, 54, 56, 55, 51, 48, 51, 55, 49, 53, 56, 56, 52, 49, 48, 53, 55, 50, 55] : List UInt8) then (if bt235.2.2 = 10 then ((wide_Of.f (-3)).bind fun bt256 => (if (bt243.1 == bt256.1 && (bt243.2.1 == bt256.2)) = true then (if bt243.2.2 = 0 then ((wide_Of.f (-1)).bind fun bt258 => (if (bt251.1 == bt258.1 && (bt251.2.1 == bt258.2)) = true then (if bt251.2.2 = 0 then ((wide_Print.f k bt251.1 bt251.2.1).bind fun t260 => (some (t260.toList == ([45, 49] : List UInt8)))) else (none)) else (none))) else (none)) else (none))) else (none)) else (none))) else (none))))))))))) = some r := h
 clear h
 replace H := Option.bind_eq_some_iff.mp H
 obtain ⟨⟨t229, t230, t231⟩, A10, H⟩ := H
 replace H : ((wide_Of.f 1).bind fun bt233 => ((wide_Add.f t229 t230 bt233.1 bt233.2).bind fun bt235 => ((wide_Of.f (-7)).bind fun bt239 => ((wide_Of.f 2).bind fun bt241 => ((wide_Quo.f k bt239.1 bt239.2 bt241.1 bt241.2).bind fun bt243 => ((wide_Of.f (-7)).bind fun bt247 => ((wide_Of.f 2).bind fun bt249 => ((wide_Rem.f k bt247.1 bt247.2 bt249.1 bt249.2).bind fun bt251 => (if t231 = 0 then ((wide_Print.f k t229 t230).bind fun t255 => (if t255.toList = ([49, 55, 48, 49, 52, 49, 49, 56, 51, 52, 54, 48, 52, 54, 57, 50, 51, 49, 55, 51, 49, 54, 56, 55, 51, 48, 51, 55, 49, 53, 56, 56, 52, 49, 48, 53, 55, 50, 55] : List UInt8) then (if bt235.2.2 = 10 then ((wide_Of.f (-3)).bind fun bt256 => (if (bt243.1 == bt256.1 && (bt243.2.1 == bt256.2)) = true then (if bt243.2.2 = 0 then ((wide_Of.f (-1)).bind fun bt258 => (if (bt251.1 == bt258.1 && (bt251.2.1 == bt258.2)) = true then (if bt251.2.2 = 0 then ((wide_Print.f k bt251.1 bt251.2.1).bind fun t260 => (some (t260.toList == ([45, 49] : List UInt8)))) else (none)) else (none))) else (none)) else (none))) else (none)) else (none))) else (none)))))))))) = some r := H
 have A1 := Aside0.mk A10
 clear A10
 replace H := Option.bind_eq_some_iff.mp H
 obtain ⟨⟨t233, t234⟩, A20, H⟩ := H
 replace H : ((wide_Add.f t229 t230 t233 t234).bind fun bt235 => ((wide_Of.f (-7)).bind fun bt239 => ((wide_Of.f 2).bind fun bt241 => ((wide_Quo.f k bt239.1 bt239.2 bt241.1 bt241.2).bind fun bt243 => ((wide_Of.f (-7)).bind fun bt247 => ((wide_Of.f 2).bind fun bt249 => ((wide_Rem.f k bt247.1 bt247.2 bt249.1 bt249.2).bind fun bt251 => (if t231 = 0 then ((wide_Print.f k t229 t230).bind fun t255 => (if t255.toList = ([49, 55, 48, 49, 52, 49, 49, 56, 51, 52, 54, 48, 52, 54, 57, 50, 51, 49, 55, 51, 49, 54, 56, 55, 51, 48, 51, 55, 49, 53, 56, 56, 52, 49, 48, 53, 55, 50, 55] : List UInt8) then (if bt235.2.2 = 10 then ((wide_Of.f (-3)).bind fun bt256 => (if (bt243.1 == bt256.1 && (bt243.2.1 == bt256.2)) = true then (if bt243.2.2 = 0 then ((wide_Of.f (-1)).bind fun bt258 => (if (bt251.1 == bt258.1 && (bt251.2.1 == bt258.2)) = true then (if bt251.2.2 = 0 then ((wide_Print.f k bt251.1 bt251.2.1).bind fun t260 => (some (t260.toList == ([45, 49] : List UInt8)))) else (none)) else (none))) else (none)) else (none))) else (none)) else (none))) else (none))))))))) = some r := H
 have A2 := Aside0.mk A20
 clear A20
 replace H := Option.bind_eq_some_iff.mp H
 obtain ⟨⟨t235, t236, t237⟩, A30, H⟩ := H
 replace H : ((wide_Of.f (-7)).bind fun bt239 => ((wide_Of.f 2).bind fun bt241 => ((wide_Quo.f k bt239.1 bt239.2 bt241.1 bt241.2).bind fun bt243 => ((wide_Of.f (-7)).bind fun bt247 => ((wide_Of.f 2).bind fun bt249 => ((wide_Rem.f k bt247.1 bt247.2 bt249.1 bt249.2).bind fun bt251 => (if t231 = 0 then ((wide_Print.f k t229 t230).bind fun t255 => (if t255.toList = ([49, 55, 48, 49, 52, 49, 49, 56, 51, 52, 54, 48, 52, 54, 57, 50, 51, 49, 55, 51, 49, 54, 56, 55, 51, 48, 51, 55, 49, 53, 56, 56, 52, 49, 48, 53, 55, 50, 55] : List UInt8) then (if t237 = 10 then ((wide_Of.f (-3)).bind fun bt256 => (if (bt243.1 == bt256.1 && (bt243.2.1 == bt256.2)) = true then (if bt243.2.2 = 0 then ((wide_Of.f (-1)).bind fun bt258 => (if (bt251.1 == bt258.1 && (bt251.2.1 == bt258.2)) = true then (if bt251.2.2 = 0 then ((wide_Print.f k bt251.1 bt251.2.1).bind fun t260 => (some (t260.toList == ([45, 49] : List UInt8)))) else (none)) else (none))) else (none)) else (none))) else (none)) else (none))) else (none)))))))) = some r := H
 have A3 := Aside0.mk A30
 clear A30
 replace H := Option.bind_eq_some_iff.mp H
 obtain ⟨⟨t239, t240⟩, A40, H⟩ := H
 replace H : ((wide_Of.f 2).bind fun bt241 => ((wide_Quo.f k t239 t240 bt241.1 bt241.2).bind fun bt243 => ((wide_Of.f (-7)).bind fun bt247 => ((wide_Of.f 2).bind fun bt249 => ((wide_Rem.f k bt247.1 bt247.2 bt249.1 bt249.2).bind fun bt251 => (if t231 = 0 then ((wide_Print.f k t229 t230).bind fun t255 => (if t255.toList = ([49, 55, 48, 49, 52, 49, 49, 56, 51, 52, 54, 48, 52, 54, 57, 50, 51, 49, 55, 51, 49, 54, 56, 55, 51, 48, 51, 55, 49, 53, 56, 56, 52, 49, 48, 53, 55, 50, 55] : List UInt8) then (if t237 = 10 then ((wide_Of.f (-3)).bind fun bt256 => (if (bt243.1 == bt256.1 && (bt243.2.1 == bt256.2)) = true then (if bt243.2.2 = 0 then ((wide_Of.f (-1)).bind fun bt258 => (if (bt251.1 == bt258.1 && (bt251.2.1 == bt258.2)) = true then (if bt251.2.2 = 0 then ((wide_Print.f k bt251.1 bt251.2.1).bind fun t260 => (some (t260.toList == ([45, 49] : List UInt8)))) else (none)) else (none))) else (none)) else (none))) else (none)) else (none))) else (none))))))) = some r := H
 have A4 := Aside0.mk A40
 clear A40
 replace H := Option.bind_eq_some_iff.mp H
 obtain ⟨⟨t241, t242⟩, A50, H⟩ := H
 replace H : ((wide_Quo.f k t239 t240 t241 t242).bind fun bt243 => ((wide_Of.f (-7)).bind fun bt247 => ((wide_Of.f 2).bind fun bt249 => ((wide_Rem.f k bt247.1 bt247.2 bt249.1 bt249.2).bind fun bt251 => (if t231 = 0 then ((wide_Print.f k t229 t230).bind fun t255 => (if t255.toList = ([49, 55, 48, 49, 52, 49, 49, 56, 51, 52, 54, 48, 52, 54, 57, 50, 51, 49, 55, 51, 49, 54, 56, 55, 51, 48, 51, 55, 49, 53, 56, 56, 52, 49, 48, 53, 55, 50, 55] : List UInt8) then (if t237 = 10 then ((wide_Of.f (-3)).bind fun bt256 => (if (bt243.1 == bt256.1 && (bt243.2.1 == bt256.2)) = true then (if bt243.2.2 = 0 then ((wide_Of.f (-1)).bind fun bt258 => (if (bt251.1 == bt258.1 && (bt251.2.1 == bt258.2)) = true then (if bt251.2.2 = 0 then ((wide_Print.f k bt251.1 bt251.2.1).bind fun t260 => (some (t260.toList == ([45, 49] : List UInt8)))) else (none)) else (none))) else (none)) else (none))) else (none)) else (none))) else (none)))))) = some r := H
 have A5 := Aside0.mk A50
 clear A50
 replace H := Option.bind_eq_some_iff.mp H
 obtain ⟨⟨t243, t244, t245⟩, A60, H⟩ := H
 replace H : ((wide_Of.f (-7)).bind fun bt247 => ((wide_Of.f 2).bind fun bt249 => ((wide_Rem.f k bt247.1 bt247.2 bt249.1 bt249.2).bind fun bt251 => (if t231 = 0 then ((wide_Print.f k t229 t230).bind fun t255 => (if t255.toList = ([49, 55, 48, 49, 52, 49, 49, 56, 51, 52, 54, 48, 52, 54, 57, 50, 51, 49, 55, 51, 49, 54, 56, 55, 51, 48, 51, 55, 49, 53, 56, 56, 52, 49, 48, 53, 55, 50, 55] : List UInt8) then (if t237 = 10 then ((wide_Of.f (-3)).bind fun bt256 => (if (t243 == bt256.1 && (t244 == bt256.2)) = true then (if t245 = 0 then ((wide_Of.f (-1)).bind fun bt258 => (if (bt251.1 == bt258.1 && (bt251.2.1 == bt258.2)) = true then (if bt251.2.2 = 0 then ((wide_Print.f k bt251.1 bt251.2.1).bind fun t260 => (some (t260.toList == ([45, 49] : List UInt8)))) else (none)) else (none))) else (none)) else (none))) else (none)) else (none))) else (none))))) = some r := H
 have A6 := Aside0.mk A60
 clear A60
 replace H := Option.bind_eq_some_iff.mp H
 obtain ⟨⟨t247, t248⟩, A70, H⟩ := H
 replace H : ((wide_Of.f 2).bind fun bt249 => ((wide_Rem.f k t247 t248 bt249.1 bt249.2).bind fun bt251 => (if t231 = 0 then ((wide_Print.f k t229 t230).bind fun t255 => (if t255.toList = ([49, 55, 48, 49, 52, 49, 49, 56, 51, 52, 54, 48, 52, 54, 57, 50, 51, 49, 55, 51, 49, 54, 56, 55, 51, 48, 51, 55, 49, 53, 56, 56, 52, 49, 48, 53, 55, 50, 55] : List UInt8) then (if t237 = 10 then ((wide_Of.f (-3)).bind fun bt256 => (if (t243 == bt256.1 && (t244 == bt256.2)) = true then (if t245 = 0 then ((wide_Of.f (-1)).bind fun bt258 => (if (bt251.1 == bt258.1 && (bt251.2.1 == bt258.2)) = true then (if bt251.2.2 = 0 then ((wide_Print.f k bt251.1 bt251.2.1).bind fun t260 => (some (t260.toList == ([45, 49] : List UInt8)))) else (none)) else (none))) else (none)) else (none))) else (none)) else (none))) else (none)))) = some r := H
 have A7 := Aside0.mk A70
 clear A70
 replace H := Option.bind_eq_some_iff.mp H
 obtain ⟨⟨t249, t250⟩, A80, H⟩ := H
 replace H : ((wide_Rem.f k t247 t248 t249 t250).bind fun bt251 => (if t231 = 0 then ((wide_Print.f k t229 t230).bind fun t255 => (if t255.toList = ([49, 55, 48, 49, 52, 49, 49, 56, 51, 52, 54, 48, 52, 54, 57, 50, 51, 49, 55, 51, 49, 54, 56, 55, 51, 48, 51, 55, 49, 53, 56, 56, 52, 49, 48, 53, 55, 50, 55] : List UInt8) then (if t237 = 10 then ((wide_Of.f (-3)).bind fun bt256 => (if (t243 == bt256.1 && (t244 == bt256.2)) = true then (if t245 = 0 then ((wide_Of.f (-1)).bind fun bt258 => (if (bt251.1 == bt258.1 && (bt251.2.1 == bt258.2)) = true then (if bt251.2.2 = 0 then ((wide_Print.f k bt251.1 bt251.2.1).bind fun t260 => (some (t260.toList == ([45, 49] : List UInt8)))) else (none)) else (none))) else (none)) else (none))) else (none)) else (none))) else (none))) = some r := H
 have A8 := Aside0.mk A80
 clear A80
 replace H := Option.bind_eq_some_iff.mp H
 obtain ⟨⟨t251, t252, t253⟩, A90, H⟩ := H
 replace H : (if t231 = 0 then ((wide_Print.f k t229 t230).bind fun t255 => (if t255.toList = ([49, 55, 48, 49, 52, 49, 49, 56, 51, 52, 54, 48, 52, 54, 57, 50, 51, 49, 55, 51, 49, 54, 56, 55, 51, 48, 51, 55, 49, 53, 56, 56, 52, 49, 48, 53, 55, 50, 55] : List UInt8) then (if t237 = 10 then ((wide_Of.f (-3)).bind fun bt256 => (if (t243 == bt256.1 && (t244 == bt256.2)) = true then (if t245 = 0 then ((wide_Of.f (-1)).bind fun bt258 => (if (t251 == bt258.1 && (t252 == bt258.2)) = true then (if t253 = 0 then ((wide_Print.f k t251 t252).bind fun t260 => (some (t260.toList == ([45, 49] : List UInt8)))) else (none)) else (none))) else (none)) else (none))) else (none)) else (none))) else (none)) = some r := H
 have A9 := Aside0.mk A90
 clear A90
 by_cases c10 : t231 = 0
 ·rw [if_pos c10] at H
  have c10b0 : (t231 == 0) = true := beq_iff_eq.mpr c10
  have c10b1 : (t231 != 0) = false := bne_eq_false_iff_eq.mpr c10
  clear c10
  replace H := Option.bind_eq_some_iff.mp H
  obtain ⟨t255, A110, H⟩ := H
  replace H : (if t255.toList = ([49, 55, 48, 49, 52, 49, 49, 56, 51, 52, 54, 48, 52, 54, 57, 50, 51, 49, 55, 51, 49, 54, 56, 55, 51, 48, 51, 55, 49, 53, 56, 56, 52, 49, 48, 53, 55, 50, 55] : List UInt8) then (if t237 = 10 then ((wide_Of.f (-3)).bind fun bt256 => (if (t243 == bt256.1 && (t244 == bt256.2)) = true then (if t245 = 0 then ((wide_Of.f (-1)).bind fun bt258 => (if (t251 == bt258.1 && (t252 == bt258.2)) = true then (if t253 = 0 then ((wide_Print.f k t251 t252).bind fun t260 => (some (t260.toList == ([45, 49] : List UInt8)))) else (none)) else (none))) else (none)) else (none))) else (none)) else (none)) = some r := H
  have A11 := Aside0.mk A110
  clear A110
  by_cases c12 : t255.toList = ([49, 55, 48, 49, 52, 49, 49, 56, 51, 52, 54, 48, 52, 54, 57, 50, 51, 49, 55, 51, 49, 54, 56, 55, 51, 48, 51, 55, 49, 53, 56, 56, 52, 49, 48, 53, 55, 50, 55] : List UInt8)
  ·rw [if_pos c12] at H
   have c12b0 : (t255.toList == ([49, 55, 48, 49, 52, 49, 49, 56, 51, 52, 54, 48, 52, 54, 57, 50, 51, 49, 55, 51, 49, 54, 56, 55, 51, 48, 51, 55, 49, 53, 56, 56, 52, 49, 48, 53, 55, 50, 55] : List UInt8)) = true := beq_iff_eq.mpr c12
   have c12b1 : (t255.toList != ([49, 55, 48, 49, 52, 49, 49, 56, 51, 52, 54, 48, 52, 54, 57, 50, 51, 49, 55, 51, 49, 54, 56, 55, 51, 48, 51, 55, 49, 53, 56, 56, 52, 49, 48, 53, 55, 50, 55] : List UInt8)) = false := bne_eq_false_iff_eq.mpr c12
   clear c12
   by_cases c13 : t237 = 10
   ·rw [if_pos c13] at H
    have c13b0 : (t237 == 10) = true := beq_iff_eq.mpr c13
    have c13b1 : (t237 != 10) = false := bne_eq_false_iff_eq.mpr c13
    clear c13
    replace H := Option.bind_eq_some_iff.mp H
    obtain ⟨⟨t256, t257⟩, A140, H⟩ := H
    replace H : (if (t243 == t256 && (t244 == t257)) = true then (if t245 = 0 then ((wide_Of.f (-1)).bind fun bt258 => (if (t251 == bt258.1 && (t252 == bt258.2)) = true then (if t253 = 0 then ((wide_Print.f k t251 t252).bind fun t260 => (some (t260.toList == ([45, 49] : List UInt8)))) else (none)) else (none))) else (none)) else (none)) = some r := H
    have A14 := Aside0.mk A140
    clear A140
    by_cases c15 : (t243 == t256 && (t244 == t257)) = true
    ·rw [if_pos c15] at H
     have c15b0 : (t243 == t256 && (t244 == t257)) = true := c15
     (try (have c15b1 : decide (t243 = t256 && (t244 == t257)) = true := by simpa using c15))
     (try (have c15b2 : (t243 == t256 && (t244 == t257)) = true := by simpa using c15))
     clear c15
     by_cases c16 : t245 = 0
     ·rw [if_pos c16] at H
      have c16b0 : (t245 == 0) = true := beq_iff_eq.mpr c16
      have c16b1 : (t245 != 0) = false := bne_eq_false_iff_eq.mpr c16
      clear c16
      replace H := Option.bind_eq_some_iff.mp H
      obtain ⟨⟨t258, t259⟩, A170, H⟩ := H
      replace H : (if (t251 == t258 && (t252 == t259)) = true then (if t253 = 0 then ((wide_Print.f k t251 t252).bind fun t260 => (some (t260.toList == ([45, 49] : List UInt8)))) else (none)) else (none)) = some r := H
      have A17 := Aside0.mk A170
      clear A170
      by_cases c18 : (t251 == t258 && (t252 == t259)) = true
      ·rw [if_pos c18] at H
       have c18b0 : (t251 == t258 && (t252 == t259)) = true := c18
       (try (have c18b1 : decide (t251 = t258 && (t252 == t259)) = true := by simpa using c18))
       (try (have c18b2 : (t251 == t258 && (t252 == t259)) = true := by simpa using c18))
       clear c18
       by_cases c19 : t253 = 0
       ·rw [if_pos c19] at H
        have c19b0 : (t253 == 0) = true := beq_iff_eq.mpr c19
        have c19b1 : (t253 != 0) = false := bne_eq_false_iff_eq.mpr c19
        clear c19
        replace H := Option.bind_eq_some_iff.mp H
        obtain ⟨t260, A200, H⟩ := H
        replace H : (some (t260.toList == ([45, 49] : List UInt8))) = some r := H
        have A20 := Aside0.mk A200
        clear A200
        obtain rfl := Option.some.inj H
        go_enter Try.func8, Try.ntmps8
        try go_wp2_with (first | ((with_reducible refine gate_callee (f := 13) rfl ?_); refine goesL_ (some 10) rfl rfl Try.func13 (by kernel_rfl) rfl #[.string (⟨#[49, 55, 48, 49, 52, 49, 49, 56, 51, 52, 54, 48, 52, 54, 57, 50, 51, 49, 55, 51, 49, 54, 56, 55, 51, 48, 51, 55, 49, 53, 56, 56, 52, 49, 48, 53, 55, 50, 55]⟩ : ByteArray)] rfl (by (try simp only [List.map_toArray, List.map_cons, List.map_nil]); first | done | rfl | (simp only [List.length_drop, List.length_take]; rfl) | (go_simp; simp only [u8_w, w64_u8]; done) | (go_simp; simp only [u8_w, w64_u8]; rfl)) ?_; (with_reducible refine (wide_Parse.calls k (⟨#[49, 55, 48, 49, 52, 49, 49, 56, 51, 52, 54, 48, 52, 54, 57, 50, 51, 49, 55, 51, 49, 54, 56, 55, 51, 48, 51, 55, 49, 53, 56, 56, 52, 49, 48, 53, 55, 50, 55]⟩ : ByteArray) t229 t230 t231 _ A1.out).mono ?_); rintro e w21 ⟨rfl, hb⟩; refine ⟨_, rfl, ?_⟩; have n0_ := Aside0.mk (below_step (bL HB) hb); clear HB; have HB := n0_; clear n0_; (try clear hb); (try clear hb2); (try clear hk); (try clear hi)) | ((with_reducible refine gate_dst (N := 1) rfl ?_); refine box_event ?hg (N := 1) ?hd (cs := #[.int .u64 0, .int .u64 0]) (t := 24) ?hr ?_; (case hd => rfl); (case hg => rfl); (case hr => first | (go_simp; done) | (go_simp; rfl)); intro gb232 hg w22 hbox hb; have n0_ := Aside0.mk (below_step (bL HB) hb); have n1_ := Aside0.mk (hbox); have n2_ := Aside0.mk ((by rw [hg]; exact (below_size (bL HB)) : w.heap.size ≤ gb232)); have n3_ := Aside0.mk ((by rw [hg]; exact (below_size (bL HB)) : w.heap.size ≤ gb232)); clear HB; have HB := n0_; have BK232 := n1_; have GW232 := n2_; have GE232 := n3_; clear n0_ n1_ n2_ n3_; clear hb hbox hg; have hcz23_0 : w22.cell? ⟨gb232, 0, none⟩ = some (.int .u64 0) := (blk_cell BK232.out 0).trans rfl; have hcz23_1 : w22.cell? ⟨gb232, 1, none⟩ = some (.int .u64 0) := (blk_cell BK232.out 1).trans rfl; have hfz23_0 := blk_frozen BK232.out 0; have hfz23_1 := blk_frozen BK232.out 1))
        have n0_ : Aside0 (((w22.setCell ⟨gb232, 0, none⟩ (.int .u64 t229)).setCell ⟨gb232, 1, none⟩ (.int .u64 t230)).heap[gb232]? = some (.cells #[.int .u64 t229, .int .u64 t230] 24 (0, 0))) := ⟨by (with_reducible repeat (first | refine blk_drewN ?_ _ | refine blk_drew ?_ | refine blk_alloc ?_ _)); refine blk_put (cs := #[.int .u64 t229, .int .u64 0]) ?_ 1 _ rfl; (with_reducible repeat (first | refine blk_drewN ?_ _ | refine blk_drew ?_ | refine blk_alloc ?_ _)); refine blk_put (cs := #[.int .u64 0, .int .u64 0]) ?_ 0 _ rfl; (with_reducible repeat (first | refine blk_drewN ?_ _ | refine blk_drew ?_ | refine blk_alloc ?_ _)); exact BK232.out⟩
        have n1_ : Aside0 (Below w.heap.size w ((w22.setCell ⟨gb232, 0, none⟩ (.int .u64 t229)).setCell ⟨gb232, 1, none⟩ (.int .u64 t230))) := ⟨by repeat (first | (with_reducible first | exact HB.out | apply below_alloc | apply pw_below_drewN | apply below_drew1 | refine below_set ?_ GE232.out) | exact HB.out)⟩
        (try clear BK232)
        (try clear HB)
        generalize ((w22.setCell ⟨gb232, 0, none⟩ (.int .u64 t229)).setCell ⟨gb232, 1, none⟩ (.int .u64 t230)) = w24 at n0_ n1_ ⊢
        have BK232 := n0_
        have HB := n1_
        clear n0_ n1_
        have n0_ := Aside0.mk (blk_drew BK232.out)
        have n1_ := Aside0.mk (below_drew1 HB.out)
        clear BK232
        clear HB
        have BK232 := n0_
        have HB := n1_
        clear n0_ n1_
        refine start_ (n := 9) (S := fun w' => w'.cell? ⟨gb232, 0, none⟩ = some (.int .u64 t229) ∧ w'.cell? ⟨gb232, 1, none⟩ = some (.int .u64 t230)) (ds := []) #[false, false, false, false, false, false, false, false, false] (by kernel_rfl) rfl rfl ⟨(blk_cell BK232.out 0).trans rfl, (blk_cell BK232.out 1).trans rfl⟩ (fun hHeld => ?_); refine with_tabW lorgnettelaw01_awake.tab2 lorgnettelaw01_awake.bits2 (fun HT_ HW_ => ?_)
        generalize w24.drew = w25 at BK232 HB hHeld ⊢
        refine take_ (i := 0) (N := some 14) (v := ?_) (a' := ?_) #[true, false, false, false, false, false, false, false, false] rfl rfl (take_ofW HT_.out HW_.out (by kernel_rfl)) (fun _ _ _ h => h) (Or.inl ⟨by rfl, ?_⟩) hHeld ?_ ?_
        rotate_left
        ·rintro w' ⟨s0, s1⟩
         go_simp
         with_reducible rfl
        rotate_left
        ·simp only [Act.put, List.setIfInBounds_toArray, List.set_cons_zero, List.set_cons_succ, i64_w, i32_w]
         rfl
        refine join_ (σ := Nat) 2 #[true, true, true, true, true, true, true, false, false] (fun s_ => [(15, .agg #[.int .u64 t233, .int .u64 t234]), (16, .tuple #[.agg #[.int .u64 t235, .int .u64 t236], .int .i64 t237]), (3, .pointer (some ⟨s_, 0, none⟩)), (13, .tuple #[.agg #[.int .u64 t235, .int .u64 t236], .int .i64 t237]), (17, .agg #[.int .u64 t235, .int .u64 t236]), (18, .int .i64 t237)]) (fun s_ w' => (w'.cell? ⟨gb232, 0, none⟩ = some (.int .u64 t229) ∧ w'.cell? ⟨gb232, 1, none⟩ = some (.int .u64 t230)) ∧ (w'.heap[gb232]? = some (.cells #[.int .u64 t229, .int .u64 t230] 24 (0, 0))) ∧ (w'.heap[s_]? = some (.cells #[.int .u64 0, .int .u64 0] 24 (0, 0))) ∧ (w.heap.size ≤ s_) ∧ (w.heap.size ≤ s_) ∧ (gb232 ≠ s_) ∧ (s_ ≠ gb232) ∧ (Below w.heap.size w w')) ?_ ?_
        rotate_left
        ·intro hCont
         refine two_ (i := 1) (j := 6) (Ni := some 15) (Nj := some 3) #[true, true, false, false, false, false, false, false, false] #[true, false, false, false, false, false, true, false, false] rfl rfl rfl rfl (two_of HT_.out (by kernel_rfl)) (by decide) (by decide) (fun K hK => ?_) (fun K hK => ?_)
         ·skip
          refine goes_ Try.func12 (by kernel_rfl) rfl #[.int .i64 1] (by rfl) rfl rfl (by (try simp only [List.map_toArray, List.map_cons, List.map_nil]); first | done | rfl | (simp only [List.length_drop, List.length_take]; rfl) | (go_simp; simp only [u8_w, w64_u8]; done) | (go_simp; simp only [u8_w, w64_u8]; rfl)) ?_
          with_reducible refine (wide_Of.calls 1 t233 t234 _ A2.out).mono ?_
          rintro e w26 ⟨rfl, hb⟩
          refine ⟨_, rfl, ?_⟩
          have n0_ := blkB BK232 hb
          have n1_ := Aside0.mk (below_step (bL HB) hb)
          clear BK232
          clear HB
          have BK232 := n0_
          have HB := n1_
          clear n0_ n1_
          (try clear hb)
          (try clear hb2)
          (try clear hk)
          (try clear hi)
          refine hK.out _ _ ⟨(blk_cell BK232.out 0).trans rfl, (blk_cell BK232.out 1).trans rfl⟩ (fun hHeld => ?_)
          clear hK K
          refine norm_ (a' := ?_) ?_ ?_
          rotate_left
          ·show Act.put _ (some 15) _ = _
           simp only [Act.put, List.setIfInBounds_toArray, List.set_cons_zero, List.set_cons_succ, i64_w, i32_w]
           rfl
          refine two_ (i := 2) (j := 6) (Ni := some 16) (Nj := some 3) #[true, true, true, false, false, false, false, false, false] #[true, true, false, false, false, false, true, false, false] rfl rfl rfl rfl (two_of HT_.out (by kernel_rfl)) (by decide) (by decide) (fun K hK => ?_) (fun K hK => ?_)
          ·skip
           refine goes_ Try.func18 (by kernel_rfl) rfl #[.agg #[.int .u64 t229, .int .u64 t230], .agg #[.int .u64 t233, .int .u64 t234]] (by rfl) rfl rfl (by (try simp only [List.map_toArray, List.map_cons, List.map_nil]); first | done | rfl | (simp only [List.length_drop, List.length_take]; rfl) | (go_simp; simp only [u8_w, w64_u8]; done) | (go_simp; simp only [u8_w, w64_u8]; rfl)) ?_
           with_reducible refine (wide_Add.calls t229 t230 t233 t234 t235 t236 t237 _ A3.out).mono ?_
           rintro e w27 ⟨rfl, hb⟩
           refine ⟨_, rfl, ?_⟩
           have n0_ := blkB BK232 hb
           have n1_ := Aside0.mk (below_step (bL HB) hb)
           clear BK232
           clear HB
           have BK232 := n0_
           have HB := n1_
           clear n0_ n1_
           (try clear hb)
           (try clear hb2)
           (try clear hk)
           (try clear hi)
           refine hK.out _ _ ⟨(blk_cell BK232.out 0).trans rfl, (blk_cell BK232.out 1).trans rfl⟩ (fun hHeld => ?_)
           clear hK K
           refine norm_ (a' := ?_) ?_ ?_
           rotate_left
           ·show Act.put _ (some 16) _ = _
            simp only [Act.put, List.setIfInBounds_toArray, List.set_cons_zero, List.set_cons_succ, i64_w, i32_w]
            rfl
           refine pure_ (i := 3) (N := some 13) (v := ?_) (a' := ?_) #[true, true, true, true, false, false, false, false, false] rfl rfl (any_of HT_.out (by kernel_rfl)) (fun _ _ _ h => h) (Or.inl ⟨by rfl, ?_⟩) ?_ ?_
           rotate_left
           ·intro w'
            go_simp
            with_reducible rfl
           rotate_left
           ·simp only [Act.put, List.setIfInBounds_toArray, List.set_cons_zero, List.set_cons_succ, i64_w, i32_w]
            rfl
           refine pure_ (i := 4) (N := some 17) (v := ?_) (a' := ?_) #[true, true, true, true, true, false, false, false, false] rfl rfl (any_of HT_.out (by kernel_rfl)) (fun _ _ _ h => h) (Or.inl ⟨by rfl, ?_⟩) ?_ ?_
           rotate_left
           ·intro w'
            go_simp
            with_reducible rfl
           rotate_left
           ·simp only [Act.put, List.setIfInBounds_toArray, List.set_cons_zero, List.set_cons_succ, i64_w, i32_w]
            rfl
           refine pure_ (i := 5) (N := some 18) (v := ?_) (a' := ?_) #[true, true, true, true, true, true, false, false, false] rfl rfl (any_of HT_.out (by kernel_rfl)) (fun _ _ _ h => h) (Or.inl ⟨by rfl, ?_⟩) ?_ ?_
           rotate_left
           ·intro w'
            go_simp
            with_reducible rfl
           rotate_left
           ·simp only [Act.put, List.setIfInBounds_toArray, List.set_cons_zero, List.set_cons_succ, i64_w, i32_w]
            rfl
           refine one_ (i := 6) (N := some 3) #[true, true, true, true, true, true, true, false, false] rfl rfl (one_of HT_.out (by kernel_rfl)) (by decide) (fun K hK => ?_)
           refine box_step ?hg (N := 3) ?hd (cs := #[.int .u64 0, .int .u64 0]) (t := 24) ?hr ?_; (case hd => rfl); (case hg => rfl); (case hr => first | (go_simp; done) | (go_simp; rfl))
           intro gb238 hg w28 hbox hb
           have n0_ := blkB BK232 hb
           have n1_ := Aside0.mk (below_step (bL HB) hb)
           have n2_ := Aside0.mk (hbox)
           have n3_ := Aside0.mk ((by rw [hg]; exact (below_size (bL HB)) : w.heap.size ≤ gb238))
           have n4_ := Aside0.mk ((by rw [hg]; exact (below_size (bL HB)) : w.heap.size ≤ gb238))
           have n5_ := blkL BK232 hg
           have n6_ := blkG BK232 hg
           clear BK232
           clear HB
           have BK232 := n0_
           have HB := n1_
           have BK238 := n2_
           have GW238 := n3_
           have GE238 := n4_
           have NB232_238 := n5_
           have NB238_232 := n6_
           clear n0_ n1_ n2_ n3_ n4_ n5_ n6_
           clear hb hbox hg
           refine hK.out _ _ ⟨(blk_cell BK232.out 0).trans rfl, (blk_cell BK232.out 1).trans rfl⟩ (fun hHeld => ?_)
           clear hK K
           refine norm_ (a' := ?_) ?_ ?_
           rotate_left
           ·show Act.put _ (some 3) _ = _
            simp only [Act.put, List.setIfInBounds_toArray, List.set_cons_zero, List.set_cons_succ, i64_w, i32_w]
            rfl
           exact norm_ (by simp only [putAll, Act.put, List.setIfInBounds_toArray, List.set_cons_zero, List.set_cons_succ]) (hCont (gb238) _ ⟨hHeld, (bN BK232), (bN BK238), GW238.out, GE238.out, NB232_238.out, NB238_232.out, (bL HB)⟩)
          ·skip
           refine box_step ?hg (N := 3) ?hd (cs := #[.int .u64 0, .int .u64 0]) (t := 24) ?hr ?_; (case hd => rfl); (case hg => rfl); (case hr => first | (go_simp; done) | (go_simp; rfl))
           intro gb238 hg w27 hbox hb
           have n0_ := blkB BK232 hb
           have n1_ := Aside0.mk (below_step (bL HB) hb)
           have n2_ := Aside0.mk (hbox)
           have n3_ := Aside0.mk ((by rw [hg]; exact (below_size (bL HB)) : w.heap.size ≤ gb238))
           have n4_ := Aside0.mk ((by rw [hg]; exact (below_size (bL HB)) : w.heap.size ≤ gb238))
           have n5_ := blkL BK232 hg
           have n6_ := blkG BK232 hg
           clear BK232
           clear HB
           have BK232 := n0_
           have HB := n1_
           have BK238 := n2_
           have GW238 := n3_
           have GE238 := n4_
           have NB232_238 := n5_
           have NB238_232 := n6_
           clear n0_ n1_ n2_ n3_ n4_ n5_ n6_
           clear hb hbox hg
           refine hK.out _ _ ⟨(blk_cell BK232.out 0).trans rfl, (blk_cell BK232.out 1).trans rfl⟩ (fun hHeld => ?_)
           clear hK K
           refine norm_ (a' := ?_) ?_ ?_
           rotate_left
           ·show Act.put _ (some 3) _ = _
            simp only [Act.put, List.setIfInBounds_toArray, List.set_cons_zero, List.set_cons_succ, i64_w, i32_w]
            rfl
           refine one_ (i := 2) (N := some 16) #[true, true, true, false, false, false, true, false, false] rfl rfl (one_of HT_.out (by kernel_rfl)) (by decide) (fun K hK => ?_)
           refine goes_ Try.func18 (by kernel_rfl) rfl #[.agg #[.int .u64 t229, .int .u64 t230], .agg #[.int .u64 t233, .int .u64 t234]] (by rfl) rfl rfl (by (try simp only [List.map_toArray, List.map_cons, List.map_nil]); first | done | rfl | (simp only [List.length_drop, List.length_take]; rfl) | (go_simp; simp only [u8_w, w64_u8]; done) | (go_simp; simp only [u8_w, w64_u8]; rfl)) ?_
           with_reducible refine (wide_Add.calls t229 t230 t233 t234 t235 t236 t237 _ A3.out).mono ?_
           rintro e w28 ⟨rfl, hb⟩
           refine ⟨_, rfl, ?_⟩
           have n0_ := blkB BK232 hb
           have n1_ := blkB BK238 hb
           have n2_ := Aside0.mk (below_step (bL HB) hb)
           clear BK232
           clear BK238
           clear HB
           have BK232 := n0_
           have BK238 := n1_
           have HB := n2_
           clear n0_ n1_ n2_
           (try clear hb)
           (try clear hb2)
           (try clear hk)
           (try clear hi)
           refine hK.out _ _ ⟨(blk_cell BK232.out 0).trans rfl, (blk_cell BK232.out 1).trans rfl⟩ (fun hHeld => ?_)
           clear hK K
           refine norm_ (a' := ?_) ?_ ?_
           rotate_left
           ·show Act.put _ (some 16) _ = _
            simp only [Act.put, List.setIfInBounds_toArray, List.set_cons_zero, List.set_cons_succ, i64_w, i32_w]
            rfl
           refine pure_ (i := 3) (N := some 13) (v := ?_) (a' := ?_) #[true, true, true, true, false, false, true, false, false] rfl rfl (any_of HT_.out (by kernel_rfl)) (fun _ _ _ h => h) (Or.inl ⟨by rfl, ?_⟩) ?_ ?_
           rotate_left
           ·intro w'
            go_simp
            with_reducible rfl
           rotate_left
           ·simp only [Act.put, List.setIfInBounds_toArray, List.set_cons_zero, List.set_cons_succ, i64_w, i32_w]
            rfl
           refine pure_ (i := 4) (N := some 17) (v := ?_) (a' := ?_) #[true, true, true, true, true, false, true, false, false] rfl rfl (any_of HT_.out (by kernel_rfl)) (fun _ _ _ h => h) (Or.inl ⟨by rfl, ?_⟩) ?_ ?_
           rotate_left
           ·intro w'
            go_simp
            with_reducible rfl
           rotate_left
           ·simp only [Act.put, List.setIfInBounds_toArray, List.set_cons_zero, List.set_cons_succ, i64_w, i32_w]
            rfl
           refine pure_ (i := 5) (N := some 18) (v := ?_) (a' := ?_) #[true, true, true, true, true, true, true, false, false] rfl rfl (any_of HT_.out (by kernel_rfl)) (fun _ _ _ h => h) (Or.inl ⟨by rfl, ?_⟩) ?_ ?_
           rotate_left
           ·intro w'
            go_simp
            with_reducible rfl
           rotate_left
           ·simp only [Act.put, List.setIfInBounds_toArray, List.set_cons_zero, List.set_cons_succ, i64_w, i32_w]
            rfl
           exact norm_ (by simp only [putAll, Act.put, List.setIfInBounds_toArray, List.set_cons_zero, List.set_cons_succ]) (hCont (gb238) _ ⟨hHeld, (bN BK232), (bN BK238), GW238.out, GE238.out, NB232_238.out, NB238_232.out, (bL HB)⟩)
         ·skip
          refine box_step ?hg (N := 3) ?hd (cs := #[.int .u64 0, .int .u64 0]) (t := 24) ?hr ?_; (case hd => rfl); (case hg => rfl); (case hr => first | (go_simp; done) | (go_simp; rfl))
          intro gb238 hg w26 hbox hb
          have n0_ := blkB BK232 hb
          have n1_ := Aside0.mk (below_step (bL HB) hb)
          have n2_ := Aside0.mk (hbox)
          have n3_ := Aside0.mk ((by rw [hg]; exact (below_size (bL HB)) : w.heap.size ≤ gb238))
          have n4_ := Aside0.mk ((by rw [hg]; exact (below_size (bL HB)) : w.heap.size ≤ gb238))
          have n5_ := blkL BK232 hg
          have n6_ := blkG BK232 hg
          clear BK232
          clear HB
          have BK232 := n0_
          have HB := n1_
          have BK238 := n2_
          have GW238 := n3_
          have GE238 := n4_
          have NB232_238 := n5_
          have NB238_232 := n6_
          clear n0_ n1_ n2_ n3_ n4_ n5_ n6_
          clear hb hbox hg
          refine hK.out _ _ ⟨(blk_cell BK232.out 0).trans rfl, (blk_cell BK232.out 1).trans rfl⟩ (fun hHeld => ?_)
          clear hK K
          refine norm_ (a' := ?_) ?_ ?_
          rotate_left
          ·show Act.put _ (some 3) _ = _
           simp only [Act.put, List.setIfInBounds_toArray, List.set_cons_zero, List.set_cons_succ, i64_w, i32_w]
           rfl
          refine one_ (i := 1) (N := some 15) #[true, true, false, false, false, false, true, false, false] rfl rfl (one_of HT_.out (by kernel_rfl)) (by decide) (fun K hK => ?_)
          refine goes_ Try.func12 (by kernel_rfl) rfl #[.int .i64 1] (by rfl) rfl rfl (by (try simp only [List.map_toArray, List.map_cons, List.map_nil]); first | done | rfl | (simp only [List.length_drop, List.length_take]; rfl) | (go_simp; simp only [u8_w, w64_u8]; done) | (go_simp; simp only [u8_w, w64_u8]; rfl)) ?_
          with_reducible refine (wide_Of.calls 1 t233 t234 _ A2.out).mono ?_
          rintro e w27 ⟨rfl, hb⟩
          refine ⟨_, rfl, ?_⟩
          have n0_ := blkB BK232 hb
          have n1_ := blkB BK238 hb
          have n2_ := Aside0.mk (below_step (bL HB) hb)
          clear BK232
          clear BK238
          clear HB
          have BK232 := n0_
          have BK238 := n1_
          have HB := n2_
          clear n0_ n1_ n2_
          (try clear hb)
          (try clear hb2)
          (try clear hk)
          (try clear hi)
          refine hK.out _ _ ⟨(blk_cell BK232.out 0).trans rfl, (blk_cell BK232.out 1).trans rfl⟩ (fun hHeld => ?_)
          clear hK K
          refine norm_ (a' := ?_) ?_ ?_
          rotate_left
          ·show Act.put _ (some 15) _ = _
           simp only [Act.put, List.setIfInBounds_toArray, List.set_cons_zero, List.set_cons_succ, i64_w, i32_w]
           rfl
          refine one_ (i := 2) (N := some 16) #[true, true, true, false, false, false, true, false, false] rfl rfl (one_of HT_.out (by kernel_rfl)) (by decide) (fun K hK => ?_)
          refine goes_ Try.func18 (by kernel_rfl) rfl #[.agg #[.int .u64 t229, .int .u64 t230], .agg #[.int .u64 t233, .int .u64 t234]] (by rfl) rfl rfl (by (try simp only [List.map_toArray, List.map_cons, List.map_nil]); first | done | rfl | (simp only [List.length_drop, List.length_take]; rfl) | (go_simp; simp only [u8_w, w64_u8]; done) | (go_simp; simp only [u8_w, w64_u8]; rfl)) ?_
          with_reducible refine (wide_Add.calls t229 t230 t233 t234 t235 t236 t237 _ A3.out).mono ?_
          rintro e w28 ⟨rfl, hb⟩
          refine ⟨_, rfl, ?_⟩
          have n0_ := blkB BK232 hb
          have n1_ := blkB BK238 hb
          have n2_ := Aside0.mk (below_step (bL HB) hb)
          clear BK232
          clear BK238
          clear HB
          have BK232 := n0_
          have BK238 := n1_
          have HB := n2_
          clear n0_ n1_ n2_
          (try clear hb)
          (try clear hb2)
          (try clear hk)
          (try clear hi)
          refine hK.out _ _ ⟨(blk_cell BK232.out 0).trans rfl, (blk_cell BK232.out 1).trans rfl⟩ (fun hHeld => ?_)
          clear hK K
          refine norm_ (a' := ?_) ?_ ?_
          rotate_left
          ·show Act.put _ (some 16) _ = _
           simp only [Act.put, List.setIfInBounds_toArray, List.set_cons_zero, List.set_cons_succ, i64_w, i32_w]
           rfl
          refine pure_ (i := 3) (N := some 13) (v := ?_) (a' := ?_) #[true, true, true, true, false, false, true, false, false] rfl rfl (any_of HT_.out (by kernel_rfl)) (fun _ _ _ h => h) (Or.inl ⟨by rfl, ?_⟩) ?_ ?_
          rotate_left
          ·intro w'
           go_simp
           with_reducible rfl
          rotate_left
          ·simp only [Act.put, List.setIfInBounds_toArray, List.set_cons_zero, List.set_cons_succ, i64_w, i32_w]
           rfl
          refine pure_ (i := 4) (N := some 17) (v := ?_) (a' := ?_) #[true, true, true, true, true, false, true, false, false] rfl rfl (any_of HT_.out (by kernel_rfl)) (fun _ _ _ h => h) (Or.inl ⟨by rfl, ?_⟩) ?_ ?_
          rotate_left
          ·intro w'
           go_simp
           with_reducible rfl
          rotate_left
          ·simp only [Act.put, List.setIfInBounds_toArray, List.set_cons_zero, List.set_cons_succ, i64_w, i32_w]
           rfl
          refine pure_ (i := 5) (N := some 18) (v := ?_) (a' := ?_) #[true, true, true, true, true, true, true, false, false] rfl rfl (any_of HT_.out (by kernel_rfl)) (fun _ _ _ h => h) (Or.inl ⟨by rfl, ?_⟩) ?_ ?_
          rotate_left
          ·intro w'
           go_simp
           with_reducible rfl
          rotate_left
          ·simp only [Act.put, List.setIfInBounds_toArray, List.set_cons_zero, List.set_cons_succ, i64_w, i32_w]
           rfl
          exact norm_ (by simp only [putAll, Act.put, List.setIfInBounds_toArray, List.set_cons_zero, List.set_cons_succ]) (hCont (gb238) _ ⟨hHeld, (bN BK232), (bN BK238), GW238.out, GE238.out, NB232_238.out, NB238_232.out, (bL HB)⟩)
        rintro gb238 w29 ⟨hS_, h0_, h1_, h2_, h3_, h4_, h5_, h6_⟩
        have n0_ : Aside0 (w29.heap[gb232]? = some (.cells #[.int .u64 t229, .int .u64 t230] 24 (0, 0))) := ⟨h0_⟩
        have n1_ : Aside0 (w29.heap[gb238]? = some (.cells #[.int .u64 0, .int .u64 0] 24 (0, 0))) := ⟨h1_⟩
        have n2_ : Aside0 (w.heap.size ≤ gb238) := ⟨h2_⟩
        have n3_ : Aside0 (w.heap.size ≤ gb238) := ⟨h3_⟩
        have n4_ : Aside0 (gb232 ≠ gb238) := ⟨h4_⟩
        have n5_ : Aside0 (gb238 ≠ gb232) := ⟨h5_⟩
        have n6_ : Aside0 (Below w.heap.size w w29) := ⟨h6_⟩
        clear BK232
        clear HB
        clear h0_ h1_ h2_ h3_ h4_ h5_ h6_
        have BK232 := n0_
        have BK238 := n1_
        have GW238 := n2_
        have GE238 := n3_
        have NB232_238 := n4_
        have NB238_232 := n5_
        have HB := n6_
        clear n0_ n1_ n2_ n3_ n4_ n5_ n6_
        have hHeld : w29.cell? ⟨gb232, 0, none⟩ = some (.int .u64 t229) ∧ w29.cell? ⟨gb232, 1, none⟩ = some (.int .u64 t230) := hS_
        refine norm_ (a' := ?_) ?_ ?_
        rotate_left
        ·simp only [putAll, Act.put, List.setIfInBounds_toArray, List.set_cons_zero, List.set_cons_succ]
         rfl
        refine one_ (i := 7) (N := none) #[true, true, true, true, true, true, true, true, false] rfl rfl (one_of HT_.out (by kernel_rfl)) (by decide) (fun K hK => ?_)
        have hs30 : w29.cell? ⟨gb238, 0, none⟩ = some (.int .u64 0) := (blk_cell BK238.out 0).trans rfl
        have hfs30 := blk_frozen BK238.out 0
        have hns30_0 := NB232_238.out
        have hms30_0 := NB238_232.out
        have hs31 : w29.cell? ⟨gb238, 1, none⟩ = some (.int .u64 0) := (blk_cell BK238.out 1).trans rfl
        have hfs31 := blk_frozen BK238.out 1
        have hns31_0 := NB232_238.out
        have hms31_0 := NB238_232.out
        refine skip_ (w1 := ?_) (by rfl) rfl ?_ ?_
        rotate_left
        ·go_simp
         rfl
        refine hK.out _ _ ⟨((cell_far (p := ⟨gb238, _, none⟩) NB232_238.out _).trans (((cell_far (p := ⟨gb238, _, none⟩) NB232_238.out _).trans (hHeld.1)))), ((cell_far (p := ⟨gb238, _, none⟩) NB232_238.out _).trans (((cell_far (p := ⟨gb238, _, none⟩) NB232_238.out _).trans (hHeld.2))))⟩ (fun hHeld => ?_)
        clear hK K
        refine pure_ (i := 8) (N := some 4) (v := ?_) (a' := ?_) #[true, true, true, true, true, true, true, true, true] rfl rfl (any_of HT_.out (by kernel_rfl)) (fun _ _ _ h => h) (Or.inl ⟨by rfl, ?_⟩) ?_ ?_
        rotate_left
        ·intro w'
         go_simp
         with_reducible rfl
        rotate_left
        ·simp only [Act.put, List.setIfInBounds_toArray, List.set_cons_zero, List.set_cons_succ, i64_w, i32_w]
         rfl
        refine done_ (done_of HT_.out (by kernel_rfl)) ?_
        try go_wp2_with (first | ((with_reducible refine gate_callee (f := 12) rfl ?_); refine goesL_ (some 20) rfl rfl Try.func12 (by kernel_rfl) rfl #[.int .i64 (-7)] rfl (by (try simp only [List.map_toArray, List.map_cons, List.map_nil]); first | done | rfl | (simp only [List.length_drop, List.length_take]; rfl) | (go_simp; simp only [u8_w, w64_u8]; done) | (go_simp; simp only [u8_w, w64_u8]; rfl)) ?_; (with_reducible refine (wide_Of.calls (-7) t239 t240 _ A4.out).mono ?_); rintro e w32 ⟨rfl, hb⟩; refine ⟨_, rfl, ?_⟩; have n0_ := Aside0.mk (blk_below (g := gb232) (o := .cells #[.int .u64 t229, .int .u64 t230] 24 (0, 0)) (bF BK232) hb); have n1_ := Aside0.mk (blk_below (g := gb238) (o := .cells #[.int .u64 t235, .int .u64 t236] 24 (0, 0)) (by (with_reducible repeat (first | refine blk_drewN ?_ _ | refine blk_drew ?_ | refine blk_alloc ?_ _)); refine blk_put (cs := #[.int .u64 t235, .int .u64 0]) ?_ 1 _ rfl; (with_reducible repeat (first | refine blk_drewN ?_ _ | refine blk_drew ?_ | refine blk_alloc ?_ _)); refine blk_put (cs := #[.int .u64 0, .int .u64 0]) ?_ 0 _ rfl; (with_reducible repeat (first | refine blk_drewN ?_ _ | refine blk_drew ?_ | refine blk_alloc ?_ _)); exact BK238.out) hb); have n2_ := Aside0.mk (below_step (bL HB) hb); clear BK232 BK238 HB; have BK232 := n0_; have BK238 := n1_; have HB := n2_; clear n0_ n1_ n2_; (try clear hb); (try clear hb2); (try clear hk); (try clear hi)) | ((with_reducible refine gate_callee (f := 12) rfl ?_); refine goesL_ (some 21) rfl rfl Try.func12 (by kernel_rfl) rfl #[.int .i64 2] rfl (by (try simp only [List.map_toArray, List.map_cons, List.map_nil]); first | done | rfl | (simp only [List.length_drop, List.length_take]; rfl) | (go_simp; simp only [u8_w, w64_u8]; done) | (go_simp; simp only [u8_w, w64_u8]; rfl)) ?_; (with_reducible refine (wide_Of.calls 2 t241 t242 _ A5.out).mono ?_); rintro e w33 ⟨rfl, hb⟩; refine ⟨_, rfl, ?_⟩; have n0_ := blkB BK232 hb; have n1_ := blkB BK238 hb; have n2_ := Aside0.mk (below_step (bL HB) hb); clear BK232 BK238 HB; have BK232 := n0_; have BK238 := n1_; have HB := n2_; clear n0_ n1_ n2_; (try clear hb); (try clear hb2); (try clear hk); (try clear hi)) | ((with_reducible refine gate_callee (f := 22) rfl ?_); refine goesL_ (some 22) rfl rfl Try.func22 (by kernel_rfl) rfl #[.agg #[.int .u64 t239, .int .u64 t240], .agg #[.int .u64 t241, .int .u64 t242]] rfl (by (try simp only [List.map_toArray, List.map_cons, List.map_nil]); first | done | rfl | (simp only [List.length_drop, List.length_take]; rfl) | (go_simp; simp only [u8_w, w64_u8]; done) | (go_simp; simp only [u8_w, w64_u8]; rfl)) ?_; (with_reducible refine (wide_Quo.calls k t239 t240 t241 t242 t243 t244 t245 _ A6.out).mono ?_); rintro e w34 ⟨rfl, hb⟩; refine ⟨_, rfl, ?_⟩; have n0_ := blkB BK232 hb; have n1_ := blkB BK238 hb; have n2_ := Aside0.mk (below_step (bL HB) hb); clear BK232 BK238 HB; have BK232 := n0_; have BK238 := n1_; have HB := n2_; clear n0_ n1_ n2_; (try clear hb); (try clear hb2); (try clear hk); (try clear hi)) | ((with_reducible refine gate_dst (N := 5) rfl ?_); refine box_event ?hg (N := 5) ?hd (cs := #[.int .u64 0, .int .u64 0]) (t := 24) ?hr ?_; (case hd => rfl); (case hg => rfl); (case hr => first | (go_simp; done) | (go_simp; rfl)); intro gb246 hg w35 hbox hb; have n0_ := blkB BK232 hb; have n1_ := blkB BK238 hb; have n2_ := Aside0.mk (below_step (bL HB) hb); have n3_ := Aside0.mk (hbox); have n4_ := Aside0.mk ((by rw [hg]; exact (below_size (bL HB)) : w.heap.size ≤ gb246)); have n5_ := Aside0.mk ((by rw [hg]; exact (below_size (bL HB)) : w.heap.size ≤ gb246)); have n6_ := blkL BK232 hg; have n7_ := blkG BK232 hg; have n8_ := blkL BK238 hg; have n9_ := blkG BK238 hg; clear BK232 BK238 HB; have BK232 := n0_; have BK238 := n1_; have HB := n2_; have BK246 := n3_; have GW246 := n4_; have GE246 := n5_; have NB232_246 := n6_; have NB246_232 := n7_; have NB238_246 := n8_; have NB246_238 := n9_; clear n0_ n1_ n2_ n3_ n4_ n5_ n6_ n7_ n8_ n9_; clear hb hbox hg; have hnb36 := NB246_232.out; have hnc36 := NB232_246.out; have hnb37 := NB246_238.out; have hnc37 := NB238_246.out; have hcz38_0 : w35.cell? ⟨gb246, 0, none⟩ = some (.int .u64 0) := (blk_cell BK246.out 0).trans rfl; have hcz38_1 : w35.cell? ⟨gb246, 1, none⟩ = some (.int .u64 0) := (blk_cell BK246.out 1).trans rfl; have hfz38_0 := blk_frozen BK246.out 0; have hfz38_1 := blk_frozen BK246.out 1) | ((with_reducible refine gate_callee (f := 12) rfl ?_); refine goesL_ (some 26) rfl rfl Try.func12 (by kernel_rfl) rfl #[.int .i64 (-7)] rfl (by (try simp only [List.map_toArray, List.map_cons, List.map_nil]); first | done | rfl | (simp only [List.length_drop, List.length_take]; rfl) | (go_simp; simp only [u8_w, w64_u8]; done) | (go_simp; simp only [u8_w, w64_u8]; rfl)) ?_; (with_reducible refine (wide_Of.calls (-7) t247 t248 _ A7.out).mono ?_); rintro e w39 ⟨rfl, hb⟩; refine ⟨_, rfl, ?_⟩; have n0_ := Aside0.mk (blk_below (g := gb232) (o := .cells #[.int .u64 t229, .int .u64 t230] 24 (0, 0)) (bF BK232) hb); have n1_ := Aside0.mk (blk_below (g := gb238) (o := .cells #[.int .u64 t235, .int .u64 t236] 24 (0, 0)) (bF BK238) hb); have n2_ := Aside0.mk (blk_below (g := gb246) (o := .cells #[.int .u64 t243, .int .u64 t244] 24 (0, 0)) (by (with_reducible repeat (first | refine blk_drewN ?_ _ | refine blk_drew ?_ | refine blk_alloc ?_ _)); refine blk_put (cs := #[.int .u64 t243, .int .u64 0]) ?_ 1 _ rfl; (with_reducible repeat (first | refine blk_drewN ?_ _ | refine blk_drew ?_ | refine blk_alloc ?_ _)); refine blk_put (cs := #[.int .u64 0, .int .u64 0]) ?_ 0 _ rfl; (with_reducible repeat (first | refine blk_drewN ?_ _ | refine blk_drew ?_ | refine blk_alloc ?_ _)); exact BK246.out) hb); have n3_ := Aside0.mk (below_step (bL HB) hb); clear BK232 BK238 BK246 HB; have BK232 := n0_; have BK238 := n1_; have BK246 := n2_; have HB := n3_; clear n0_ n1_ n2_ n3_; (try clear hb); (try clear hb2); (try clear hk); (try clear hi)) | ((with_reducible refine gate_callee (f := 12) rfl ?_); refine goesL_ (some 27) rfl rfl Try.func12 (by kernel_rfl) rfl #[.int .i64 2] rfl (by (try simp only [List.map_toArray, List.map_cons, List.map_nil]); first | done | rfl | (simp only [List.length_drop, List.length_take]; rfl) | (go_simp; simp only [u8_w, w64_u8]; done) | (go_simp; simp only [u8_w, w64_u8]; rfl)) ?_; (with_reducible refine (wide_Of.calls 2 t249 t250 _ A8.out).mono ?_); rintro e w40 ⟨rfl, hb⟩; refine ⟨_, rfl, ?_⟩; have n0_ := blkB BK232 hb; have n1_ := blkB BK238 hb; have n2_ := blkB BK246 hb; have n3_ := Aside0.mk (below_step (bL HB) hb); clear BK232 BK238 BK246 HB; have BK232 := n0_; have BK238 := n1_; have BK246 := n2_; have HB := n3_; clear n0_ n1_ n2_ n3_; (try clear hb); (try clear hb2); (try clear hk); (try clear hi)) | ((with_reducible refine gate_callee (f := 23) rfl ?_); refine goesL_ (some 28) rfl rfl Try.func23 (by kernel_rfl) rfl #[.agg #[.int .u64 t247, .int .u64 t248], .agg #[.int .u64 t249, .int .u64 t250]] rfl (by (try simp only [List.map_toArray, List.map_cons, List.map_nil]); first | done | rfl | (simp only [List.length_drop, List.length_take]; rfl) | (go_simp; simp only [u8_w, w64_u8]; done) | (go_simp; simp only [u8_w, w64_u8]; rfl)) ?_; (with_reducible refine (wide_Rem.calls k t247 t248 t249 t250 t251 t252 t253 _ A9.out).mono ?_); rintro e w41 ⟨rfl, hb⟩; refine ⟨_, rfl, ?_⟩; have n0_ := blkB BK232 hb; have n1_ := blkB BK238 hb; have n2_ := blkB BK246 hb; have n3_ := Aside0.mk (below_step (bL HB) hb); clear BK232 BK238 BK246 HB; have BK232 := n0_; have BK238 := n1_; have BK246 := n2_; have HB := n3_; clear n0_ n1_ n2_ n3_; (try clear hb); (try clear hb2); (try clear hk); (try clear hi)) | ((with_reducible refine gate_dst (N := 7) rfl ?_); refine box_event ?hg (N := 7) ?hd (cs := #[.int .u64 0, .int .u64 0]) (t := 24) ?hr ?_; (case hd => rfl); (case hg => rfl); (case hr => first | (go_simp; done) | (go_simp; rfl)); intro gb254 hg w42 hbox hb; have n0_ := blkB BK232 hb; have n1_ := blkB BK238 hb; have n2_ := blkB BK246 hb; have n3_ := Aside0.mk (below_step (bL HB) hb); have n4_ := Aside0.mk (hbox); have n5_ := Aside0.mk ((by rw [hg]; exact (below_size (bL HB)) : w.heap.size ≤ gb254)); have n6_ := Aside0.mk ((by rw [hg]; exact (below_size (bL HB)) : w.heap.size ≤ gb254)); have n7_ := blkL BK232 hg; have n8_ := blkG BK232 hg; have n9_ := blkL BK238 hg; have n10_ := blkG BK238 hg; have n11_ := blkL BK246 hg; have n12_ := blkG BK246 hg; clear BK232 BK238 BK246 HB; have BK232 := n0_; have BK238 := n1_; have BK246 := n2_; have HB := n3_; have BK254 := n4_; have GW254 := n5_; have GE254 := n6_; have NB232_254 := n7_; have NB254_232 := n8_; have NB238_254 := n9_; have NB254_238 := n10_; have NB246_254 := n11_; have NB254_246 := n12_; clear n0_ n1_ n2_ n3_ n4_ n5_ n6_ n7_ n8_ n9_ n10_ n11_ n12_; clear hb hbox hg; have hnb43 := NB254_232.out; have hnc43 := NB232_254.out; have hnb44 := NB254_238.out; have hnc44 := NB238_254.out; have hnb45 := NB254_246.out; have hnc45 := NB246_254.out; have hcz46_0 : w42.cell? ⟨gb254, 0, none⟩ = some (.int .u64 0) := (blk_cell BK254.out 0).trans rfl; have hcz46_1 : w42.cell? ⟨gb254, 1, none⟩ = some (.int .u64 0) := (blk_cell BK254.out 1).trans rfl; have hfz46_0 := blk_frozen BK254.out 0; have hfz46_1 := blk_frozen BK254.out 1))
        have n0_ : Aside0 (((w42.setCell ⟨gb254, 0, none⟩ (.int .u64 t251)).setCell ⟨gb254, 1, none⟩ (.int .u64 t252)).heap[gb232]? = some (.cells #[.int .u64 t229, .int .u64 t230] 24 (0, 0))) := ⟨by (with_reducible repeat (first | refine blk_drewN ?_ _ | refine blk_drew ?_ | refine blk_alloc ?_ _)); refine blk_far ?_ NB232_254.out _; (with_reducible repeat (first | refine blk_drewN ?_ _ | refine blk_drew ?_ | refine blk_alloc ?_ _)); refine blk_far ?_ NB232_254.out _; (with_reducible repeat (first | refine blk_drewN ?_ _ | refine blk_drew ?_ | refine blk_alloc ?_ _)); exact BK232.out⟩
        have n1_ : Aside0 (((w42.setCell ⟨gb254, 0, none⟩ (.int .u64 t251)).setCell ⟨gb254, 1, none⟩ (.int .u64 t252)).heap[gb238]? = some (.cells #[.int .u64 t235, .int .u64 t236] 24 (0, 0))) := ⟨by (with_reducible repeat (first | refine blk_drewN ?_ _ | refine blk_drew ?_ | refine blk_alloc ?_ _)); refine blk_far ?_ NB238_254.out _; (with_reducible repeat (first | refine blk_drewN ?_ _ | refine blk_drew ?_ | refine blk_alloc ?_ _)); refine blk_far ?_ NB238_254.out _; (with_reducible repeat (first | refine blk_drewN ?_ _ | refine blk_drew ?_ | refine blk_alloc ?_ _)); exact BK238.out⟩
        have n2_ : Aside0 (((w42.setCell ⟨gb254, 0, none⟩ (.int .u64 t251)).setCell ⟨gb254, 1, none⟩ (.int .u64 t252)).heap[gb246]? = some (.cells #[.int .u64 t243, .int .u64 t244] 24 (0, 0))) := ⟨by (with_reducible repeat (first | refine blk_drewN ?_ _ | refine blk_drew ?_ | refine blk_alloc ?_ _)); refine blk_far ?_ NB246_254.out _; (with_reducible repeat (first | refine blk_drewN ?_ _ | refine blk_drew ?_ | refine blk_alloc ?_ _)); refine blk_far ?_ NB246_254.out _; (with_reducible repeat (first | refine blk_drewN ?_ _ | refine blk_drew ?_ | refine blk_alloc ?_ _)); exact BK246.out⟩
        have n3_ : Aside0 (((w42.setCell ⟨gb254, 0, none⟩ (.int .u64 t251)).setCell ⟨gb254, 1, none⟩ (.int .u64 t252)).heap[gb254]? = some (.cells #[.int .u64 t251, .int .u64 t252] 24 (0, 0))) := ⟨by (with_reducible repeat (first | refine blk_drewN ?_ _ | refine blk_drew ?_ | refine blk_alloc ?_ _)); refine blk_put (cs := #[.int .u64 t251, .int .u64 0]) ?_ 1 _ rfl; (with_reducible repeat (first | refine blk_drewN ?_ _ | refine blk_drew ?_ | refine blk_alloc ?_ _)); refine blk_put (cs := #[.int .u64 0, .int .u64 0]) ?_ 0 _ rfl; (with_reducible repeat (first | refine blk_drewN ?_ _ | refine blk_drew ?_ | refine blk_alloc ?_ _)); exact BK254.out⟩
        have n4_ : Aside0 (Below w.heap.size w ((w42.setCell ⟨gb254, 0, none⟩ (.int .u64 t251)).setCell ⟨gb254, 1, none⟩ (.int .u64 t252))) := ⟨by repeat (first | (with_reducible first | exact HB.out | apply below_alloc | apply pw_below_drewN | apply below_drew1 | refine below_set ?_ GE232.out | refine below_set ?_ GE238.out | refine below_set ?_ GE246.out | refine below_set ?_ GE254.out) | exact HB.out)⟩
        (try clear BK232)
        (try clear BK238)
        (try clear BK246)
        (try clear BK254)
        (try clear HB)
        generalize ((w42.setCell ⟨gb254, 0, none⟩ (.int .u64 t251)).setCell ⟨gb254, 1, none⟩ (.int .u64 t252)) = w47 at n0_ n1_ n2_ n3_ n4_ ⊢
        have BK232 := n0_
        have BK238 := n1_
        have BK246 := n2_
        have BK254 := n3_
        have HB := n4_
        clear n0_ n1_ n2_ n3_ n4_
        have n0_ := Aside0.mk (blk_drew BK232.out)
        have n1_ := Aside0.mk (blk_drew BK238.out)
        have n2_ := Aside0.mk (blk_drew BK246.out)
        have n3_ := Aside0.mk (blk_drew BK254.out)
        have n4_ := Aside0.mk (below_drew1 HB.out)
        clear BK232
        clear BK238
        clear BK246
        clear BK254
        clear HB
        have BK232 := n0_
        have BK238 := n1_
        have BK246 := n2_
        have BK254 := n3_
        have HB := n4_
        clear n0_ n1_ n2_ n3_ n4_
        refine start_ (n := 35) (S := fun w' => w'.cell? ⟨gb232, 0, none⟩ = some (.int .u64 t229) ∧ w'.cell? ⟨gb232, 1, none⟩ = some (.int .u64 t230) ∧ w'.cell? ⟨gb246, 0, none⟩ = some (.int .u64 t243) ∧ w'.cell? ⟨gb246, 1, none⟩ = some (.int .u64 t244) ∧ w'.cell? ⟨gb254, 0, none⟩ = some (.int .u64 t251) ∧ w'.cell? ⟨gb254, 1, none⟩ = some (.int .u64 t252)) (ds := []) #[false, false, false, false, false, false, false, false, false, false, false, false, false, false, false, false, false, false, false, false, false, false, false, false, false, false, false, false, false, false, false, false, false, false, false] (by kernel_rfl) rfl rfl ⟨(blk_cell BK232.out 0).trans rfl, (blk_cell BK232.out 1).trans rfl, (blk_cell BK246.out 0).trans rfl, (blk_cell BK246.out 1).trans rfl, (blk_cell BK254.out 0).trans rfl, (blk_cell BK254.out 1).trans rfl⟩ (fun hHeld => ?_); refine with_tabW lorgnettelaw01_awake.tab5 lorgnettelaw01_awake.bits5 (fun HT_ HW_ => ?_)
        generalize w47.drew = w48 at BK232 BK238 BK246 BK254 HB hHeld ⊢
        refine pure_ (i := 0) (N := some 31) (v := ?_) (a' := ?_) #[true, false, false, false, false, false, false, false, false, false, false, false, false, false, false, false, false, false, false, false, false, false, false, false, false, false, false, false, false, false, false, false, false, false, false] rfl rfl (any_of HT_.out (by kernel_rfl)) (fun _ _ _ h => h) (Or.inl ⟨by rfl, ?_⟩) ?_ ?_
        rotate_left
        ·intro w'
         go_simp
         with_reducible rfl
        rotate_left
        ·simp only [Act.put, List.setIfInBounds_toArray, List.set_cons_zero, List.set_cons_succ, i64_w, i32_w]
         rfl
        refine pure_ (i := 1) (N := some 32) (v := ?_) (a' := ?_) #[true, true, false, false, false, false, false, false, false, false, false, false, false, false, false, false, false, false, false, false, false, false, false, false, false, false, false, false, false, false, false, false, false, false, false] rfl rfl (any_of HT_.out (by kernel_rfl)) (fun _ _ _ h => h) (Or.inl ⟨by rfl, ?_⟩) ?_ ?_
        rotate_left
        ·intro w'
         go_simp
         with_reducible rfl
        rotate_left
        ·simp only [Act.put, List.setIfInBounds_toArray, List.set_cons_zero, List.set_cons_succ, i64_w, i32_w]
         rfl
        refine pure_ (i := 2) (N := some 33) (v := ?_) (a' := ?_) #[true, true, true, false, false, false, false, false, false, false, false, false, false, false, false, false, false, false, false, false, false, false, false, false, false, false, false, false, false, false, false, false, false, false, false] rfl rfl (any_of HT_.out (by kernel_rfl)) (fun _ _ _ h => h) (Or.inl ⟨by rfl, ?_⟩) ?_ ?_
        rotate_left
        ·intro w'
         go_simp
         with_reducible rfl
        rotate_left
        ·simp only [Act.put, List.setIfInBounds_toArray, List.set_cons_zero, List.set_cons_succ, i64_w, i32_w]
         rfl
        refine take_ (i := 3) (N := some 34) (v := ?_) (a' := ?_) #[true, true, true, true, false, false, false, false, false, false, false, false, false, false, false, false, false, false, false, false, false, false, false, false, false, false, false, false, false, false, false, false, false, false, false] rfl rfl (take_ofW HT_.out HW_.out (by kernel_rfl)) (fun _ _ _ h => h) (Or.inl ⟨by rfl, ?_⟩) hHeld ?_ ?_
        rotate_left
        ·rintro w' ⟨s0, s1, s2, s3, s4, s5⟩
         go_simp
         with_reducible rfl
        rotate_left
        ·simp only [Act.put, List.setIfInBounds_toArray, List.set_cons_zero, List.set_cons_succ, i64_w, i32_w]
         rfl
        refine one_ (i := 4) (N := some 35) #[true, true, true, true, true, false, false, false, false, false, false, false, false, false, false, false, false, false, false, false, false, false, false, false, false, false, false, false, false, false, false, false, false, false, false] rfl rfl (one_of HT_.out (by kernel_rfl)) (by decide) (fun K hK => ?_)
        refine goes_ Try.func16 (by kernel_rfl) rfl #[.agg #[.int .u64 t229, .int .u64 t230]] (by rfl) rfl rfl (by (try simp only [List.map_toArray, List.map_cons, List.map_nil]); first | done | rfl | (simp only [List.length_drop, List.length_take]; rfl) | (go_simp; simp only [u8_w, w64_u8]; done) | (go_simp; simp only [u8_w, w64_u8]; rfl)) ?_
        with_reducible refine (wide_Print.calls k t229 t230 t255 _ A11.out).mono ?_
        rintro e w49 ⟨rfl, hb⟩
        refine ⟨_, rfl, ?_⟩
        have n0_ := blkB BK232 hb
        have n1_ := blkB BK238 hb
        have n2_ := blkB BK246 hb
        have n3_ := blkB BK254 hb
        have n4_ := Aside0.mk (below_step (bL HB) hb)
        clear BK232
        clear BK238
        clear BK246
        clear BK254
        clear HB
        have BK232 := n0_
        have BK238 := n1_
        have BK246 := n2_
        have BK254 := n3_
        have HB := n4_
        clear n0_ n1_ n2_ n3_ n4_
        (try clear hb)
        (try clear hb2)
        (try clear hk)
        (try clear hi)
        refine hK.out _ _ ⟨(blk_cell BK232.out 0).trans rfl, (blk_cell BK232.out 1).trans rfl, (blk_cell BK246.out 0).trans rfl, (blk_cell BK246.out 1).trans rfl, (blk_cell BK254.out 0).trans rfl, (blk_cell BK254.out 1).trans rfl⟩ (fun hHeld => ?_)
        clear hK K
        refine norm_ (a' := ?_) ?_ ?_
        rotate_left
        ·show Act.put _ (some 35) _ = _
         simp only [Act.put, List.setIfInBounds_toArray, List.set_cons_zero, List.set_cons_succ, i64_w, i32_w]
         rfl
        refine pure_ (i := 5) (N := some 36) (v := ?_) (a' := ?_) #[true, true, true, true, true, true, false, false, false, false, false, false, false, false, false, false, false, false, false, false, false, false, false, false, false, false, false, false, false, false, false, false, false, false, false] rfl rfl (any_of HT_.out (by kernel_rfl)) (fun _ _ _ h => h) (Or.inl ⟨by rfl, ?_⟩) ?_ ?_
        rotate_left
        ·intro w'
         go_simp
         with_reducible rfl
        rotate_left
        ·simp only [Act.put, List.setIfInBounds_toArray, List.set_cons_zero, List.set_cons_succ, i64_w, i32_w]
         rfl
        refine pure_ (i := 6) (N := some 37) (v := ?_) (a' := ?_) #[true, true, true, true, true, true, true, false, false, false, false, false, false, false, false, false, false, false, false, false, false, false, false, false, false, false, false, false, false, false, false, false, false, false, false] rfl rfl (any_of HT_.out (by kernel_rfl)) (fun _ _ _ h => h) (Or.inl ⟨by rfl, ?_⟩) ?_ ?_
        rotate_left
        ·intro w'
         go_simp
         with_reducible rfl
        rotate_left
        ·simp only [Act.put, List.setIfInBounds_toArray, List.set_cons_zero, List.set_cons_succ, i64_w, i32_w]
         rfl
        refine pure_ (i := 7) (N := some 38) (v := ?_) (a' := ?_) #[true, true, true, true, true, true, true, true, false, false, false, false, false, false, false, false, false, false, false, false, false, false, false, false, false, false, false, false, false, false, false, false, false, false, false] rfl rfl (any_of HT_.out (by kernel_rfl)) (fun _ _ _ h => h) (Or.inl ⟨by rfl, ?_⟩) ?_ ?_
        rotate_left
        ·intro w'
         go_simp
         with_reducible rfl
        rotate_left
        ·simp only [Act.put, List.setIfInBounds_toArray, List.set_cons_zero, List.set_cons_succ, i64_w, i32_w]
         rfl
        refine pure_ (i := 8) (N := some 39) (v := ?_) (a' := ?_) #[true, true, true, true, true, true, true, true, true, false, false, false, false, false, false, false, false, false, false, false, false, false, false, false, false, false, false, false, false, false, false, false, false, false, false] rfl rfl (any_of HT_.out (by kernel_rfl)) (fun _ _ _ h => h) (Or.inl ⟨by rfl, ?_⟩) ?_ ?_
        rotate_left
        ·intro w'
         go_simp
         with_reducible rfl
        rotate_left
        ·simp only [Act.put, List.setIfInBounds_toArray, List.set_cons_zero, List.set_cons_succ, i64_w, i32_w]
         rfl
        refine pure_ (i := 9) (N := some 40) (v := ?_) (a' := ?_) #[true, true, true, true, true, true, true, true, true, true, false, false, false, false, false, false, false, false, false, false, false, false, false, false, false, false, false, false, false, false, false, false, false, false, false] rfl rfl (any_of HT_.out (by kernel_rfl)) (fun _ _ _ h => h) (Or.inl ⟨by rfl, ?_⟩) ?_ ?_
        rotate_left
        ·intro w'
         go_simp
         with_reducible rfl
        rotate_left
        ·simp only [Act.put, List.setIfInBounds_toArray, List.set_cons_zero, List.set_cons_succ, i64_w, i32_w]
         rfl
        refine pure_ (i := 10) (N := some 41) (v := ?_) (a' := ?_) #[true, true, true, true, true, true, true, true, true, true, true, false, false, false, false, false, false, false, false, false, false, false, false, false, false, false, false, false, false, false, false, false, false, false, false] rfl rfl (any_of HT_.out (by kernel_rfl)) (fun _ _ _ h => h) (Or.inl ⟨by rfl, ?_⟩) ?_ ?_
        rotate_left
        ·intro w'
         go_simp
         with_reducible rfl
        rotate_left
        ·simp only [Act.put, List.setIfInBounds_toArray, List.set_cons_zero, List.set_cons_succ, i64_w, i32_w]
         rfl
        refine pure_ (i := 11) (N := some 42) (v := ?_) (a' := ?_) #[true, true, true, true, true, true, true, true, true, true, true, true, false, false, false, false, false, false, false, false, false, false, false, false, false, false, false, false, false, false, false, false, false, false, false] rfl rfl (any_of HT_.out (by kernel_rfl)) (fun _ _ _ h => h) (Or.inl ⟨by rfl, ?_⟩) ?_ ?_
        rotate_left
        ·intro w'
         go_simp
         with_reducible rfl
        rotate_left
        ·simp only [Act.put, List.setIfInBounds_toArray, List.set_cons_zero, List.set_cons_succ, i64_w, i32_w]
         rfl
        refine take_ (i := 12) (N := some 43) (v := ?_) (a' := ?_) #[true, true, true, true, true, true, true, true, true, true, true, true, true, false, false, false, false, false, false, false, false, false, false, false, false, false, false, false, false, false, false, false, false, false, false] rfl rfl (take_ofW HT_.out HW_.out (by kernel_rfl)) (fun _ _ _ h => h) (Or.inl ⟨by rfl, ?_⟩) hHeld ?_ ?_
        rotate_left
        ·rintro w' ⟨s0, s1, s2, s3, s4, s5⟩
         go_simp
         with_reducible rfl
        rotate_left
        ·simp only [Act.put, List.setIfInBounds_toArray, List.set_cons_zero, List.set_cons_succ, i64_w, i32_w]
         rfl
        refine one_ (i := 13) (N := some 44) #[true, true, true, true, true, true, true, true, true, true, true, true, true, true, false, false, false, false, false, false, false, false, false, false, false, false, false, false, false, false, false, false, false, false, false] rfl rfl (one_of HT_.out (by kernel_rfl)) (by decide) (fun K hK => ?_)
        refine goes_ Try.func12 (by kernel_rfl) rfl #[.int .i64 (-3)] (by rfl) rfl rfl (by (try simp only [List.map_toArray, List.map_cons, List.map_nil]); first | done | rfl | (simp only [List.length_drop, List.length_take]; rfl) | (go_simp; simp only [u8_w, w64_u8]; done) | (go_simp; simp only [u8_w, w64_u8]; rfl)) ?_
        with_reducible refine (wide_Of.calls (-3) t256 t257 _ A14.out).mono ?_
        rintro e w50 ⟨rfl, hb⟩
        refine ⟨_, rfl, ?_⟩
        have n0_ := blkB BK232 hb
        have n1_ := blkB BK238 hb
        have n2_ := blkB BK246 hb
        have n3_ := blkB BK254 hb
        have n4_ := Aside0.mk (below_step (bL HB) hb)
        clear BK232
        clear BK238
        clear BK246
        clear BK254
        clear HB
        have BK232 := n0_
        have BK238 := n1_
        have BK246 := n2_
        have BK254 := n3_
        have HB := n4_
        clear n0_ n1_ n2_ n3_ n4_
        (try clear hb)
        (try clear hb2)
        (try clear hk)
        (try clear hi)
        refine hK.out _ _ ⟨(blk_cell BK232.out 0).trans rfl, (blk_cell BK232.out 1).trans rfl, (blk_cell BK246.out 0).trans rfl, (blk_cell BK246.out 1).trans rfl, (blk_cell BK254.out 0).trans rfl, (blk_cell BK254.out 1).trans rfl⟩ (fun hHeld => ?_)
        clear hK K
        refine norm_ (a' := ?_) ?_ ?_
        rotate_left
        ·show Act.put _ (some 44) _ = _
         simp only [Act.put, List.setIfInBounds_toArray, List.set_cons_zero, List.set_cons_succ, i64_w, i32_w]
         rfl
        refine pure_ (i := 14) (N := some 45) (v := ?_) (a' := ?_) #[true, true, true, true, true, true, true, true, true, true, true, true, true, true, true, false, false, false, false, false, false, false, false, false, false, false, false, false, false, false, false, false, false, false, false] rfl rfl (any_of HT_.out (by kernel_rfl)) (fun _ _ _ h => h) (Or.inl ⟨by rfl, ?_⟩) ?_ ?_
        rotate_left
        ·intro w'
         go_simp
         with_reducible rfl
        rotate_left
        ·simp only [Act.put, List.setIfInBounds_toArray, List.set_cons_zero, List.set_cons_succ, i64_w, i32_w]
         rfl
        refine pure_ (i := 15) (N := some 46) (v := ?_) (a' := ?_) #[true, true, true, true, true, true, true, true, true, true, true, true, true, true, true, true, false, false, false, false, false, false, false, false, false, false, false, false, false, false, false, false, false, false, false] rfl rfl (any_of HT_.out (by kernel_rfl)) (fun _ _ _ h => h) (Or.inl ⟨by rfl, ?_⟩) ?_ ?_
        rotate_left
        ·intro w'
         go_simp
         with_reducible rfl
        rotate_left
        ·simp only [Act.put, List.setIfInBounds_toArray, List.set_cons_zero, List.set_cons_succ, i64_w, i32_w]
         rfl
        refine pure_ (i := 16) (N := some 47) (v := ?_) (a' := ?_) #[true, true, true, true, true, true, true, true, true, true, true, true, true, true, true, true, true, false, false, false, false, false, false, false, false, false, false, false, false, false, false, false, false, false, false] rfl rfl (any_of HT_.out (by kernel_rfl)) (fun _ _ _ h => h) (Or.inl ⟨by rfl, ?_⟩) ?_ ?_
        rotate_left
        ·intro w'
         go_simp
         with_reducible rfl
        rotate_left
        ·simp only [Act.put, List.setIfInBounds_toArray, List.set_cons_zero, List.set_cons_succ, i64_w, i32_w]
         rfl
        refine pure_ (i := 17) (N := some 48) (v := ?_) (a' := ?_) #[true, true, true, true, true, true, true, true, true, true, true, true, true, true, true, true, true, true, false, false, false, false, false, false, false, false, false, false, false, false, false, false, false, false, false] rfl rfl (any_of HT_.out (by kernel_rfl)) (fun _ _ _ h => h) (Or.inl ⟨by rfl, ?_⟩) ?_ ?_
        rotate_left
        ·intro w'
         go_simp
         with_reducible rfl
        rotate_left
        ·simp only [Act.put, List.setIfInBounds_toArray, List.set_cons_zero, List.set_cons_succ, i64_w, i32_w]
         rfl
        refine pure_ (i := 18) (N := some 49) (v := ?_) (a' := ?_) #[true, true, true, true, true, true, true, true, true, true, true, true, true, true, true, true, true, true, true, false, false, false, false, false, false, false, false, false, false, false, false, false, false, false, false] rfl rfl (any_of HT_.out (by kernel_rfl)) (fun _ _ _ h => h) (Or.inl ⟨by rfl, ?_⟩) ?_ ?_
        rotate_left
        ·intro w'
         go_simp
         with_reducible rfl
        rotate_left
        ·simp only [Act.put, List.setIfInBounds_toArray, List.set_cons_zero, List.set_cons_succ, i64_w, i32_w]
         rfl
        refine pure_ (i := 19) (N := some 50) (v := ?_) (a' := ?_) #[true, true, true, true, true, true, true, true, true, true, true, true, true, true, true, true, true, true, true, true, false, false, false, false, false, false, false, false, false, false, false, false, false, false, false] rfl rfl (any_of HT_.out (by kernel_rfl)) (fun _ _ _ h => h) (Or.inl ⟨by rfl, ?_⟩) ?_ ?_
        rotate_left
        ·intro w'
         go_simp
         with_reducible rfl
        rotate_left
        ·simp only [Act.put, List.setIfInBounds_toArray, List.set_cons_zero, List.set_cons_succ, i64_w, i32_w]
         rfl
        refine pure_ (i := 20) (N := some 51) (v := ?_) (a' := ?_) #[true, true, true, true, true, true, true, true, true, true, true, true, true, true, true, true, true, true, true, true, true, false, false, false, false, false, false, false, false, false, false, false, false, false, false] rfl rfl (any_of HT_.out (by kernel_rfl)) (fun _ _ _ h => h) (Or.inl ⟨by rfl, ?_⟩) ?_ ?_
        rotate_left
        ·intro w'
         go_simp
         with_reducible rfl
        rotate_left
        ·simp only [Act.put, List.setIfInBounds_toArray, List.set_cons_zero, List.set_cons_succ, i64_w, i32_w]
         rfl
        refine take_ (i := 21) (N := some 52) (v := ?_) (a' := ?_) #[true, true, true, true, true, true, true, true, true, true, true, true, true, true, true, true, true, true, true, true, true, true, false, false, false, false, false, false, false, false, false, false, false, false, false] rfl rfl (take_ofW HT_.out HW_.out (by kernel_rfl)) (fun _ _ _ h => h) (Or.inl ⟨by rfl, ?_⟩) hHeld ?_ ?_
        rotate_left
        ·rintro w' ⟨s0, s1, s2, s3, s4, s5⟩
         go_simp
         with_reducible rfl
        rotate_left
        ·simp only [Act.put, List.setIfInBounds_toArray, List.set_cons_zero, List.set_cons_succ, i64_w, i32_w]
         rfl
        refine one_ (i := 22) (N := some 53) #[true, true, true, true, true, true, true, true, true, true, true, true, true, true, true, true, true, true, true, true, true, true, true, false, false, false, false, false, false, false, false, false, false, false, false] rfl rfl (one_of HT_.out (by kernel_rfl)) (by decide) (fun K hK => ?_)
        refine goes_ Try.func12 (by kernel_rfl) rfl #[.int .i64 (-1)] (by rfl) rfl rfl (by (try simp only [List.map_toArray, List.map_cons, List.map_nil]); first | done | rfl | (simp only [List.length_drop, List.length_take]; rfl) | (go_simp; simp only [u8_w, w64_u8]; done) | (go_simp; simp only [u8_w, w64_u8]; rfl)) ?_
        with_reducible refine (wide_Of.calls (-1) t258 t259 _ A17.out).mono ?_
        rintro e w51 ⟨rfl, hb⟩
        refine ⟨_, rfl, ?_⟩
        have n0_ := blkB BK232 hb
        have n1_ := blkB BK238 hb
        have n2_ := blkB BK246 hb
        have n3_ := blkB BK254 hb
        have n4_ := Aside0.mk (below_step (bL HB) hb)
        clear BK232
        clear BK238
        clear BK246
        clear BK254
        clear HB
        have BK232 := n0_
        have BK238 := n1_
        have BK246 := n2_
        have BK254 := n3_
        have HB := n4_
        clear n0_ n1_ n2_ n3_ n4_
        (try clear hb)
        (try clear hb2)
        (try clear hk)
        (try clear hi)
        refine hK.out _ _ ⟨(blk_cell BK232.out 0).trans rfl, (blk_cell BK232.out 1).trans rfl, (blk_cell BK246.out 0).trans rfl, (blk_cell BK246.out 1).trans rfl, (blk_cell BK254.out 0).trans rfl, (blk_cell BK254.out 1).trans rfl⟩ (fun hHeld => ?_)
        clear hK K
        refine norm_ (a' := ?_) ?_ ?_
        rotate_left
        ·show Act.put _ (some 53) _ = _
         simp only [Act.put, List.setIfInBounds_toArray, List.set_cons_zero, List.set_cons_succ, i64_w, i32_w]
         rfl
        refine pure_ (i := 23) (N := some 54) (v := ?_) (a' := ?_) #[true, true, true, true, true, true, true, true, true, true, true, true, true, true, true, true, true, true, true, true, true, true, true, true, false, false, false, false, false, false, false, false, false, false, false] rfl rfl (any_of HT_.out (by kernel_rfl)) (fun _ _ _ h => h) (Or.inl ⟨by rfl, ?_⟩) ?_ ?_
        rotate_left
        ·intro w'
         go_simp
         with_reducible rfl
        rotate_left
        ·simp only [Act.put, List.setIfInBounds_toArray, List.set_cons_zero, List.set_cons_succ, i64_w, i32_w]
         rfl
        refine pure_ (i := 24) (N := some 55) (v := ?_) (a' := ?_) #[true, true, true, true, true, true, true, true, true, true, true, true, true, true, true, true, true, true, true, true, true, true, true, true, true, false, false, false, false, false, false, false, false, false, false] rfl rfl (any_of HT_.out (by kernel_rfl)) (fun _ _ _ h => h) (Or.inl ⟨by rfl, ?_⟩) ?_ ?_
        rotate_left
        ·intro w'
         go_simp
         with_reducible rfl
        rotate_left
        ·simp only [Act.put, List.setIfInBounds_toArray, List.set_cons_zero, List.set_cons_succ, i64_w, i32_w]
         rfl
        refine pure_ (i := 25) (N := some 56) (v := ?_) (a' := ?_) #[true, true, true, true, true, true, true, true, true, true, true, true, true, true, true, true, true, true, true, true, true, true, true, true, true, true, false, false, false, false, false, false, false, false, false] rfl rfl (any_of HT_.out (by kernel_rfl)) (fun _ _ _ h => h) (Or.inl ⟨by rfl, ?_⟩) ?_ ?_
        rotate_left
        ·intro w'
         go_simp
         with_reducible rfl
        rotate_left
        ·simp only [Act.put, List.setIfInBounds_toArray, List.set_cons_zero, List.set_cons_succ, i64_w, i32_w]
         rfl
        refine pure_ (i := 26) (N := some 57) (v := ?_) (a' := ?_) #[true, true, true, true, true, true, true, true, true, true, true, true, true, true, true, true, true, true, true, true, true, true, true, true, true, true, true, false, false, false, false, false, false, false, false] rfl rfl (any_of HT_.out (by kernel_rfl)) (fun _ _ _ h => h) (Or.inl ⟨by rfl, ?_⟩) ?_ ?_
        rotate_left
        ·intro w'
         go_simp
         with_reducible rfl
        rotate_left
        ·simp only [Act.put, List.setIfInBounds_toArray, List.set_cons_zero, List.set_cons_succ, i64_w, i32_w]
         rfl
        refine pure_ (i := 27) (N := some 58) (v := ?_) (a' := ?_) #[true, true, true, true, true, true, true, true, true, true, true, true, true, true, true, true, true, true, true, true, true, true, true, true, true, true, true, true, false, false, false, false, false, false, false] rfl rfl (any_of HT_.out (by kernel_rfl)) (fun _ _ _ h => h) (Or.inl ⟨by rfl, ?_⟩) ?_ ?_
        rotate_left
        ·intro w'
         go_simp
         with_reducible rfl
        rotate_left
        ·simp only [Act.put, List.setIfInBounds_toArray, List.set_cons_zero, List.set_cons_succ, i64_w, i32_w]
         rfl
        refine pure_ (i := 28) (N := some 59) (v := ?_) (a' := ?_) #[true, true, true, true, true, true, true, true, true, true, true, true, true, true, true, true, true, true, true, true, true, true, true, true, true, true, true, true, true, false, false, false, false, false, false] rfl rfl (any_of HT_.out (by kernel_rfl)) (fun _ _ _ h => h) (Or.inl ⟨by rfl, ?_⟩) ?_ ?_
        rotate_left
        ·intro w'
         go_simp
         with_reducible rfl
        rotate_left
        ·simp only [Act.put, List.setIfInBounds_toArray, List.set_cons_zero, List.set_cons_succ, i64_w, i32_w]
         rfl
        refine pure_ (i := 29) (N := some 60) (v := ?_) (a' := ?_) #[true, true, true, true, true, true, true, true, true, true, true, true, true, true, true, true, true, true, true, true, true, true, true, true, true, true, true, true, true, true, false, false, false, false, false] rfl rfl (any_of HT_.out (by kernel_rfl)) (fun _ _ _ h => h) (Or.inl ⟨by rfl, ?_⟩) ?_ ?_
        rotate_left
        ·intro w'
         go_simp
         with_reducible rfl
        rotate_left
        ·simp only [Act.put, List.setIfInBounds_toArray, List.set_cons_zero, List.set_cons_succ, i64_w, i32_w]
         rfl
        refine take_ (i := 30) (N := some 61) (v := ?_) (a' := ?_) #[true, true, true, true, true, true, true, true, true, true, true, true, true, true, true, true, true, true, true, true, true, true, true, true, true, true, true, true, true, true, true, false, false, false, false] rfl rfl (take_ofW HT_.out HW_.out (by kernel_rfl)) (fun _ _ _ h => h) (Or.inl ⟨by rfl, ?_⟩) hHeld ?_ ?_
        rotate_left
        ·rintro w' ⟨s0, s1, s2, s3, s4, s5⟩
         go_simp
         with_reducible rfl
        rotate_left
        ·simp only [Act.put, List.setIfInBounds_toArray, List.set_cons_zero, List.set_cons_succ, i64_w, i32_w]
         rfl
        refine one_ (i := 31) (N := some 62) #[true, true, true, true, true, true, true, true, true, true, true, true, true, true, true, true, true, true, true, true, true, true, true, true, true, true, true, true, true, true, true, true, false, false, false] rfl rfl (one_of HT_.out (by kernel_rfl)) (by decide) (fun K hK => ?_)
        refine goes_ Try.func16 (by kernel_rfl) rfl #[.agg #[.int .u64 t251, .int .u64 t252]] (by rfl) rfl rfl (by (try simp only [List.map_toArray, List.map_cons, List.map_nil]); first | done | rfl | (simp only [List.length_drop, List.length_take]; rfl) | (go_simp; simp only [u8_w, w64_u8]; done) | (go_simp; simp only [u8_w, w64_u8]; rfl)) ?_
        with_reducible refine (wide_Print.calls k t251 t252 t260 _ A20.out).mono ?_
        rintro e w52 ⟨rfl, hb⟩
        refine ⟨_, rfl, ?_⟩
        have n0_ := blkB BK232 hb
        have n1_ := blkB BK238 hb
        have n2_ := blkB BK246 hb
        have n3_ := blkB BK254 hb
        have n4_ := Aside0.mk (below_step (bL HB) hb)
        clear BK232
        clear BK238
        clear BK246
        clear BK254
        clear HB
        have BK232 := n0_
        have BK238 := n1_
        have BK246 := n2_
        have BK254 := n3_
        have HB := n4_
        clear n0_ n1_ n2_ n3_ n4_
        (try clear hb)
        (try clear hb2)
        (try clear hk)
        (try clear hi)
        refine hK.out _ _ ⟨(blk_cell BK232.out 0).trans rfl, (blk_cell BK232.out 1).trans rfl, (blk_cell BK246.out 0).trans rfl, (blk_cell BK246.out 1).trans rfl, (blk_cell BK254.out 0).trans rfl, (blk_cell BK254.out 1).trans rfl⟩ (fun hHeld => ?_)
        clear hK K
        refine norm_ (a' := ?_) ?_ ?_
        rotate_left
        ·show Act.put _ (some 62) _ = _
         simp only [Act.put, List.setIfInBounds_toArray, List.set_cons_zero, List.set_cons_succ, i64_w, i32_w]
         rfl
        refine pure_ (i := 32) (N := some 63) (v := ?_) (a' := ?_) #[true, true, true, true, true, true, true, true, true, true, true, true, true, true, true, true, true, true, true, true, true, true, true, true, true, true, true, true, true, true, true, true, true, false, false] rfl rfl (any_of HT_.out (by kernel_rfl)) (fun _ _ _ h => h) (Or.inl ⟨by rfl, ?_⟩) ?_ ?_
        rotate_left
        ·intro w'
         go_simp
         with_reducible rfl
        rotate_left
        ·simp only [Act.put, List.setIfInBounds_toArray, List.set_cons_zero, List.set_cons_succ, i64_w, i32_w]
         rfl
        refine pure_ (i := 33) (N := some 64) (v := ?_) (a' := ?_) #[true, true, true, true, true, true, true, true, true, true, true, true, true, true, true, true, true, true, true, true, true, true, true, true, true, true, true, true, true, true, true, true, true, true, false] rfl rfl (any_of HT_.out (by kernel_rfl)) (fun _ _ _ h => h) (Or.inl ⟨by rfl, ?_⟩) ?_ ?_
        rotate_left
        ·intro w'
         go_simp
         with_reducible rfl
        rotate_left
        ·simp only [Act.put, List.setIfInBounds_toArray, List.set_cons_zero, List.set_cons_succ, i64_w, i32_w]
         rfl
        refine pure_ (i := 34) (N := some 0) (v := ?_) (a' := ?_) #[true, true, true, true, true, true, true, true, true, true, true, true, true, true, true, true, true, true, true, true, true, true, true, true, true, true, true, true, true, true, true, true, true, true, true] rfl rfl (any_of HT_.out (by kernel_rfl)) (fun _ _ _ h => h) (Or.inl ⟨by rfl, ?_⟩) ?_ ?_
        rotate_left
        ·intro w'
         go_simp
         with_reducible rfl
        rotate_left
        ·simp only [Act.put, List.setIfInBounds_toArray, List.set_cons_zero, List.set_cons_succ, i64_w, i32_w]
         rfl
        refine done_ (done_of HT_.out (by kernel_rfl)) ?_
        try go_wp2
        go_ret
        exact ⟨by first | rfl | (simp [errW_none, errW_some] <;> rfl) | (simp [*, errW_none, errW_some] <;> rfl), by repeat (first | (with_reducible first | exact HB.out | apply below_alloc | apply pw_below_drewN | apply below_drew1 | refine below_set ?_ GE232.out | refine below_set ?_ GE238.out | refine below_set ?_ GE246.out | refine below_set ?_ GE254.out) | exact HB.out)⟩
       ·rw [if_neg c19] at H
        exact absurd H (by simp)
      ·rw [if_neg c18] at H
       exact absurd H (by simp)
     ·rw [if_neg c16] at H
      exact absurd H (by simp)
    ·rw [if_neg c15] at H
     exact absurd H (by simp)
   ·rw [if_neg c13] at H
    exact absurd H (by simp)
  ·rw [if_neg c12] at H
   exact absurd H (by simp)
 ·rw [if_neg c10] at H
  exact absurd H (by simp)

end Go.Proofs.Ytjnaebcdidilgaa.Q
