/- Plain laws for WideTexts: the printed functions of whole numbers and the reference, in Lean without the program; WideTexts_pure: the printed law answers true. No condition. (halved) -/
import Derived.Test.YtjnaebcdidilgaaQx0
import Derived.Test.YtjnaebcdidilgaaQx18
import Derived.Test.YtjnaebcdidilgaaQx28
import Derived.Test.YtjnaebcdidilgaaQx3
import Derived.Test.YtjnaebcdidilgaaQx33
import Derived.Test.YtjnaebcdidilgaaQx4
import Derived.Test.YtjnaebcdidilgaaQx5
import Derived.Test.YtjnaebcdidilgaaQx6
import Derived.Test.YtjnaebcdidilgaaQx8
import Derived.Laws.MathBits
import Derived.Test.YtjnaebcdidilgaaQx11
import Derived.Test.YtjnaebcdidilgaaQx12
import Derived.Test.YtjnaebcdidilgaaQx9
import Derived.Test.YtjnaebcdidilgaaQx10
import Derived.Test.YtjnaebcdidilgaaQx7
import Derived.Test.YtjnaebcdidilgaaQx14
import Derived.Test.YtjnaebcdidilgaaQx15
import Derived.Test.YtjnaebcdidilgaaQx16
import Derived.Test.YtjnaebcdidilgaaQx19
import Derived.Test.YtjnaebcdidilgaaQx17
import Derived.Test.YtjnaebcdidilgaaQx20
import Derived.Test.YtjnaebcdidilgaaQx21
import Derived.Test.YtjnaebcdidilgaaQx22
import Derived.Test.YtjnaebcdidilgaaQx26
import Derived.Test.YtjnaebcdidilgaaQx23
import Derived.Test.YtjnaebcdidilgaaQx24
import Derived.Test.YtjnaebcdidilgaaQx25
import Derived.Test.YtjnaebcdidilgaaQx13
import Derived.Test.YtjnaebcdidilgaaQx27
namespace Go.Proofs.Ytjnaebcdidilgaa.Q
open Go.RowKit Go.Proofs.YtjnaebcdidilgaaW.PrintWords Go.Proofs.YtjnaebcdidilgaaW.PrintLast Go.Proofs.YtjnaebcdidilgaaW.PrintMore

set_option linter.unusedVariables false

def W64 (x : Int) : Prop := 0 ≤ x ∧ x < 18446744073709551616
def uval (h l : Int) : Int := h * 18446744073709551616 + l
def sval (h l : Int) : Int := if h < 9223372036854775808 then h * 18446744073709551616 + l else h * 18446744073709551616 + l - 340282366920938463463374607431768211456
def fits (s : Int) : Prop := -170141183460469231731687303715884105728 ≤ s ∧ s < 170141183460469231731687303715884105728
instance (s : Int) : Decidable (fits s) := inferInstanceAs (Decidable (_ ∧ _))
def hiS (s : Int) : Int := s % 340282366920938463463374607431768211456 / 18446744073709551616
def loS (s : Int) : Int := s % 18446744073709551616
def ans (s : Int) : Int × Int × Int := if fits s then (hiS s, loS s, 0) else (0, 0, 10)

theorem ans_pos {s : Int} (h : fits s) : ans s = (hiS s, loS s, 0) := if_pos h
theorem ans_neg {s : Int} (h : ¬ fits s) : ans s = (0, 0, 10) := if_neg h
theorem hiS_W (s : Int) : W64 (hiS s) := by unfold W64 hiS; omega
theorem loS_W (s : Int) : W64 (loS s) := by unfold W64 loS; omega
theorem sval_fits {h l : Int} (hh : W64 h) (hl : W64 l) : fits (sval h l) := by unfold W64 at *; unfold fits sval; split <;> omega
theorem sval_back {s : Int} (h : fits s) : sval (hiS s) (loS s) = s := by unfold fits at h; unfold sval hiS loS; split <;> omega
theorem hiS_sval {h l : Int} (hh : W64 h) (hl : W64 l) : hiS (sval h l) = h := by unfold W64 at *; unfold hiS sval; split <;> omega
theorem loS_sval {h l : Int} (hh : W64 h) (hl : W64 l) : loS (sval h l) = l := by unfold W64 at *; unfold loS sval; split <;> omega
theorem tb63 (n : Nat) (h : n < 18446744073709551616) : n.testBit 63 = decide (9223372036854775808 ≤ n) := by
 rw [Nat.testBit_eq_decide_div_mod_eq]
 have : (n / 2 ^ 63 % 2 = 1) ↔ 9223372036854775808 ≤ n := by omega
 simp only [this]
theorem and63 {x : Int} (hx : W64 x) : Go.bits .and .u64 x 9223372036854775808 = if x < 9223372036854775808 then 0 else 9223372036854775808 := by
 obtain ⟨h0, h1⟩ := hx
 obtain ⟨n, rfl⟩ := Int.eq_ofNat_of_zero_le h0
 have hn : n < 18446744073709551616 := by omega
 have := bits_and_u64_nat n 9223372036854775808 hn (by omega)
 rw [show ((9223372036854775808 : Nat) : Int) = 9223372036854775808 from rfl] at this
 have hb := tb63 n hn
 rw [this]
 by_cases h : 9223372036854775808 ≤ n
 ·have e : n &&& 9223372036854775808 = 9223372036854775808 := by
   apply Nat.eq_of_testBit_eq
   intro i
   rw [Nat.testBit_and, show (9223372036854775808 : Nat) = 2 ^ 63 from rfl, Nat.testBit_two_pow]
   by_cases hi : 63 = i
   ·subst hi; simp [hb, h]
   ·simp [hi]
  rw [e, if_neg (by omega)]; rfl
 ·have e : n &&& 9223372036854775808 = 0 := by
   apply Nat.eq_of_testBit_eq
   intro i
   rw [Nat.testBit_and, show (9223372036854775808 : Nat) = 2 ^ 63 from rfl, Nat.testBit_two_pow, Nat.zero_testBit]
   by_cases hi : 63 = i
   ·subst hi; simp [hb, h]
   ·simp [hi]
  rw [e, if_pos (by omega)]; rfl
theorem xor_W {x y : Int} (hx : W64 x) (hy : W64 y) : W64 (Go.bits .xor .u64 x y) ∧ (9223372036854775808 ≤ Go.bits .xor .u64 x y ↔ ¬ (9223372036854775808 ≤ x ↔ 9223372036854775808 ≤ y)) := by
 obtain ⟨n, rfl⟩ := Int.eq_ofNat_of_zero_le hx.1
 obtain ⟨m, rfl⟩ := Int.eq_ofNat_of_zero_le hy.1
 have hn : n < 18446744073709551616 := by have := hx.2; omega
 have hm : m < 18446744073709551616 := by have := hy.2; omega
 have h := bits_xor_u64_nat n m hn hm
 have hlt : n ^^^ m < 18446744073709551616 := Nat.xor_lt_two_pow (n := 64) hn hm
 have ht := tb63 _ hlt
 rw [Nat.testBit_xor, tb63 n hn, tb63 m hm] at ht
 rw [h]
 refine ⟨⟨by omega, by omega⟩, ?_⟩
 have e : (9223372036854775808 ≤ ((n ^^^ m : Nat) : Int)) ↔ 9223372036854775808 ≤ n ^^^ m := by omega
 rw [e]
 by_cases a : 9223372036854775808 ≤ n <;> by_cases b : 9223372036854775808 ≤ m <;> simp [a, b] at ht ⊢ <;> omega
theorem and_W {x y : Int} (hx : W64 x) (hy : W64 y) : W64 (Go.bits .and .u64 x y) ∧ (9223372036854775808 ≤ Go.bits .and .u64 x y ↔ (9223372036854775808 ≤ x ∧ 9223372036854775808 ≤ y)) := by
 obtain ⟨n, rfl⟩ := Int.eq_ofNat_of_zero_le hx.1
 obtain ⟨m, rfl⟩ := Int.eq_ofNat_of_zero_le hy.1
 have hn : n < 18446744073709551616 := by have := hx.2; omega
 have hm : m < 18446744073709551616 := by have := hy.2; omega
 have h := bits_and_u64_nat n m hn hm
 have hlt : n &&& m < 18446744073709551616 := Nat.and_lt_two_pow (n := 64) _ hm
 have ht := tb63 _ hlt
 rw [Nat.testBit_and, tb63 n hn, tb63 m hm] at ht
 rw [h]
 refine ⟨⟨by omega, by omega⟩, ?_⟩
 have e : (9223372036854775808 ≤ ((n &&& m : Nat) : Int)) ↔ 9223372036854775808 ≤ n &&& m := by omega
 rw [e]
 by_cases a : 9223372036854775808 ≤ n <;> by_cases b : 9223372036854775808 ≤ m <;> simp [a, b] at ht ⊢ <;> omega
/-- The test of Add and Sub: both have the other sign. -/
theorem signs {a b c d : Int} (ha : W64 a) (hb : W64 b) (hc : W64 c) (hd : W64 d) :
  Go.bits .and .u64 (Go.bits .and .u64 (Go.bits .xor .u64 a b) (Go.bits .xor .u64 c d)) 9223372036854775808 = 0 ↔
   ¬ (¬ (9223372036854775808 ≤ a ↔ 9223372036854775808 ≤ b) ∧ ¬ (9223372036854775808 ≤ c ↔ 9223372036854775808 ≤ d)) := by
 obtain ⟨w1, e1⟩ := xor_W ha hb
 obtain ⟨w2, e2⟩ := xor_W hc hd
 obtain ⟨w3, e3⟩ := and_W w1 w2
 rw [and63 w3, ← e1, ← e2, ← e3]
 split <;> omega
theorem Add_is {ah al bh bl : Int} (h1 : W64 ah) (h2 : W64 al) (h3 : W64 bh) (h4 : W64 bl) : wide_Add.f ah al bh bl = some (ans (sval ah al + sval bh bl)) := by
 have hc : add64C al bl 0 = (al + bl) / 18446744073709551616 := by unfold add64C W64 at *; omega
 have hlo : add64S al bl 0 = (al + bl) % 18446744073709551616 := by unfold add64S W64 at *; omega
 have hhi : add64S ah bh ((al + bl) / 18446744073709551616) = (ah + bh + (al + bl) / 18446744073709551616) % 18446744073709551616 := by unfold add64S W64 at *; omega
 have hw : W64 ((ah + bh + (al + bl) / 18446744073709551616) % 18446744073709551616) := by unfold W64 at *; omega
 unfold wide_Add.f
 rw [hc, hlo, hhi, if_pos (by unfold W64 at *; omega)]
 have ht := signs h1 hw h3 hw
 unfold ans
 by_cases hf : fits (sval ah al + sval bh bl)
 ·rw [if_pos hf, if_pos (ht.mpr (by unfold fits sval W64 at *; split at hf <;> split at hf <;> omega))]
  congr 2
  ·unfold hiS sval W64 fits at *; split <;> split <;> omega
  ·congr 1; unfold loS sval W64 at *; split <;> split <;> omega
 ·rw [if_neg hf, if_neg (fun h => hf (by have := ht.mp h; unfold fits sval W64 at *; split <;> split <;> omega))]
end Go.Proofs.Ytjnaebcdidilgaa.Q
namespace Go.Proofs.Ytjnaebcdidilgaa.Q
open Go.RowKit Go.Proofs.YtjnaebcdidilgaaW.PrintWords Go.Proofs.YtjnaebcdidilgaaW.PrintLast Go.Proofs.YtjnaebcdidilgaaW.PrintMore
set_option linter.unusedVariables false

theorem W64_0 : W64 0 := by unfold W64; omega
theorem W64_10 : W64 10 := by unfold W64; omega
theorem less_is (ah al bh bl : Int) (h1 : W64 al) (h2 : W64 bl) : wide_less.f ah al bh bl = some (decide (uval ah al < uval bh bl)) := by
 unfold wide_less.f uval W64 at *
 by_cases a : ah < bh
 ·rw [if_pos a]; congr 1; symm; exact decide_eq_true (by omega)
 ·rw [if_neg a]
  by_cases b : ah = bh
  ·rw [if_pos b]; congr 1; rw [decide_eq_decide]; omega
  ·rw [if_neg b]; congr 1; symm; exact decide_eq_false (by omega)
def I64 (n : Int) : Prop := -9223372036854775808 ≤ n ∧ n < 9223372036854775808
instance (n : Int) : Decidable (I64 n) := inferInstanceAs (Decidable (_ ∧ _))
theorem wrap_u64 (n : Int) : IntKind.u64.wrap n = n % 18446744073709551616 := by rw [IntKind.wrap_u64]
theorem Of_is {n : Int} (h : I64 n) : wide_Of.f n = some (hiS n, loS n) := by
 unfold wide_Of.f
 rw [wrap_u64]
 unfold I64 at h
 split
 ·congr 2; unfold hiS; omega
 ·congr 2; unfold hiS; omega
theorem I64_fits {n : Int} (h : I64 n) : fits n := by unfold I64 at h; unfold fits; omega
theorem Int_is {h l : Int} (h1 : W64 h) (h2 : W64 l) : wide_Int.f h l = some (if I64 (sval h l) then (sval h l, 0) else (0, 10)) := by
 have hw : wrap64 l = if l < 9223372036854775808 then l else l - 18446744073709551616 := by unfold wrap64 W64 at *; split <;> omega
 have hi : I64 (wrap64 l) := by rw [hw]; unfold I64 W64 at *; split <;> omega
 unfold wide_Int.f
 rw [Of_is hi, Option.bind_some]
 by_cases e : I64 (sval h l)
 ·have e2 : sval h l = wrap64 l := by rw [hw]; unfold I64 sval W64 at *; split at e <;> split <;> omega
  rw [if_pos e, e2]
  have a : hiS (wrap64 l) = h := by rw [← e2]; exact hiS_sval h1 h2
  have b : loS (wrap64 l) = l := by rw [← e2]; exact loS_sval h1 h2
  rw [a, b, if_neg (by simp)]
 ·rw [if_neg e]
  have ne : ¬ (hiS (wrap64 l) = h ∧ loS (wrap64 l) = l) := by
   rintro ⟨a, b⟩
   apply e
   have := sval_back (I64_fits hi)
   rw [a, b] at this
   rw [this]; exact hi
  rw [if_pos]
  simp only [Bool.or_eq_true, Bool.not_eq_true', beq_eq_false_iff_ne]
  by_cases a : hiS (wrap64 l) = h
  ·exact Or.inr (fun b => ne ⟨a, b⟩)
  ·exact Or.inl a
theorem split_is {h l : Int} (h1 : W64 h) (h2 : W64 l) :
  wide_split.f h l = some (decide (sval h l < 0), (if sval h l < 0 then -sval h l else sval h l) / 18446744073709551616, (if sval h l < 0 then -sval h l else sval h l) % 18446744073709551616) := by
 unfold wide_split.f
 rw [and63 h1]
 have hc : sub64C 0 l 0 = if 0 < l then 1 else 0 := by unfold sub64C W64 at *; split <;> split <;> omega
 have hlo : sub64S 0 l 0 = (-l) % 18446744073709551616 := by unfold sub64S W64 at *; omega
 have hhi : sub64S 0 h (if 0 < l then 1 else 0) = (-h - (if 0 < l then 1 else 0)) % 18446744073709551616 := by unfold sub64S W64 at *; split <;> omega
 rw [hc, hlo, hhi]
 unfold sval W64 at *
 by_cases a : h < 9223372036854775808
 ·simp only [if_pos a, if_true]
  have n0 : ¬ (h * 18446744073709551616 + l < 0) := by omega
  simp only [if_neg n0]
  congr 2
  ·symm; exact decide_eq_false n0
  ·congr 1 <;> omega
 ·simp only [if_neg a]
  rw [if_neg (by omega), if_pos (by split <;> omega)]
  have n0 : h * 18446744073709551616 + l - 340282366920938463463374607431768211456 < 0 := by omega
  simp only [if_pos n0]
  congr 2
  ·symm; exact decide_eq_true n0
  ·congr 1
   ·split <;> omega
   ·omega
/-- A size of two words. -/
theorem join_is (k : Nat) (hk : 2 ≤ k) (neg : Bool) {h l : Int} (h1 : W64 h) (h2 : W64 l) : wide_join.f k neg h l = some (ans (if neg = true then -uval h l else uval h l)) := by
 obtain ⟨k, rfl⟩ : ∃ m, k = m + 2 := ⟨k - 2, by omega⟩
 have hc : sub64C 0 l 0 = if 0 < l then 1 else 0 := by unfold sub64C W64 at *; split <;> split <;> omega
 have hlo : sub64S 0 l 0 = (-l) % 18446744073709551616 := by unfold sub64S W64 at *; omega
 have hhi : sub64S 0 h (if 0 < l then 1 else 0) = (-h - (if 0 < l then 1 else 0)) % 18446744073709551616 := by unfold sub64S W64 at *; split <;> omega
 have j1 : ∀ (b : Bool), wide_join.j1 (k + 1) b h l h l = if b = true then some (h, l, 0) else some ((-h - (if 0 < l then 1 else 0)) % 18446744073709551616, (-l) % 18446744073709551616, 0) := by
  intro b
  simp only [wide_join.j1]
  rw [hc, hlo, hhi, if_pos (show (if 0 < l then (1 : Int) else 0) ≤ 1 by split <;> omega)]
 unfold wide_join.f
 rw [and63 h1]
 simp only [wide_join.j0, j1]
 by_cases hs : h < 9223372036854775808
 ·rw [if_pos hs, if_pos rfl]
  simp only [Bool.false_eq_true, if_false, if_true]
  cases neg with
  | false =>
   simp only [Bool.false_eq_true, if_false]
   unfold ans
   rw [if_pos (by unfold fits uval W64 at *; omega)]
   unfold fits uval hiS loS W64 at *
   congr 2
   ·omega
   ·congr 1; omega
  | true =>
   simp only [if_true]
   have hne : (h == 9223372036854775808 && l == 0) = false := by simp; omega
   rw [hne]
   simp only [Bool.false_eq_true, if_false]
   rw [ans_pos (by unfold fits uval W64 at *; omega)]
   unfold uval hiS loS W64 at *
   congr 2
   ·split <;> omega
   ·congr 1; omega
 ·rw [if_neg hs, if_neg (by omega)]
  cases neg with
  | false =>
   simp only [Bool.false_eq_true, if_false, Bool.not_false, if_true]
   unfold ans
   rw [if_neg (by unfold fits uval W64 at *; omega)]
  | true =>
   simp only [if_true]
   by_cases hl : (h == 9223372036854775808 && l == 0) = true
   ·rw [hl]
    simp only [Bool.not_true, Bool.false_eq_true, if_false, if_true]
    simp at hl
    obtain ⟨rfl, rfl⟩ := hl
    decide
   ·have hl' : (h == 9223372036854775808 && l == 0) = false := by simpa using hl
    rw [hl']
    simp only [Bool.not_false, if_true]
    simp at hl'
    unfold ans
    rw [if_neg (by unfold fits uval W64 at *; omega)]
theorem Mul64_is {x y : Int} (h1 : W64 x) (h2 : W64 y) : bits_Mul64.f x y = some (x * y / 18446744073709551616, x * y % 18446744073709551616) := by
 unfold bits_Mul64.f
 simp only [wrap_u64]
 rw [Go.and_low32 x h1.1 h1.2, Go.and_low32 y h2.1 h2.2]
 have := mul64_arith x y h1.1 h1.2 h2.1 h2.2
 have a : 0 ≤ x % 4294967296 * (y / 4294967296) := Int.mul_nonneg (by omega) (by unfold W64 at *; omega)
 rw [Go.and_low32 _ (by omega) (by omega)]
 rw [this]
theorem times_is (k : Nat) (hk : 2 ≤ k) {xh xl yh yl : Int} (h1 : W64 xh) (h2 : W64 xl) (h3 : W64 yh) (h4 : W64 yl) :
  ∃ r, wide_times.f k xh xl yh yl = some r ∧ ((uval xh xl * uval yh yl < 340282366920938463463374607431768211456 → r = (uval xh xl * uval yh yl / 18446744073709551616, uval xh xl * uval yh yl % 18446744073709551616, true)) ∧
   (¬ uval xh xl * uval yh yl < 340282366920938463463374607431768211456 → r.2.2 = false)) := by
 obtain ⟨k, rfl⟩ : ∃ m, k = m + 2 := ⟨k - 2, by omega⟩
 have e : uval xh xl * uval yh yl = xh * yh * 340282366920938463463374607431768211456 + (xh * yl + xl * yh) * 18446744073709551616 + xl * yl := by unfold uval; grind
 have pA : 0 ≤ xl * yl ∧ xl * yl ≤ 340282366920938463426481119284349108225 := by
  unfold W64 at *
  exact ⟨Int.mul_nonneg h2.1 h4.1, by have := Int.mul_le_mul (show xl ≤ 18446744073709551615 by omega) (show yl ≤ 18446744073709551615 by omega) h4.1 (by omega : (0 : Int) ≤ 18446744073709551615); simpa using this⟩
 have pB : 0 ≤ xh * yl := by unfold W64 at *; exact Int.mul_nonneg h1.1 h4.1
 have pC : 0 ≤ xl * yh := by unfold W64 at *; exact Int.mul_nonneg h2.1 h3.1
 have pD : 0 ≤ xh * yh := by unfold W64 at *; exact Int.mul_nonneg h1.1 h3.1
 have pE : xh ≠ 0 → yh ≠ 0 → 1 ≤ xh * yh := by
  intro a b
  unfold W64 at *
  have := Int.mul_le_mul (show (1 : Int) ≤ xh by omega) (show (1 : Int) ≤ yh by omega) (by omega) h1.1
  simpa using this
 have pF : xh = 0 ∨ yh = 0 → xh * yh = 0 := by rintro (rfl | rfl) <;> simp
 rw [e]
 have j1 : ∀ (b : Bool) (p1 p2 p3 : Int), W64 p1 → W64 p2 → W64 p3 → wide_times.j1 (k + 1) p1 (xl * yl % 18446744073709551616) p2 p3 b = if b = true then some (0, 0, false) else
   some ((p1 + p2 + p3) % 18446744073709551616, xl * yl % 18446744073709551616, decide (p1 + p2 + p3 < 18446744073709551616)) := by
  intro b p1 p2 p3 w1 w2 w3
  simp only [wide_times.j1]
  have hc : add64C p1 p2 0 = (p1 + p2) / 18446744073709551616 := by unfold add64C W64 at *; omega
  have hs : add64S p1 p2 0 = (p1 + p2) % 18446744073709551616 := by unfold add64S W64 at *; omega
  have hc2 : add64C ((p1 + p2) % 18446744073709551616) p3 0 = ((p1 + p2) % 18446744073709551616 + p3) / 18446744073709551616 := by unfold add64C W64 at *; omega
  have hs2 : add64S ((p1 + p2) % 18446744073709551616) p3 0 = (p1 + p2 + p3) % 18446744073709551616 := by unfold add64S W64 at *; omega
  rw [hc, hs, hc2, hs2]
  cases b with
  | true => rfl
  | false =>
   simp only [Bool.false_eq_true, if_false]
   unfold W64 at *
   by_cases z : (p1 + p2) / 18446744073709551616 = 0
   ·rw [if_pos z]
    congr 3
    rw [Bool.eq_iff_iff]; simp; omega
   ·rw [if_neg z]
    congr 3
    rw [Bool.eq_iff_iff]; simp; omega
 have w1 : W64 (xl * yl / 18446744073709551616) := by unfold W64; omega
 have w2 : W64 (xh * yl % 18446744073709551616) := by unfold W64; omega
 have w3 : W64 (xl * yh % 18446744073709551616) := by unfold W64; omega
 unfold wide_times.f
 by_cases z : xh = 0
 ·rw [if_pos z]
  have z2 := pF (Or.inl z)
  simp only [wide_times.j0]
  simp only [Bool.false_eq_true, if_false]
  rw [Mul64_is h2 h4, Option.bind_some, Mul64_is h1 h4, Option.bind_some, Mul64_is h2 h3, Option.bind_some]
  have zb : xh * yl = 0 := by rw [z]; simp
  rw [zb] at w2
  simp only [zb, j1 _ _ _ _ w1 w2 w3]
  rw [if_pos (by decide)]
  by_cases y : xl * yh / 18446744073709551616 = 0
  ·simp only [y, bne_self_eq_false, Bool.false_eq_true, if_false]
   refine ⟨_, rfl, fun h => ?_, fun h => ?_⟩
   ·rw [z2] at h ⊢
    congr 1
    ·omega
    ·congr 1
     ·omega
     ·exact decide_eq_true (by omega)
   ·rw [z2] at h
    exact decide_eq_false (by omega)
  ·rw [if_pos (by simpa using y)]
   refine ⟨_, rfl, fun h => ?_, fun h => rfl⟩
   omega
 ·rw [if_neg z]
  simp only [wide_times.j0]
  by_cases y : yh = 0
  ·have z2 := pF (Or.inr y)
   have hb : (yh != 0) = false := by simp [y]
   rw [hb]
   simp only [Bool.false_eq_true, if_false]
   rw [Mul64_is h2 h4, Option.bind_some, Mul64_is h1 h4, Option.bind_some, Mul64_is h2 h3, Option.bind_some]
   have zb : xl * yh = 0 := by rw [y]; simp
   rw [zb] at w3
   simp only [zb, j1 _ _ _ _ w1 w2 w3]
   by_cases x : xh * yl / 18446744073709551616 = 0
   ·rw [if_pos x]
    simp only [show ((0 : Int) / 18446744073709551616 != 0) = false by decide, Bool.false_eq_true, if_false]
    refine ⟨_, rfl, fun h => ?_, fun h => ?_⟩
    ·rw [z2] at h ⊢
     congr 1
     ·omega
     ·congr 1
      ·omega
      ·exact decide_eq_true (by omega)
    ·rw [z2] at h
     exact decide_eq_false (by omega)
   ·rw [if_neg x]
    refine ⟨_, rfl, fun h => ?_, fun h => rfl⟩
    omega
  ·have hb : (yh != 0) = true := by simpa using y
   rw [hb]
   have := pE z y
   refine ⟨_, rfl, fun h => ?_, fun h => rfl⟩
   omega
theorem Mul_is (k : Nat) (hk : 2 ≤ k) {ah al bh bl : Int} (h1 : W64 ah) (h2 : W64 al) (h3 : W64 bh) (h4 : W64 bl) : wide_Mul.f k ah al bh bl = some (ans (sval ah al * sval bh bl)) := by
 unfold wide_Mul.f
 rw [split_is h1 h2, Option.bind_some, split_is h3 h4, Option.bind_some]
 have fa := sval_fits h1 h2
 have fb := sval_fits h3 h4
 generalize sval ah al = a at *
 generalize sval bh bl = b at *
 have back : ∀ n : Int, uval (n / 18446744073709551616) (n % 18446744073709551616) = n := by intro n; unfold uval; omega
 have sz : ∀ n : Int, fits n → 0 ≤ (if n < 0 then -n else n) ∧ (if n < 0 then -n else n) ≤ 170141183460469231731687303715884105728 := by intro n hn; unfold fits at hn; split <;> omega
 have wh : ∀ n : Int, 0 ≤ n ∧ n ≤ 170141183460469231731687303715884105728 → W64 (n / 18446744073709551616) ∧ W64 (n % 18446744073709551616) := by intro n hn; unfold W64; omega
 have za := sz a fa
 have zb := sz b fb
 have eab : (if a < 0 then -a else a) * (if b < 0 then -b else b) = if (decide (a < 0) != decide (b < 0)) = true then -(a * b) else a * b := by
  by_cases ha : a < 0 <;> by_cases hb : b < 0 <;> simp [ha, hb, Int.neg_mul, Int.mul_neg]
 have pos : 0 ≤ (if a < 0 then -a else a) * (if b < 0 then -b else b) := Int.mul_nonneg za.1 zb.1
 generalize hA : (if a < 0 then -a else a) = A at *
 generalize hB : (if b < 0 then -b else b) = B at *
 obtain ⟨r, hr, h5, h6⟩ := times_is k hk (wh A za).1 (wh A za).2 (wh B zb).1 (wh B zb).2
 rw [back, back] at h5 h6
 simp only
 rw [hr, Option.bind_some]
 generalize hN : (decide (a < 0) != decide (b < 0)) = neg at *
 by_cases hlt : A * B < 340282366920938463463374607431768211456
 ·rw [h5 hlt]
  simp only [if_true]
  rw [join_is k hk neg (by unfold W64; omega) (by unfold W64; omega), Option.bind_some, back]
  have e : (if neg = true then -(A * B) else A * B) = a * b := by rw [eab]; cases neg <;> simp
  rw [e]
 ·rw [if_neg (by rw [h6 hlt]; decide)]
  rw [ans_neg (by unfold fits; cases neg <;> simp at eab <;> omega)]
end Go.Proofs.Ytjnaebcdidilgaa.Q
namespace Go.Proofs.Ytjnaebcdidilgaa.Q
open Go.RowKit Go.Proofs.YtjnaebcdidilgaaW.PrintWords Go.Proofs.YtjnaebcdidilgaaW.PrintLast Go.Proofs.YtjnaebcdidilgaaW.PrintMore
set_option linter.unusedVariables false

theorem and1 {x : Int} (hx : W64 x) : Go.bits .and .u64 x 1 = x % 2 := by
 obtain ⟨n, rfl⟩ := Int.eq_ofNat_of_zero_le hx.1
 have h := bits_and_u64_nat n 1 (by have := hx.2; omega) (by omega)
 rw [show ((1 : Nat) : Int) = 1 from rfl] at h
 rw [h, Nat.and_one_is_mod]; omega
theorem or_join {x y : Int} (i : Nat) (hx : W64 x) (hy : W64 y) (h1 : x % 2 ^ i = 0) (h2 : y < 2 ^ i) : Go.bits .or .u64 x y = x + y := by
 refine bits_join .u64 64 (by decide) (fun n h0 h1 => ?_) i x y hx.1 h1 (by have := hx.2; simpa using this) hy.1 h2 (by have := hy.2; simpa using this)
 rw [wrap_u64]; have : n < 18446744073709551616 := by simpa using h1
 omega
theorem minus_is {ah al bh bl : Int} (h1 : W64 ah) (h2 : W64 al) (h3 : W64 bh) (h4 : W64 bl) : ∃ h l, wide_minus.f ah al bh bl = some (h, l) ∧ W64 h ∧ W64 l ∧ uval h l = (uval ah al - uval bh bl) % 340282366920938463463374607431768211456 := by
 have hc : sub64C al bl 0 = if al < bl then 1 else 0 := by unfold sub64C W64 at *; split <;> split <;> omega
 have hlo : sub64S al bl 0 = (al - bl) % 18446744073709551616 := by unfold sub64S W64 at *; omega
 have hhi : sub64S ah bh (if al < bl then 1 else 0) = (ah - bh - (if al < bl then 1 else 0)) % 18446744073709551616 := by unfold sub64S W64 at *; split <;> omega
 unfold wide_minus.f
 rw [hc, hlo, hhi, if_pos (by split <;> omega)]
 refine ⟨_, _, rfl, by unfold W64; omega, by unfold W64; omega, ?_⟩
 unfold uval W64 at *
 split <;> omega
theorem shr64 (x : Int) (m : Nat) (hm : m ≤ 64) : shr .u64 x (m : Int) = x / 2 ^ m := by
 unfold shr; rw [show min (m : Int).toNat IntKind.u64.bits = m from by simp [IntKind.bits]; omega]
theorem shl64 (m : Nat) (hm : m < 64) : shl .u64 1 (m : Int) = 2 ^ m := by
 unfold shl
 rw [show min (m : Int).toNat IntKind.u64.bits = m from by simp [IntKind.bits]; omega, wrap_u64, Int.one_mul]
 have : (2 : Nat) ^ m < 2 ^ 64 := Nat.pow_lt_pow_right (by decide) hm
 have h2 : ((2 ^ m : Nat) : Int) < 18446744073709551616 := by omega
 rw [Int.natCast_pow] at h2
 have h0 : (0 : Int) < 2 ^ m := Int.pow_pos (by omega)
 have h2' : (2 : Int) ^ m < 18446744073709551616 := h2
 omega
theorem pow_split (n m : Nat) : (2 : Int) ^ (n + m) = 2 ^ n * 2 ^ m := Int.pow_add 2 n m
theorem div_pow_add (A : Int) (n m : Nat) : A / 2 ^ (n + m) = A / 2 ^ n / 2 ^ m := by
 rw [pow_split, Int.ediv_ediv_of_nonneg (Int.le_of_lt (Int.pow_pos (by omega)))]
theorem pow_pos (n : Nat) : (0 : Int) < 2 ^ n := Int.pow_pos (by omega)
/-- A bit of a size. -/
theorem bit_hi {ah al : Int} (h1 : W64 ah) (h2 : W64 al) (m : Nat) : uval ah al / 2 ^ (64 + m) = ah / 2 ^ m := by
 rw [div_pow_add]
 congr 1
 unfold uval W64 at *; omega
theorem bit_lo {ah al : Int} (h1 : W64 ah) (h2 : W64 al) (m : Nat) (hm : m < 64) : uval ah al / 2 ^ m % 2 = al / 2 ^ m % 2 := by
 obtain ⟨j, hj⟩ : ∃ j, 64 = m + (j + 1) := ⟨63 - m, by omega⟩
 have e : (18446744073709551616 : Int) = 2 ^ m * (2 ^ j * 2) := by
  have : (18446744073709551616 : Int) = 2 ^ 64 := by decide
  rw [this, hj, pow_split, Int.pow_succ]
 unfold uval
 rw [e, show ah * (2 ^ m * (2 ^ j * 2)) + al = al + 2 ^ m * (ah * 2 ^ j * 2) from by grind, Int.add_mul_ediv_left _ _ (by have := pow_pos m; omega)]
 omega
theorem step_div {X B T R bit : Int} (hB : 0 < B) (hx : X = 2 * (B * T + R) + bit) (hR : 0 ≤ R) (hR2 : R < B) (hb : bit = 0 ∨ bit = 1) :
  (2 * R + bit < B → X / B = 2 * T ∧ X % B = 2 * R + bit) ∧ (¬ 2 * R + bit < B → X / B = 2 * T + 1 ∧ X % B = 2 * R + bit - B) := by
 constructor
 ·intro h
  exact (Int.ediv_emod_unique hB).mpr ⟨by rw [hx]; grind, by omega, h⟩
 ·intro h
  exact (Int.ediv_emod_unique hB).mpr ⟨by rw [hx]; grind, by omega, by omega⟩
set_option maxHeartbeats 8000000 in
theorem part_l0 {ah al bh bl : Int} (h1 : W64 ah) (h2 : W64 al) (h3 : W64 bh) (h4 : W64 bl) (hB : 0 < uval bh bl) : ∀ (n : Nat), n ≤ 128 → ∀ (k : Nat), 3 * n < k → ∀ qh ql rh rl : Int, W64 qh → W64 ql → W64 rh → W64 rl →
  uval qh ql = uval ah al / 2 ^ n / uval bh bl * 2 ^ n → uval rh rl = uval ah al / 2 ^ n % uval bh bl →
  ∃ r1 r2 r3 r4, wide_part.l0 k ((n : Int) - 1) ah al bh bl qh ql rh rl = some (r1, r2, r3, r4) ∧ W64 r1 ∧ W64 r2 ∧ W64 r3 ∧ W64 r4 ∧ uval r1 r2 = uval ah al / uval bh bl ∧ uval r3 r4 = uval ah al % uval bh bl := by
 intro n
 induction n with
 | zero =>
  intro _ k hk qh ql rh rl w1 w2 w3 w4 hq hr
  obtain ⟨k, rfl⟩ : ∃ m, k = m + 1 := ⟨k - 1, by omega⟩
  simp only [wide_part.l0]
  rw [if_neg (by omega)]
  refine ⟨_, _, _, _, rfl, w1, w2, w3, w4, by simpa using hq, by simpa using hr⟩
 | succ n ih =>
  intro hn k hk qh ql rh rl w1 w2 w3 w4 hq hr
  obtain ⟨k, rfl⟩ : ∃ m, k = m + 3 := ⟨k - 3, by omega⟩
  have hx6 : (((n + 1 : Nat) : Int) - 1) = (n : Int) := by omega
  rw [hx6]
  have htm : Int.tmod (n : Int) 64 = ((n % 64 : Nat) : Int) := by rw [Int.tmod_eq_emod_of_nonneg (by omega)]; omega
  -- the bit
  have hX : uval ah al / 2 ^ (n + 1) = uval ah al / 2 ^ n / 2 := by rw [div_pow_add]; rfl
  have hU0 : 0 ≤ uval ah al := by unfold uval W64 at *; omega
  have hX0 : 0 ≤ uval ah al / 2 ^ n := Int.ediv_nonneg hU0 (Int.le_of_lt (pow_pos n))
  rw [hX] at hq hr
  have hbit : (uval ah al / 2 ^ n % 2 = 0 ∨ uval ah al / 2 ^ n % 2 = 1) := by omega
  have hdm : uval bh bl * (uval ah al / 2 ^ n / 2 / uval bh bl) + uval ah al / 2 ^ n / 2 % uval bh bl = uval ah al / 2 ^ n / 2 := Int.mul_ediv_add_emod _ _
  have hR0 := Int.emod_nonneg (uval ah al / 2 ^ n / 2) (by omega : uval bh bl ≠ 0)
  have hR1 := Int.emod_lt_of_pos (uval ah al / 2 ^ n / 2) hB
  have hst := step_div (X := uval ah al / 2 ^ n) (bit := uval ah al / 2 ^ n % 2) hB (by rw [hdm]; omega) hR0 hR1 hbit
  have hT0 : 0 ≤ uval ah al / 2 ^ n / 2 / uval bh bl := Int.ediv_nonneg (by omega) (by omega)
  have hQ1 : uval ah al / 2 ^ n / uval bh bl * 2 ^ n ≤ uval ah al := by
   have a1 := Int.ediv_mul_le (uval ah al / 2 ^ n) (by omega : uval bh bl ≠ 0)
   have a2 := Int.ediv_mul_le (uval ah al) (by have := pow_pos n; omega : (2 : Int) ^ n ≠ 0)
   have a0 : 0 ≤ uval ah al / 2 ^ n / uval bh bl := Int.ediv_nonneg hX0 (by omega)
   have a3 : uval ah al / 2 ^ n / uval bh bl ≤ uval ah al / 2 ^ n := by
    have := Int.mul_le_mul_of_nonneg_left (show 1 ≤ uval bh bl by omega) a0
    omega
   have := Int.mul_le_mul_of_nonneg_right a3 (Int.le_of_lt (pow_pos n))
   omega
  generalize hTd : uval ah al / 2 ^ n / 2 / uval bh bl = T at *
  generalize hRd : uval ah al / 2 ^ n / 2 % uval bh bl = R at *
  have hrest : ∀ (bit : Int), bit = uval ah al / 2 ^ n % 2 → ∃ r1 r2 r3 r4, wide_part.j1 (k + 2) (n : Int) bit ah al bh bl qh ql rh rl = some (r1, r2, r3, r4) ∧ W64 r1 ∧ W64 r2 ∧ W64 r3 ∧ W64 r4 ∧ uval r1 r2 = uval ah al / uval bh bl ∧ uval r3 r4 = uval ah al % uval bh bl := by
   intro bit hb
   rw [← hb] at hst hbit
   simp only [wide_part.j1]
   have wl : W64 (rl / 9223372036854775808) := by unfold W64 at *; omega
   have e1 : Go.bits .or .u64 (IntKind.u64.wrap (rh * 2)) (rl / 9223372036854775808) = (rh * 2) % 18446744073709551616 + rl / 9223372036854775808 := by
    rw [wrap_u64]; exact or_join 1 (by unfold W64; omega) wl (by omega) (by unfold W64 at *; omega)
   have e2 : Go.bits .or .u64 (IntKind.u64.wrap (rl * 2)) bit = (rl * 2) % 18446744073709551616 + bit := by
    rw [wrap_u64]; exact or_join 1 (by unfold W64; omega) (by unfold W64; omega) (by omega) (by omega)
   rw [e1, e2, and63 w3]
   have wh' : W64 ((rh * 2) % 18446744073709551616 + rl / 9223372036854775808) := by unfold W64 at *; omega
   have wl' : W64 ((rl * 2) % 18446744073709551616 + bit) := by unfold W64 at *; omega
   generalize hnh : (rh * 2) % 18446744073709551616 + rl / 9223372036854775808 = nh at *
   generalize hnl : (rl * 2) % 18446744073709551616 + bit = nl at *
   have hval : uval nh nl = (2 * uval rh rl + bit) % 340282366920938463463374607431768211456 := by unfold uval W64 at *; omega
   have hBm : uval bh bl < 340282366920938463463374607431768211456 := by unfold uval W64 at *; omega
   -- what j2 does
   have j2t : ∀ x8, 2 * R + bit < uval bh bl → ∃ r1 r2 r3 r4, wide_part.j2 (k + 1) (n : Int) x8 true ah al bh bl qh ql nh nl = some (r1, r2, r3, r4) ∧ W64 r1 ∧ W64 r2 ∧ W64 r3 ∧ W64 r4 ∧ uval r1 r2 = uval ah al / uval bh bl ∧ uval r3 r4 = uval ah al % uval bh bl := by
    intro x8 hlt
    simp only [wide_part.j2, if_true]
    rw [show wrap64 ((n : Int) - 1) = (n : Int) - 1 from by unfold wrap64; omega]
    obtain ⟨ha, hb2⟩ := hst.1 hlt
    exact ih (by omega) k (by omega) qh ql nh nl w1 w2 wh' wl' (by rw [hq, ha, Int.pow_succ]; grind) (by rw [hval, hb2, hr]; omega)
   have j2f : ∀ x8, ¬ 2 * R + bit < uval bh bl → ∃ r1 r2 r3 r4, wide_part.j2 (k + 1) (n : Int) x8 false ah al bh bl qh ql nh nl = some (r1, r2, r3, r4) ∧ W64 r1 ∧ W64 r2 ∧ W64 r3 ∧ W64 r4 ∧ uval r1 r2 = uval ah al / uval bh bl ∧ uval r3 r4 = uval ah al % uval bh bl := by
    intro x8 hge
    obtain ⟨ha, hb2⟩ := hst.2 hge
    obtain ⟨mh, ml, hm, wm1, wm2, hmv⟩ := minus_is wh' wl' h3 h4
    simp only [wide_part.j2, Bool.false_eq_true, if_false]
    rw [hm, Option.bind_some, show wrap64 ((n : Int) - 1) = (n : Int) - 1 from by unfold wrap64; omega]
    have hr' : uval mh ml = uval ah al / 2 ^ n % uval bh bl := by rw [hmv, hval, hb2, hr]; omega
    have hUm : uval ah al < 340282366920938463463374607431768211456 := by unfold uval W64 at *; omega
    have hq' : (2 * T + 1) * 2 ^ n = uval qh ql + 2 ^ n := by rw [hq, Int.pow_succ]; grind
    rw [ha, hq'] at hQ1
    by_cases h64 : (n : Int) ≥ 64
    ·rw [if_pos h64, htm, if_pos (by omega)]
     obtain ⟨m, rfl⟩ : ∃ m, n = 64 + m := ⟨n - 64, by omega⟩
     have hm64 : (64 + m) % 64 = m := by omega
     rw [hm64, shl64 m (by omega)]
     have p64 : (2 : Int) ^ (64 + m) = 18446744073709551616 * 2 ^ m := by rw [pow_split]; rfl
     have hqe : uval qh ql = 18446744073709551616 * (T * (2 ^ m * 2)) := by rw [hq, Int.pow_succ, p64]; grind
     have hql : ql = 0 := by unfold uval W64 at *; omega
     have hqh : qh = T * (2 ^ m * 2) := by unfold uval W64 at *; omega
     rw [p64] at hQ1
     have wq : W64 (qh + 2 ^ m) := by have := pow_pos m; unfold uval W64 at *; omega
     have ho : Go.bits .or .u64 qh (2 ^ m) = qh + 2 ^ m := by
      refine or_join (m + 1) w1 (by have := pow_pos m; unfold W64 at *; omega) ?_ (by rw [Int.pow_succ]; have := pow_pos m; omega)
      rw [hqh, Int.pow_succ]; exact Int.mul_emod_left _ _
     rw [ho]
     exact ih (by omega) k (by omega) _ ql mh ml wq w2 wm1 wm2 (by rw [ha, hq', p64]; unfold uval; omega) hr'
    ·rw [if_neg h64, if_pos (by omega), shl64 n (by omega)]
     obtain ⟨j, hj⟩ : ∃ j, 64 = n + 1 + j := ⟨63 - n, by omega⟩
     have p64 : (18446744073709551616 : Int) = 2 ^ (n + 1) * 2 ^ j := by
      have : (18446744073709551616 : Int) = 2 ^ 64 := by decide
      rw [this, hj, pow_split]
     have hdv : ql % 2 ^ (n + 1) = 0 := by
      have : ql = 2 ^ (n + 1) * (T - qh * 2 ^ j) := by
       have e : ql = uval qh ql - qh * 18446744073709551616 := by unfold uval; omega
       rw [e, hq, p64]; grind
      rw [this]; exact Int.mul_emod_right _ _
     have hle : ql + 2 ^ (n + 1) ≤ 18446744073709551616 := by
      obtain ⟨c, hc⟩ : ∃ c, ql = 2 ^ (n + 1) * c := ⟨ql / 2 ^ (n + 1), by have := Int.mul_ediv_add_emod ql (2 ^ (n + 1)); omega⟩
      have hlt : 2 ^ (n + 1) * c < 2 ^ (n + 1) * 2 ^ j := by rw [← p64, ← hc]; exact w2.2
      have := Int.lt_of_mul_lt_mul_left hlt (Int.le_of_lt (pow_pos (n + 1)))
      have := Int.mul_le_mul_of_nonneg_left (show c + 1 ≤ 2 ^ j by omega) (Int.le_of_lt (pow_pos (n + 1)))
      rw [hc, p64]
      have e : (2 : Int) ^ (n + 1) * (c + 1) = 2 ^ (n + 1) * c + 2 ^ (n + 1) := by grind
      omega
     have hp := pow_pos n
     have hs : (2 : Int) ^ (n + 1) = 2 ^ n * 2 := Int.pow_succ ..
     have wq : W64 (ql + 2 ^ n) := by unfold W64 at *; omega
     have ho : Go.bits .or .u64 ql (2 ^ n) = ql + 2 ^ n := or_join (n + 1) w2 (by unfold W64 at *; omega) hdv (by omega)
     rw [ho]
     exact ih (by omega) k (by omega) qh _ mh ml w1 wq wm1 wm2 (by rw [ha, hq']; unfold uval; omega) hr'
   by_cases ov : rh < 9223372036854775808
   ·rw [if_pos ov, if_pos rfl, less_is _ _ _ _ wl' h4, Option.bind_some]
    have hv : uval nh nl = 2 * R + bit := by rw [hval, hr]; unfold uval W64 at *; omega
    rw [hv]
    by_cases hlt : 2 * R + bit < uval bh bl
    ·rw [decide_eq_true hlt]; exact j2t _ hlt
    ·rw [decide_eq_false hlt]; exact j2f _ hlt
   ·rw [if_neg ov, if_neg (by decide)]
    exact j2f _ (by rw [← hr]; unfold uval W64 at *; omega)
  simp only [wide_part.l0]
  rw [if_pos (by omega), htm, if_pos (by omega)]
  by_cases h64 : (n : Int) ≥ 64
  ·rw [if_pos h64]
   obtain ⟨m, rfl⟩ : ∃ m, n = 64 + m := ⟨n - 64, by omega⟩
   have hm64 : (64 + m) % 64 = m := by omega
   rw [hm64, shr64 _ m (by omega)]
   have wq : W64 (ah / 2 ^ m) := ⟨Int.ediv_nonneg h1.1 (Int.le_of_lt (pow_pos m)), by
    have := Int.ediv_le_self (2 ^ m) h1.1
    have := h1.2; omega⟩
   rw [and1 wq]
   exact hrest _ (by rw [bit_hi h1 h2 m])
  ·rw [if_neg h64]
   have hm64 : n % 64 = n := by omega
   rw [hm64, shr64 _ n (by omega)]
   have wq : W64 (al / 2 ^ n) := ⟨Int.ediv_nonneg h2.1 (Int.le_of_lt (pow_pos n)), by
    have := Int.ediv_le_self (2 ^ n) h2.1
    have := h2.2; omega⟩
   rw [and1 wq]
   exact hrest _ (by rw [bit_lo h1 h2 n (by omega)])
theorem part_is (k : Nat) (hk : 385 ≤ k) {ah al bh bl : Int} (h1 : W64 ah) (h2 : W64 al) (h3 : W64 bh) (h4 : W64 bl) (hB : 0 < uval bh bl) :
  ∃ r1 r2 r3 r4, wide_part.f k ah al bh bl = some (r1, r2, r3, r4) ∧ W64 r1 ∧ W64 r2 ∧ W64 r3 ∧ W64 r4 ∧ uval r1 r2 = uval ah al / uval bh bl ∧ uval r3 r4 = uval ah al % uval bh bl := by
 unfold wide_part.f
 have hU : 0 ≤ uval ah al ∧ uval ah al < 2 ^ 128 := by
  have : (2 : Int) ^ 128 = 340282366920938463463374607431768211456 := by decide
  rw [this]; unfold uval W64 at *; omega
 have hz : uval ah al / 2 ^ 128 = 0 := Int.ediv_eq_zero_of_lt hU.1 hU.2
 exact part_l0 h1 h2 h3 h4 hB 128 (by omega) k (by omega) 0 0 0 0 W64_0 W64_0 W64_0 W64_0 (by rw [hz]; simp [uval]) (by rw [hz]; simp [uval])
end Go.Proofs.Ytjnaebcdidilgaa.Q
namespace Go.Proofs.Ytjnaebcdidilgaa.Q
open Go.RowKit Go.Proofs.YtjnaebcdidilgaaW.PrintWords Go.Proofs.YtjnaebcdidilgaaW.PrintLast Go.Proofs.YtjnaebcdidilgaaW.PrintMore
set_option linter.unusedVariables false

def absI (n : Int) : Int := if n < 0 then -n else n
theorem absI_bound {n : Int} (h : fits n) : 0 ≤ absI n ∧ absI n ≤ 170141183460469231731687303715884105728 := by unfold fits at h; unfold absI; split <;> omega
theorem split_abs {h l : Int} (h1 : W64 h) (h2 : W64 l) : wide_split.f h l = some (decide (sval h l < 0), absI (sval h l) / 18446744073709551616, absI (sval h l) % 18446744073709551616) := split_is h1 h2
theorem uback (n : Int) : uval (n / 18446744073709551616) (n % 18446744073709551616) = n := by unfold uval; omega
end Go.Proofs.Ytjnaebcdidilgaa.Q
namespace Go.Proofs.Ytjnaebcdidilgaa.Q
open Go.RowKit Go.Proofs.YtjnaebcdidilgaaW.PrintWords
set_option linter.unusedVariables false

def val : List Int → Int
 | [] => 0
 | d :: r => d + 10 * val r
def Dg (ds : List Int) : Prop := ∀ d ∈ ds, 0 ≤ d ∧ d < 10
def Can : List Int → Prop
 | [] => True
 | d :: r => (0 ≤ d ∧ d < 10) ∧ (r = [] → d ≠ 0) ∧ Can r
theorem Can_dg : ∀ {ds : List Int}, Can ds → Dg ds
 | [], _ => fun d h => absurd h (by simp)
 | d :: r, h => by
  intro x hx
  rcases List.mem_cons.1 hx with rfl | hx
  ·exact h.1
  ·exact Can_dg h.2.2 x hx
theorem Dg_tail {d : Int} {r : List Int} (h : Dg (d :: r)) : Dg r := fun x hx => h x (List.mem_cons_of_mem _ hx)
theorem Dg_head {d : Int} {r : List Int} (h : Dg (d :: r)) : 0 ≤ d ∧ d < 10 := h d List.mem_cons_self
theorem val_nonneg : ∀ {ds : List Int}, Dg ds → 0 ≤ val ds
 | [], _ => by simp [val]
 | d :: r, h => by
  have := val_nonneg (Dg_tail h)
  have := Dg_head h
  show 0 ≤ d + 10 * val r
  omega
theorem val_lt : ∀ {ds : List Int}, Dg ds → val ds < 10 ^ ds.length
 | [], _ => by simp [val]
 | d :: r, h => by
  have := val_lt (Dg_tail h)
  have := Dg_head h
  show d + 10 * val r < 10 ^ (r.length + 1)
  rw [Int.pow_succ]
  omega
theorem can_pos : ∀ {ds : List Int}, Can ds → ds ≠ [] → 0 < val ds
 | [], _, h => absurd rfl h
 | d :: r, h, _ => by
  show 0 < d + 10 * val r
  by_cases hr : r = []
  ·subst hr
   have h1 := h.1
   have h2 := h.2.1 rfl
   simp only [val]
   omega
  ·have := can_pos h.2.2 hr
   have := h.1
   omega
theorem can_inj : ∀ {a b : List Int}, Can a → Can b → val a = val b → a = b
 | [], [], _, _, _ => rfl
 | [], b :: s, _, hb, e => by
  have := can_pos hb (by simp)
  rw [← e] at this
  exact absurd this (by simp [val])
 | a :: r, [], ha, _, e => by
  have := can_pos ha (by simp)
  rw [e] at this
  exact absurd this (by simp [val])
 | a :: r, b :: s, ha, hb, e => by
  have e' : a + 10 * val r = b + 10 * val s := e
  have h1 := ha.1
  have h2 := hb.1
  have : a = b := by omega
  subst this
  rw [can_inj ha.2.2 hb.2.2 (by omega)]
def dg : Nat → Int → List Int
 | 0, _ => []
 | f + 1, n => if n = 0 then [] else n % 10 :: dg f (n / 10)
theorem dg_zero (f : Nat) : dg f 0 = [] := by cases f <;> simp [dg]
theorem dg_len : ∀ (f : Nat) (n : Int), (dg f n).length ≤ f
 | 0, _ => by simp [dg]
 | f + 1, n => by
  unfold dg
  split
  ·simp
  ·have := dg_len f (n / 10)
   simp only [List.length_cons]
   omega
theorem dg_is : ∀ (f : Nat) (n : Int), 0 ≤ n → n < 10 ^ f → Can (dg f n) ∧ val (dg f n) = n
 | 0, n, h0, h1 => by
  have : n = 0 := by simp at h1; omega
  subst this
  exact ⟨trivial, rfl⟩
 | f + 1, n, h0, h1 => by
  unfold dg
  split
  ·rename_i h
   exact ⟨trivial, h.symm⟩
  ·rw [Int.pow_succ] at h1
   obtain ⟨h2, h3⟩ := dg_is f (n / 10) (by omega) (by omega)
   refine ⟨⟨by omega, ?_, h2⟩, ?_⟩
   ·intro h
    rw [h] at h3
    simp only [val] at h3
    omega
   ·show n % 10 + 10 * val (dg f (n / 10)) = n
    rw [h3]
    omega
/- 39 digits hold every number of 128 bits -/
def D (n : Int) : List Int := dg 39 n
theorem D_is {n : Int} (h0 : 0 ≤ n) (h1 : n ≤ 340282366920938463463374607431768211456) : Can (D n) ∧ val (D n) = n :=
 dg_is 39 n h0 (Int.lt_of_le_of_lt h1 (by decide))
theorem D_len (n : Int) : (D n).length ≤ 39 := dg_len 39 n
theorem D_val {ds : List Int} (hc : Can ds) (h : val ds ≤ 340282366920938463463374607431768211456) : D (val ds) = ds := by
 obtain ⟨h1, h2⟩ := D_is (val_nonneg (Can_dg hc)) h
 exact can_inj h1 hc h2
/- the text of a number -/
def txt (neg : Bool) (ds : List Int) : List Int := (if neg = true then [45] else []) ++ (if ds = [] then [48] else (ds.map (48 + ·)).reverse)
/- texts as bytes -/
theorem txt_byte {n : Bool} {ds : List Int} (h : Dg ds) : ∀ b ∈ txt n ds, 0 ≤ b ∧ b < 256 := by
 intro b hb
 unfold txt at hb
 rcases List.mem_append.1 hb with hb | hb
 ·split at hb
  ·simp at hb; omega
  ·simp at hb
 ·split at hb
  ·simp at hb; omega
  ·simp only [List.mem_reverse, List.mem_map] at hb
   obtain ⟨x, hx, rfl⟩ := hb
   have := h x hx
   omega
theorem bytesOf_nums {xs : List Int} (h : ∀ b ∈ xs, 0 ≤ b ∧ b < 256) : bytesOf (strOfNums xs) = xs := by
 unfold bytesOf strOfNums
 simp only [List.map_map]
 induction xs with
 | nil => rfl
 | cons x r ih =>
  have h1 := h x List.mem_cons_self
  rw [List.map_cons, ih (fun b hb => h b (List.mem_cons_of_mem _ hb))]
  congr 1
  simp only [Function.comp]
  have e : (UInt8.ofNat x.toNat).toNat = x.toNat := by simp; omega
  rw [e]
  omega
theorem bytesOf_inj {a b : ByteArray} (h : bytesOf a = bytesOf b) : a = b := by
 have : a.data.toList = b.data.toList := by
  unfold bytesOf at h
  have inj : ∀ (x y : List UInt8), (x.map fun b => (b.toNat : Int)) = (y.map fun b => (b.toNat : Int)) → x = y := by
   intro x
   induction x with
   | nil => intro y h; cases y with | nil => rfl | cons _ _ => simp at h
   | cons u r ih =>
    intro y h
    cases y with
    | nil => simp at h
    | cons v s =>
     simp only [List.map_cons, List.cons.injEq] at h
     rw [ih s h.2, UInt8.toNat.inj (by omega : u.toNat = v.toNat)]
  exact inj _ _ h
 cases a; cases b
 simp only [ByteArray.mk.injEq]
 exact Array.ext' this
theorem bytes_len (s : ByteArray) : (bytesOf s).length = s.size := by unfold bytesOf; rw [List.length_map, Array.length_toList]; rfl
theorem rd_bytes (s : ByteArray) (i : Int) : rd (bytesOf s) i = bt s i := by
 unfold rd bytesOf bt
 rw [List.getD_eq_getElem?_getD, List.getElem?_map, Array.getElem?_toList]
 by_cases h : i.toNat < s.size
 ·rw [dif_pos h, Array.getElem?_eq_getElem (show i.toNat < s.data.size from h)]
  rfl
 ·rw [dif_neg h, Array.getElem?_eq_none (show s.data.size ≤ i.toNat from Nat.le_of_not_lt h)]
  rfl
end Go.Proofs.Ytjnaebcdidilgaa.Q
namespace Go.Proofs.Ytjnaebcdidilgaa.Q
open Go.RowKit Go.Proofs.YtjnaebcdidilgaaW.PrintWords Go.Proofs.YtjnaebcdidilgaaW.PrintLast Go.Proofs.YtjnaebcdidilgaaW.PrintMore
set_option linter.unusedVariables false

theorem Reverse_l0 : ∀ (n : Nat) (m a b : List Int) (k : Nat), m.length ≤ n → m.length < k → a.length + m.length + b.length < 4611686018427387904 →
  slices_Reverse_byte_byte.l0 k (a ++ (m ++ b)) a.length ((a.length : Int) + m.length - 1) = some (a ++ (m.reverse ++ b))
 | 0, m, a, b, k, hn, hk, hb => by
  have : m = [] := List.eq_nil_of_length_eq_zero (by omega)
  subst this
  obtain ⟨k, rfl⟩ : ∃ q, k = q + 1 := ⟨k - 1, by omega⟩
  simp only [slices_Reverse_byte_byte.l0]
  rw [if_neg (by simp only [List.length_nil]; omega)]
  rfl
 | n + 1, m, a, b, k, hn, hk, hb => by
  obtain ⟨k, rfl⟩ : ∃ q, k = q + 1 := ⟨k - 1, by omega⟩
  match m, hn, hk, hb with
  | [], _, _, _ =>
   simp only [slices_Reverse_byte_byte.l0]
   rw [if_neg (by simp only [List.length_nil]; omega)]
   rfl
  | [x], _, _, _ =>
   simp only [slices_Reverse_byte_byte.l0]
   rw [if_neg (by simp)]
   rfl
  | x :: x' :: r, hn, hk, hb =>
   obtain ⟨m', y, hm⟩ : ∃ m' y, x' :: r = m' ++ [y] := ⟨(x' :: r).dropLast, (x' :: r).getLast (by simp), (List.dropLast_concat_getLast (by simp)).symm⟩
   rw [hm] at hn hk hb ⊢
   simp only [List.length_cons, List.length_append, List.length_nil] at hn hk hb ⊢
   simp only [slices_Reverse_byte_byte.l0, List.cons_append, List.append_assoc, List.nil_append, List.length_append, List.length_cons]
   rw [if_pos (by omega), if_pos (by omega), if_pos (by omega), if_pos (by omega), if_pos (by omega)]
   have e1 : rd (a ++ (x :: (m' ++ (y :: b)))) (a.length : Int) = x := by simp [rd]
   have e2 : rd (a ++ (x :: (m' ++ (y :: b)))) ((a.length : Int) + ((m'.length + (0 + 1) + 1 : Nat) : Int) - 1) = y := by
    have : ((a.length : Int) + ((m'.length + (0 + 1) + 1 : Nat) : Int) - 1).toNat = a.length + (m'.length + 1) := by omega
    unfold rd
    rw [this]
    simp [List.getD_eq_getElem?_getD]
   have s1 : ((a.length : Int)).toNat = a.length := by omega
   have s2 : ((a.length : Int) + ((m'.length + (0 + 1) + 1 : Nat) : Int) - 1).toNat = a.length + (m'.length + 1) := by omega
   have e3 : ((a ++ (x :: (m' ++ (y :: b)))).set a.length y).set (a.length + (m'.length + 1)) x = (a ++ [y]) ++ (m' ++ ([x] ++ b)) := by
    rw [List.set_append_right _ _ (by omega), Nat.sub_self, List.set_cons_zero, List.set_append_right _ _ (by omega), Nat.add_sub_cancel_left, List.set_cons_succ, List.set_append_right _ _ (by omega), Nat.sub_self, List.set_cons_zero]
    simp
   rw [e1, e2, s1, s2, e3]
   have ih := Reverse_l0 n m' (a ++ [y]) ([x] ++ b) k (by omega) (by omega) (by simp only [List.length_append, List.length_cons, List.length_nil]; omega)
   have w1 : wrap64 ((a.length : Int) + 1) = ((a ++ [y]).length : Int) := by unfold wrap64; simp only [List.length_append, List.length_cons, List.length_nil]; omega
   have w2 : wrap64 ((a.length : Int) + ((m'.length + (0 + 1) + 1 : Nat) : Int) - 1 - 1) = ((a ++ [y]).length : Int) + m'.length - 1 := by unfold wrap64; simp only [List.length_append, List.length_cons, List.length_nil]; omega
   rw [w1, w2, ih]
   simp
theorem Reverse_is (k : Nat) (l : List Int) (hk : l.length < k) (hl : l.length < 4611686018427387904) : slices_Reverse_byte_byte.f k l = some l.reverse := by
 have := Reverse_l0 l.length l [] [] k (Nat.le_refl _) hk (by simpa using hl)
 unfold slices_Reverse_byte_byte.f
 rw [show wrap64 ((l.length : Int) - 1) = (([] : List Int).length : Int) + l.length - 1 from by unfold wrap64; simp only [List.length_nil]; omega]
 simpa using this

theorem Print_l0 (neg : Bool) : ∀ (f : Nat) (n : Int), 0 ≤ n → n < 10 ^ (f + 1) → n < 340282366920938463463374607431768211456 → ∀ (out : List Int) (k : Nat), out.length + f ≤ 60 → 500 + f < k →
  wide_Print.l0 k neg out (n / 18446744073709551616) (n % 18446744073709551616) = some (strOfNums ((out ++ (if n = 0 then [48] else (dg (f + 1) n).map (48 + ·)) ++ (if neg = true then [45] else [])).reverse)) := by
 intro f
 induction f with
 | zero =>
  intro n h0 h1 h2 out k hl hk
  obtain ⟨k, rfl⟩ : ∃ q, k = q + 1 := ⟨k - 1, by omega⟩
  have h1 : n < 10 := by simpa using h1
  obtain ⟨r1, r2, r3, r4, hp, w1, w2, w3, w4, e1, e2⟩ := part_is k (by omega) (ah := n / 18446744073709551616) (al := n % 18446744073709551616) (bh := 0) (bl := 10) (by unfold W64; omega) (by unfold W64; omega) W64_0 W64_10 (by decide)
  rw [uback, show uval 0 10 = 10 from rfl] at e1 e2
  have q1 : r1 = 0 ∧ r2 = 0 := by unfold uval W64 at *; omega
  have q2 : r4 = n := by unfold uval W64 at *; omega
  simp only [wide_Print.l0]
  rw [hp, Option.bind_some]
  simp only
  rw [if_pos (by omega), Option.bind_some, if_pos (by simp [q1.1, q1.2])]
  have hw : IntKind.u64.wrap (48 + r4) % 256 = 48 + n := by rw [wrap_u64]; omega
  rw [hw]
  have hd : (if n = 0 then ([48] : List Int) else (dg (0 + 1) n).map (48 + ·)) = [48 + n] := by
   by_cases hn : n = 0
   ·rw [if_pos hn, hn]; rfl
   ·rw [if_neg hn]
    simp only [dg, if_neg hn, List.map_cons, List.map_nil]
    rw [show n % 10 = n from by omega]
  rw [hd]
  cases neg
  ·rw [if_neg (by decide), Reverse_is k _ (by simp; omega) (by simp; omega), Option.bind_some]
   simp
  ·rw [if_pos rfl, if_pos (by simp; omega), Reverse_is k _ (by simp; omega) (by simp; omega), Option.bind_some]
   simp
 | succ f ih =>
  intro n h0 h1 h2 out k hl hk
  obtain ⟨k, rfl⟩ : ∃ q, k = q + 1 := ⟨k - 1, by omega⟩
  obtain ⟨r1, r2, r3, r4, hp, w1, w2, w3, w4, e1, e2⟩ := part_is k (by omega) (ah := n / 18446744073709551616) (al := n % 18446744073709551616) (bh := 0) (bl := 10) (by unfold W64; omega) (by unfold W64; omega) W64_0 W64_10 (by decide)
  rw [uback, show uval 0 10 = 10 from rfl] at e1 e2
  have q2 : r4 = n % 10 := by unfold uval W64 at *; omega
  have q3 : r1 = n / 10 / 18446744073709551616 ∧ r2 = n / 10 % 18446744073709551616 := by unfold uval W64 at *; omega
  simp only [wide_Print.l0]
  rw [hp, Option.bind_some]
  simp only
  rw [if_pos (by omega), Option.bind_some]
  have hw : IntKind.u64.wrap (48 + r4) % 256 = 48 + n % 10 := by rw [wrap_u64]; omega
  rw [hw]
  by_cases hq : n / 10 = 0
  ·have q1 : r1 = 0 ∧ r2 = 0 := by omega
   rw [if_pos (by simp [q1.1, q1.2])]
   have hd : (if n = 0 then ([48] : List Int) else (dg (f + 1 + 1) n).map (48 + ·)) = [48 + n % 10] := by
    by_cases hn : n = 0
    ·rw [if_pos hn, hn]; rfl
    ·rw [if_neg hn]
     rw [dg, if_neg hn, hq, dg_zero]
     rfl
   rw [hd]
   cases neg
   ·rw [if_neg (by decide), Reverse_is k _ (by simp; omega) (by simp; omega), Option.bind_some]
    simp
   ·rw [if_pos rfl, if_pos (by simp; omega), Reverse_is k _ (by simp; omega) (by simp; omega), Option.bind_some]
    simp
  ·rw [if_neg (by rw [q3.1, q3.2]; simp; omega), q3.1, q3.2]
   rw [Int.pow_succ] at h1
   have := ih (n / 10) (by omega) (by omega) (by omega) (out ++ [48 + n % 10]) k (by simp; omega) (by omega)
   rw [this, if_neg hq, if_neg (show ¬ n = 0 by omega)]
   rw [show dg (f + 1 + 1) n = n % 10 :: dg (f + 1) (n / 10) from by conv => lhs; unfold dg; rw [if_neg (show ¬ n = 0 by omega)]]
   simp
theorem Print_is (k : Nat) (hk : 540 ≤ k) {h l : Int} (h1 : W64 h) (h2 : W64 l) : wide_Print.f k h l = some (strOfNums (txt (decide (sval h l < 0)) (D (absI (sval h l))))) := by
 have fb := absI_bound (sval_fits h1 h2)
 unfold wide_Print.f
 rw [split_abs h1 h2, Option.bind_some]
 simp only
 rw [Print_l0 _ 38 (absI (sval h l)) fb.1 (Int.lt_of_le_of_lt fb.2 (by decide)) (by omega) [] k (by simp) (by omega)]
 congr 2
 unfold txt D
 by_cases hz : absI (sval h l) = 0
 ·rw [if_pos hz, hz, if_pos (show dg 39 0 = [] from rfl)]
  by_cases hn : sval h l < 0 <;> simp [hn]
 ·have hne : dg 39 (absI (sval h l)) ≠ [] := by simp [dg, hz]
  rw [if_neg hz, if_neg hne]
  by_cases hn : sval h l < 0 <;> simp [hn]

/- the number of a text -/
def pv (v : Int) (bs : List Int) : Int := bs.foldl (fun v b => v * 10 + (b - 48)) v
def AllD (bs : List Int) : Prop := ∀ b ∈ bs, 48 ≤ b ∧ b ≤ 57
instance (bs : List Int) : Decidable (AllD bs) := inferInstanceAs (Decidable (∀ b ∈ bs, _))
def St (e h l v : Int) : Prop := (e = 0 ∧ fits v ∧ h = hiS v ∧ l = loS v) ∨ (e = 10 ∧ ¬ fits v)
theorem Parse_l0 (bs : List Int) (hlen : bs.length < 4611686018427387904) (hbs : ∀ b ∈ bs, 0 ≤ b ∧ b < 256) : ∀ (rest pre : List Int), bs = pre ++ rest → ∀ (k : Nat) (e h l v : Int), 0 ≤ v → St e h l v → 2 * rest.length + 5 ≤ k →
  wide_Parse.l0 k e bs (bs.length : Int) (pre.length : Int) h l = some (if AllD rest then ans (pv v rest) else (0, 0, 17)) := by
 intro rest
 induction rest with
 | nil =>
  intro pre hpre k e h l v hv hst hk
  obtain ⟨k, rfl⟩ : ∃ q, k = q + 1 := ⟨k - 1, by omega⟩
  have : bs.length = pre.length := by rw [hpre]; simp
  simp only [wide_Parse.l0]
  rw [if_neg (by omega), if_pos (show AllD [] from fun b hb => absurd hb (by simp))]
  show _ = some (ans v)
  rcases hst with ⟨rfl, hf, rfl, rfl⟩ | ⟨rfl, hf⟩
  ·rw [if_pos rfl, ans_pos hf]
  ·rw [if_neg (by decide), ans_neg hf]
 | cons b r ih =>
  intro pre hpre k e h l v hv hst hk
  simp only [List.length_cons] at hk
  obtain ⟨k, rfl⟩ : ∃ q, k = q + 2 := ⟨k - 2, by omega⟩
  have hl : bs.length = pre.length + (r.length + 1) := by rw [hpre]; simp
  have hrd : rd bs (pre.length : Int) = b := by rw [hpre]; simp [rd]
  have hb := hbs b (by rw [hpre]; simp)
  simp only [wide_Parse.l0]
  rw [if_pos (by omega), if_pos (by omega), if_pos (by omega), hrd]
  have hbad : ¬ (48 ≤ b ∧ b ≤ 57) → ¬ AllD (b :: r) := fun hn ha => hn (ha b List.mem_cons_self)
  by_cases c1 : b < 48
  ·rw [if_pos c1, if_neg (hbad (by omega))]
   simp only [wide_Parse.j2]
   rfl
  ·rw [if_neg c1]
   by_cases c2 : b > 57
   ·rw [if_neg (hbad (by omega))]
    simp only [wide_Parse.j2, c2, decide_true]
    rfl
   ·have c3 : decide (b > 57) = false := decide_eq_false c2
    rw [c3]
    simp only [wide_Parse.j2]
    rw [if_neg (by decide)]
    have w1 : wrap64 ((pre.length : Int) + 1) = ((pre ++ [b]).length : Int) := by unfold wrap64; simp only [List.length_append, List.length_cons, List.length_nil]; omega
    have hp' : bs = (pre ++ [b]) ++ r := by rw [hpre]; simp
    have hall : AllD (b :: r) ↔ AllD r := by
     constructor
     ·intro h x hx; exact h x (List.mem_cons_of_mem _ hx)
     ·intro h x hx
      rcases List.mem_cons.1 hx with rfl | hx
      ·omega
      ·exact h x hx
    have fin : ∀ e' h' l', St e' h' l' (v * 10 + (b - 48)) → wide_Parse.l0 k e' bs (bs.length : Int) (wrap64 ((pre.length : Int) + 1)) h' l' = some (if AllD (b :: r) then ans (pv v (b :: r)) else (0, 0, 17)) := by
     intro e' h' l' hs
     rw [w1, ih (pre ++ [b]) hp' k e' h' l' (v * 10 + (b - 48)) (by omega) hs (by omega)]
     by_cases ha : AllD r
     ·rw [if_pos ha, if_pos (hall.2 ha)]; rfl
     ·rw [if_neg ha, if_neg (fun h => ha (hall.1 h))]
    rcases hst with ⟨rfl, hf, rfl, rfl⟩ | ⟨rfl, hf⟩
    ·rw [if_pos rfl, Of_is (by decide), Option.bind_some]
     simp only
     rw [Mul_is k (by omega) (hiS_W _) (loS_W _) (hiS_W _) (loS_W _), Option.bind_some, sval_back hf, sval_back (show fits 10 by decide)]
     by_cases f1 : fits (v * 10)
     ·rw [ans_pos f1, if_pos rfl, Of_is (show I64 ((b - 48) % 256) by unfold I64; omega), Option.bind_some]
      simp only
      rw [Add_is (hiS_W _) (loS_W _) (hiS_W _) (loS_W _), Option.bind_some, sval_back f1, sval_back (show fits ((b - 48) % 256) by unfold fits; omega), show (b - 48) % 256 = b - 48 from by omega]
      apply fin
      by_cases f2 : fits (v * 10 + (b - 48))
      ·rw [ans_pos f2]; exact .inl ⟨rfl, f2, rfl, rfl⟩
      ·rw [ans_neg f2]; exact .inr ⟨rfl, f2⟩
     ·rw [ans_neg f1, if_neg (by decide)]
      apply fin
      refine .inr ⟨rfl, fun f2 => f1 ?_⟩
      unfold fits at *
      omega
    ·rw [if_neg (by decide)]
     apply fin
     refine .inr ⟨rfl, fun f2 => hf ?_⟩
     unfold fits at *
     omega
/- a text that stands for a number -/
def Form (bs : List Int) : Prop := bs ≠ [] ∧ ¬ (1 < bs.length ∧ rd bs 0 = 48) ∧ AllD bs
instance (bs : List Int) : Decidable (Form bs) := inferInstanceAs (Decidable (_ ∧ _))
theorem bytes_range (s : ByteArray) : ∀ b ∈ bytesOf s, 0 ≤ b ∧ b < 256 := by
 intro b hb
 unfold bytesOf at hb
 simp only [List.mem_map] at hb
 obtain ⟨x, _, rfl⟩ := hb
 have := x.toNat_lt
 omega
theorem Parse_is (k : Nat) (s : ByteArray) (hs : s.size ≤ 140737488355328) (hk : 2 * s.size + 6 ≤ k) : wide_Parse.f k s = some (if Form (bytesOf s) then ans (pv 0 (bytesOf s)) else (0, 0, 17)) := by
 obtain ⟨k, rfl⟩ : ∃ q, k = q + 1 := ⟨k - 1, by omega⟩
 have hl := bytes_len s
 have main : ¬ (1 < (bytesOf s).length ∧ rd (bytesOf s) 0 = 48) → bytesOf s ≠ [] → wide_Parse.j0 (k + 1) s false = some (if Form (bytesOf s) then ans (pv 0 (bytesOf s)) else (0, 0, 17)) := by
  intro h1 h2
  simp only [wide_Parse.j0]
  rw [if_neg (by decide), if_pos (by omega), Option.bind_some]
  have hp := Parse_l0 (bytesOf s) (by omega) (bytes_range s) (bytesOf s) [] rfl k 0 0 0 0 (by omega) (.inl ⟨rfl, by decide, by decide, by decide⟩) (by omega)
  rw [show (([] : List Int).length : Int) = 0 from rfl] at hp
  rw [hp]
  by_cases ha : AllD (bytesOf s)
  ·rw [if_pos ha, if_pos ⟨h2, h1, ha⟩]
  ·rw [if_neg ha, if_neg (fun h => ha h.2.2)]
 have bad : ¬ Form (bytesOf s) → wide_Parse.j0 (k + 1) s true = some (if Form (bytesOf s) then ans (pv 0 (bytesOf s)) else (0, 0, 17)) := by
  intro h
  simp only [wide_Parse.j0, if_true]
  rw [if_neg h]
 have hempty : s.toList = [] ↔ bytesOf s = [] := by
  rw [ByteArray.toList_eq]
  unfold bytesOf
  simp
 unfold wide_Parse.f
 by_cases he : s.toList = []
 ·rw [if_pos he]
  exact bad (fun h => h.1 (hempty.1 he))
 ·rw [if_neg he]
  have hne : bytesOf s ≠ [] := fun h => he (hempty.2 h)
  have hpos : 0 < s.size := by rw [← hl]; exact List.length_pos_iff.2 hne
  by_cases h1 : (s.size : Int) > 1
  ·rw [if_pos h1, if_pos (by omega), ← rd_bytes]
   by_cases h2 : rd (bytesOf s) 0 = 48
   ·rw [show (rd (bytesOf s) 0 == 48) = true from by rw [h2]; rfl]
    exact bad (fun h => h.2.1 ⟨by omega, h2⟩)
   ·rw [show (rd (bytesOf s) 0 == 48) = false from by simp [h2]]
    exact main (fun h => h2 h.2) hne
  ·rw [if_neg h1]
   exact main (fun h => by omega) hne
end Go.Proofs.Ytjnaebcdidilgaa.Q
namespace Go.Proofs.Ytjnaebcdidilgaa.Q
open Go.RowKit Go.Proofs.YtjnaebcdidilgaaW.PrintWords Go.Proofs.YtjnaebcdidilgaaW.PrintLast Go.Proofs.YtjnaebcdidilgaaW.PrintMore
set_option linter.unusedVariables false

/- powers, hidden from omega -/
def P10 (i : Nat) : Int := 10 ^ i
theorem P10_zero : P10 0 = 1 := rfl
theorem P10_succ (i : Nat) : P10 (i + 1) = P10 i * 10 := Int.pow_succ ..
theorem P10_pos (i : Nat) : 0 < P10 i := Int.pow_pos (by decide)
theorem P10_mono {i j : Nat} (h : i ≤ j) : P10 i ≤ P10 j := by
 have h : (10 : Nat) ^ i ≤ 10 ^ j := Nat.pow_le_pow_right (by decide) h
 unfold P10
 exact_mod_cast h
def P2 (i : Nat) : Int := 2 ^ i
theorem P2_succ (i : Nat) : P2 (i + 1) = P2 i * 2 := Int.pow_succ ..
theorem P2_pos (i : Nat) : 0 < P2 i := Int.pow_pos (by decide)
theorem val_ltP {ds : List Int} (h : Dg ds) : val ds < P10 ds.length := val_lt h
def strip : List Int → List Int
 | [] => []
 | d :: r => if strip r = [] ∧ d = 0 then [] else d :: strip r
theorem strip_can : ∀ {l : List Int}, Dg l → Can (strip l)
 | [], _ => trivial
 | d :: r, h => by
  unfold strip
  split
  ·trivial
  ·rename_i hn
   refine ⟨Dg_head h, fun hr hd => hn ⟨hr, hd⟩, strip_can (Dg_tail h)⟩
theorem strip_val : ∀ (l : List Int), val (strip l) = val l
 | [] => rfl
 | d :: r => by
  have ih := strip_val r
  unfold strip
  split
  ·rename_i h
   rw [h.1] at ih
   show 0 = d + 10 * val r
   rw [← ih, h.2]
   rfl
  ·show d + 10 * val (strip r) = d + 10 * val r
   rw [ih]
theorem strip_len : ∀ (l : List Int), (strip l).length ≤ l.length
 | [] => Nat.le_refl _
 | d :: r => by
  have ih := strip_len r
  unfold strip
  split
  ·simp
  ·simp only [List.length_cons]; omega
theorem strip_snoc0 : ∀ (l : List Int), strip (l ++ [0]) = strip l
 | [] => by simp [strip]
 | d :: r => by
  rw [List.cons_append]
  unfold strip
  rw [strip_snoc0 r]
theorem strip_snoc : ∀ (l : List Int) {d : Int}, d ≠ 0 → strip (l ++ [d]) = l ++ [d]
 | [], d, h => by simp [strip, h]
 | e :: r, d, h => by
  rw [List.cons_append]
  unfold strip
  rw [strip_snoc r h, if_neg (by simp)]
theorem take_succ_rd (l : List Int) (n : Nat) (h : n < l.length) : l.take (n + 1) = l.take n ++ [rd l (n : Int)] := by
 rw [List.take_succ_eq_append_getElem h]
 simp [rd, List.getD_eq_getElem?_getD, List.getElem?_eq_getElem h]
theorem trim_l0 (neg : Bool) (l : List Int) (hl : l.length < 4611686018427387904) : ∀ (n k : Nat), n ≤ l.length → n < k → lorgnetteref01_trim.l0 k (n : Int) neg l = some (neg && decide (strip (l.take n) ≠ []), strip (l.take n)) := by
 intro n
 induction n with
 | zero =>
  intro k hn hk
  obtain ⟨k, rfl⟩ : ∃ q, k = q + 1 := ⟨k - 1, by omega⟩
  simp only [lorgnetteref01_trim.l0]
  rw [if_neg (by omega), if_pos (by omega), if_pos (by omega), Option.bind_some]
  cases neg <;> simp [strip]
 | succ n ih =>
  intro k hn hk
  obtain ⟨k, rfl⟩ : ∃ q, k = q + 1 := ⟨k - 1, by omega⟩
  have hw : wrap64 (((n + 1 : Nat) : Int) - 1) = (n : Int) := by unfold wrap64; omega
  simp only [lorgnetteref01_trim.l0]
  rw [if_pos (by omega), hw, if_pos (by omega), if_pos (by omega), take_succ_rd l n (by omega)]
  by_cases h0 : rd l (n : Int) = 0
  ·rw [if_pos h0, h0, strip_snoc0]
   exact ih k (by omega) (by omega)
  ·rw [if_neg h0, strip_snoc _ h0, if_pos (by omega), if_pos (by omega), Option.bind_some, show (((n + 1 : Nat) : Int)).toNat = n + 1 from by omega, take_succ_rd l n (by omega)]
   cases neg <;> simp
theorem trim_is (k : Nat) (neg : Bool) (l : List Int) (hl : l.length < 4611686018427387904) (hk : l.length < k) : lorgnetteref01_trim.f k neg l = some (neg && decide (strip l ≠ []), strip l) := by
 have := trim_l0 neg l hl l.length k (Nat.le_refl _) hk
 rw [List.take_length] at this
 exact this
theorem at_is (l : List Int) (i : Nat) : lorgnetteref01_at.f l (i : Int) = some (rd l (i : Int)) := by
 unfold lorgnetteref01_at.f
 by_cases h : (i : Int) < (l.length : Int)
 ·rw [if_pos h, if_pos (by omega)]
 ·rw [if_neg h]
  congr 1
  unfold rd
  rw [List.getD_eq_getElem?_getD, List.getElem?_eq_none (by omega)]
  rfl
theorem rd_dg {l : List Int} (h : Dg l) (i : Nat) : 0 ≤ rd l (i : Int) ∧ rd l (i : Int) < 10 := by
 unfold rd
 rw [List.getD_eq_getElem?_getD, show ((i : Int)).toNat = i from by omega]
 by_cases hi : i < l.length
 ·rw [List.getElem?_eq_getElem hi]
  exact h _ (List.getElem_mem hi)
 ·rw [List.getElem?_eq_none (by omega)]
  decide
theorem val_drop (l : List Int) (i : Nat) : val (l.drop i) = rd l (i : Int) + 10 * val (l.drop (i + 1)) := by
 by_cases h : i < l.length
 ·rw [List.drop_eq_getElem_cons h]
  show l[i] + 10 * val (l.drop (i + 1)) = _
  congr 1
  unfold rd
  rw [List.getD_eq_getElem?_getD, show ((i : Int)).toNat = i from by omega, List.getElem?_eq_getElem h]
  rfl
 ·rw [List.drop_of_length_le (by omega), List.drop_of_length_le (by omega)]
  unfold rd
  rw [List.getD_eq_getElem?_getD, show ((i : Int)).toNat = i from by omega, List.getElem?_eq_none (by omega)]
  rfl
theorem val_snoc (l : List Int) (d : Int) : val (l ++ [d]) = val l + P10 l.length * d := by
 induction l with
 | nil => simp [val, P10]
 | cons a r ih =>
  show a + 10 * val (r ++ [d]) = a + 10 * val r + P10 (r.length + 1) * d
  rw [ih, P10_succ, Int.mul_add, Int.mul_comm (P10 r.length) 10, Int.mul_assoc, Int.add_assoc]
theorem Dg_snoc {l : List Int} {d : Int} (h : Dg l) (hd : 0 ≤ d ∧ d < 10) : Dg (l ++ [d]) := by
 intro x hx
 rcases List.mem_append.1 hx with hx | hx
 ·exact h x hx
 ·rw [List.mem_singleton.1 hx]; exact hd
theorem Dg_drop {l : List Int} (h : Dg l) (i : Nat) : Dg (l.drop i) := fun x hx => h x (List.mem_of_mem_drop hx)
theorem Dg_take {l : List Int} (h : Dg l) (i : Nat) : Dg (l.take i) := fun x hx => h x (List.mem_of_mem_take hx)
theorem Dg_nil : Dg [] := fun x hx => absurd hx (by simp)
theorem acc_step (V P x y z : Int) (h : x + 10 * y = z) : V + P * x + P * 10 * y = V + P * z := by
 subst h
 rw [Int.mul_add, Int.mul_assoc, Int.add_assoc]
theorem mx_is (a b : Nat) : mx (a : Int) (b : Int) = ((max a b : Nat) : Int) := by unfold mx; split <;> omega
/- the sum -/
theorem plus_l0 (a b : List Int) (ha : Dg a) (hb : Dg b) (hla : a.length < 100000) (hlb : b.length < 100000) : ∀ (n i k : Nat) (out : List Int) (c : Int), max a.length b.length + 1 ≤ i + n → i ≤ max a.length b.length + 1 → 2 * n + 2 ≤ k → out.length = i → Dg out → (c = 0 ∨ c = 1) → (max a.length b.length < i → c = 0) →
  val out + P10 i * (c + val (a.drop i) + val (b.drop i)) = val a + val b →
  ∃ r, lorgnetteref01_plus.l0 k a b out c (i : Int) = some r ∧ Dg r ∧ val r = val a + val b ∧ r.length ≤ max a.length b.length + 1 := by
 intro n
 induction n with
 | zero =>
  intro i k out c h1 h2 hk hlo hdo hc hz hv
  obtain ⟨k, rfl⟩ : ∃ q, k = q + 2 := ⟨k - 2, by omega⟩
  have hc0 : c = 0 := hz (by omega)
  subst hc0
  refine ⟨out, ?_, hdo, ?_, by omega⟩
  ·simp only [lorgnetteref01_plus.l0]
   rw [mx_is, if_neg (by omega)]
   simp only [lorgnetteref01_plus.j1]
   rw [if_neg (by decide)]
  ·rw [List.drop_of_length_le (by omega), List.drop_of_length_le (by omega)] at hv
   simpa [val] using hv
 | succ n ih =>
  intro i k out c h1 h2 hk hlo hdo hc hz hv
  obtain ⟨k, rfl⟩ : ∃ q, k = q + 2 := ⟨k - 2, by omega⟩
  have ra := rd_dg ha i
  have rb := rd_dg hb i
  have zero : max a.length b.length < i + 1 → (rd a (i : Int) + rd b (i : Int) + c) / 10 = 0 := by
   clear hv
   intro hi
   have za : rd a (i : Int) = 0 := by
    unfold rd; rw [List.getD_eq_getElem?_getD, List.getElem?_eq_none (by omega)]; rfl
   have zb : rd b (i : Int) = 0 := by
    unfold rd; rw [List.getD_eq_getElem?_getD, List.getElem?_eq_none (by omega)]; rfl
   rw [za, zb]; omega
  have s1 : max a.length b.length + 1 ≤ i + 1 + n := by clear hv; omega
  have s2 : (i < max a.length b.length ∨ 0 < c) → i + 1 ≤ max a.length b.length + 1 := by
   clear hv
   intro hgo
   by_cases hi : max a.length b.length < i
   ·have := hz hi; omega
   ·omega
  have s3 : 2 * n + 2 ≤ k := by clear hv; omega
  have s4 : 0 ≤ (rd a (i : Int) + rd b (i : Int) + c) % 10 ∧ (rd a (i : Int) + rd b (i : Int) + c) % 10 < 10 := by clear hv; omega
  have s5 : (rd a (i : Int) + rd b (i : Int) + c) / 10 = 0 ∨ (rd a (i : Int) + rd b (i : Int) + c) / 10 = 1 := by clear hv; omega
  have hlt : out.length < 17592186044416 := by clear hv; omega
  have w1 : wrap64 (wrap64 (rd a (i : Int) + rd b (i : Int)) + c) = rd a i + rd b i + c := by clear hv; unfold wrap64; omega
  have w2 : wrap64 ((rd a (i : Int) + rd b (i : Int) + c) / 10) = (rd a i + rd b i + c) / 10 := by clear hv; unfold wrap64; omega
  have w3 : wrap64 ((i : Int) + 1) = ((i + 1 : Nat) : Int) := by clear hv; unfold wrap64; omega
  have hs0 : 0 ≤ rd a (i : Int) + rd b (i : Int) + c := by clear hv; omega
  have step : lorgnetteref01_plus.j1 (k + 1) a b out c (i : Int) true = lorgnetteref01_plus.l0 k a b (out ++ [(rd a i + rd b i + c) % 10]) ((rd a i + rd b i + c) / 10) ((i + 1 : Nat) : Int) := by
   simp only [lorgnetteref01_plus.j1, if_true]
   rw [at_is, Option.bind_some, at_is, Option.bind_some, if_pos hlt, w1, Int.tmod_eq_emod_of_nonneg hs0, Int.tdiv_eq_ediv_of_nonneg hs0, w2, w3]
  have hv' := hv
  rw [val_drop a i, val_drop b i] at hv'
  have key : val (out ++ [(rd a i + rd b i + c) % 10]) + P10 (i + 1) * ((rd a i + rd b i + c) / 10 + val (a.drop (i + 1)) + val (b.drop (i + 1))) = val a + val b := by
   rw [val_snoc, hlo, P10_succ, acc_step _ _ _ _ (c + (rd a i + 10 * val (a.drop (i + 1))) + (rd b i + 10 * val (b.drop (i + 1)))) (by clear hv hv'; omega)]
   exact hv'
  have go : (i < max a.length b.length ∨ 0 < c) → ∃ r, lorgnetteref01_plus.j1 (k + 1) a b out c (i : Int) true = some r ∧ Dg r ∧ val r = val a + val b ∧ r.length ≤ max a.length b.length + 1 := by
   intro hgo
   rw [step]
   exact ih (i + 1) k _ _ s1 (s2 hgo) s3 (by simp [hlo]) (Dg_snoc hdo s4) s5 zero key
  simp only [lorgnetteref01_plus.l0]
  clear key
  by_cases hi : i < max a.length b.length
  ·have hi' : (i : Int) < ((max a.length b.length : Nat) : Int) := Int.ofNat_lt.2 hi
   rw [mx_is, if_pos hi']
   exact go (.inl hi)
  ·have hi' : ¬ (i : Int) < ((max a.length b.length : Nat) : Int) := fun h => hi (Int.ofNat_lt.1 h)
   rw [mx_is, if_neg hi']
   by_cases hcp : c > 0
   ·rw [decide_eq_true hcp]
    exact go (.inr hcp)
   ·rw [decide_eq_false hcp]
    have hc0 : c = 0 := by
     rcases hc with h | h
     ·exact h
     ·exact absurd (by rw [h]; decide) hcp
    have d1 : a.length ≤ i := Nat.le_trans (Nat.le_max_left _ _) (Nat.not_lt.1 hi)
    have d2 : b.length ≤ i := Nat.le_trans (Nat.le_max_right _ _) (Nat.not_lt.1 hi)
    have d3 : out.length ≤ max a.length b.length + 1 := by rw [hlo]; exact h2
    clear hv'
    subst hc0
    refine ⟨out, ?_, hdo, ?_, d3⟩
    ·simp only [lorgnetteref01_plus.j1]
     rw [if_neg (by decide)]
    ·rw [List.drop_of_length_le d1, List.drop_of_length_le d2] at hv
     simpa [val] using hv
theorem plus_is (k : Nat) {a b : List Int} (ha : Dg a) (hb : Dg b) (hla : a.length < 100000) (hlb : b.length < 100000) (hk : 2 * max a.length b.length + 4 ≤ k) :
  ∃ r, lorgnetteref01_plus.f k a b = some r ∧ Dg r ∧ val r = val a + val b ∧ r.length ≤ max a.length b.length + 1 :=
 plus_l0 a b ha hb hla hlb (max a.length b.length + 1) 0 k [] 0 (by omega) (by omega) (by omega) rfl Dg_nil (.inl rfl) (fun h => absurd h (by omega)) (by simp [val, P10])
/- the difference -/
theorem dminus_l0 (a b : List Int) (ha : Dg a) (hb : Dg b) (hla : a.length < 100000) (hle : val b ≤ val a) : ∀ (n i k : Nat) (out : List Int) (c : Int), i + n = a.length → n + 1 ≤ k → out.length = i → Dg out → (c = 0 ∨ c = 1) →
  val out + P10 i * (val (a.drop i) - val (b.drop i) - c) = val a - val b →
  ∃ r, lorgnetteref01_minus.l0 k a b out c (i : Int) = some r ∧ Dg r ∧ val r = val a - val b ∧ r.length = a.length := by
 intro n
 induction n with
 | zero =>
  intro i k out c h1 hk hlo hdo hc hv
  obtain ⟨k, rfl⟩ : ∃ q, k = q + 1 := ⟨k - 1, by omega⟩
  refine ⟨out, ?_, hdo, ?_, by omega⟩
  ·simp only [lorgnetteref01_minus.l0]
   rw [if_neg (by omega)]
  ·rw [List.drop_of_length_le (by omega : a.length ≤ i)] at hv
   have v1 := val_ltP hdo
   rw [hlo] at v1
   have v2 := val_nonneg (Dg_drop hb i)
   have hp := P10_pos i
   have e : val ([] : List Int) = 0 := rfl
   rw [e] at hv
   by_cases hx : val (b.drop i) + c = 0
   ·rw [show (0 : Int) - val (b.drop i) - c = 0 from by omega, Int.mul_zero, Int.add_zero] at hv
    exact hv
   ·exfalso
    have h2 : P10 i * 1 ≤ P10 i * (val (b.drop i) + c) := Int.mul_le_mul_of_nonneg_left (by omega) (by omega)
    have h3 : P10 i * (0 - val (b.drop i) - c) = -(P10 i * (val (b.drop i) + c)) := by rw [← Int.mul_neg]; congr 1; omega
    rw [h3] at hv
    omega
 | succ n ih =>
  intro i k out c h1 hk hlo hdo hc hv
  obtain ⟨k, rfl⟩ : ∃ q, k = q + 1 := ⟨k - 1, by omega⟩
  have ra := rd_dg ha i
  have rb := rd_dg hb i
  have hlt : out.length < 17592186044416 := by clear hv; omega
  have w1 : wrap64 (wrap64 (rd a (i : Int) - rd b (i : Int)) - c) = rd a i - rd b i - c := by clear hv; unfold wrap64; omega
  have w3 : wrap64 ((i : Int) + 1) = ((i + 1 : Nat) : Int) := by clear hv; unfold wrap64; omega
  have w2 : wrap64 (rd a (i : Int) - rd b (i : Int) - c + 10) = rd a i - rd b i - c + 10 := by clear hv; unfold wrap64; omega
  have hil : (i : Int) < (a.length : Int) := by clear hv; omega
  have s1 : i + 1 + n = a.length := by clear hv; omega
  have s2 : n + 1 ≤ k := by clear hv; omega
  rw [val_drop a i, val_drop b i] at hv
  have key : ∀ (d c' : Int), d + 10 * (val (a.drop (i + 1)) - val (b.drop (i + 1)) - c') = rd a i + 10 * val (a.drop (i + 1)) - (rd b i + 10 * val (b.drop (i + 1))) - c →
    val (out ++ [d]) + P10 (i + 1) * (val (a.drop (i + 1)) - val (b.drop (i + 1)) - c') = val a - val b := by
   intro d c' h
   rw [val_snoc, hlo, P10_succ, acc_step _ _ _ _ _ h]
   exact hv
  clear hv
  simp only [lorgnetteref01_minus.l0]
  rw [if_pos hil, at_is, Option.bind_some, at_is, Option.bind_some, w1, w3]
  by_cases hs : rd a (i : Int) - rd b (i : Int) - c < 0
  ·rw [if_pos hs, if_pos hlt, w2]
   exact ih (i + 1) k _ _ s1 s2 (by simp [hlo]) (Dg_snoc hdo (by clear key; omega)) (.inr rfl) (key _ _ (by clear key; omega))
  ·rw [if_neg hs, if_pos hlt]
   exact ih (i + 1) k _ _ s1 s2 (by simp [hlo]) (Dg_snoc hdo (by clear key; omega)) (.inl rfl) (key _ _ (by clear key; omega))
theorem dminus_is (k : Nat) {a b : List Int} (ha : Dg a) (hb : Dg b) (hla : a.length < 100000) (hle : val b ≤ val a) (hk : a.length + 1 ≤ k) :
  ∃ r, lorgnetteref01_minus.f k a b = some r ∧ Dg r ∧ val r = val a - val b ∧ r.length = a.length :=
 dminus_l0 a b ha hb hla hle a.length 0 k [] 0 (by omega) hk rfl Dg_nil (.inl rfl) (by simp [val, P10])
/- the order -/
def cmpI (x y : Int) : Int := if x < y then -1 else if y < x then 1 else 0
theorem val_split (l : List Int) (i : Nat) : val l = val (l.take i) + P10 i * val (l.drop i) := by
 induction i with
 | zero => simp [val, P10]
 | succ i ih =>
  rw [ih, val_drop l i]
  by_cases h : i < l.length
  ·rw [take_succ_rd l i h, val_snoc, List.length_take, Nat.min_eq_left (by omega), P10_succ, acc_step _ _ _ _ _ rfl]
  ·rw [List.take_of_length_le (by omega), List.take_of_length_le (by omega)]
   have z : rd l (i : Int) = 0 := by unfold rd; rw [List.getD_eq_getElem?_getD, List.getElem?_eq_none (by omega)]; rfl
   have z2 : val (l.drop (i + 1)) = 0 := by rw [List.drop_of_length_le (by omega)]; rfl
   rw [z, z2]
   simp
theorem below_of {a b : List Int} (ha : Dg a) (hb : Dg b) (i : Nat) (h : val (a.drop i) < val (b.drop i)) : val a < val b := by
 rw [val_split a i, val_split b i]
 have h1 := val_ltP (Dg_take ha i)
 have h2 := val_nonneg (Dg_take hb i)
 have h3 : P10 (a.take i).length ≤ P10 i := P10_mono (by rw [List.length_take]; omega)
 have h4 : P10 i * (val (a.drop i) + 1) ≤ P10 i * val (b.drop i) := Int.mul_le_mul_of_nonneg_left (by omega) (Int.le_of_lt (P10_pos i))
 rw [Int.mul_add, Int.mul_one] at h4
 omega
theorem more_l0 (a b : List Int) (ha : Dg a) (hb : Dg b) : ∀ (n k : Nat), n < 100000 → n + 1 ≤ k → val (a.drop n) = val (b.drop n) → lorgnetteref01_more.l0 k a b ((n : Int) - 1) = some (cmpI (val a) (val b)) := by
 intro n
 induction n with
 | zero =>
  intro k _ hk he
  obtain ⟨k, rfl⟩ : ∃ q, k = q + 1 := ⟨k - 1, by omega⟩
  simp only [lorgnetteref01_more.l0]
  rw [if_neg (by omega)]
  simp only [List.drop_zero] at he
  unfold cmpI
  rw [he, if_neg (by omega), if_neg (by omega)]
 | succ n ih =>
  intro k hn hk he
  obtain ⟨k, rfl⟩ : ∃ q, k = q + 1 := ⟨k - 1, by omega⟩
  have e : ((n + 1 : Nat) : Int) - 1 = (n : Int) := by omega
  rw [e]
  have w : wrap64 ((n : Int) - 1) = (n : Int) - 1 := by unfold wrap64; omega
  have da := val_drop a n
  have db := val_drop b n
  simp only [lorgnetteref01_more.l0]
  rw [if_pos (by omega), at_is, Option.bind_some, at_is, Option.bind_some, w]
  by_cases h : rd a (n : Int) = rd b (n : Int)
  ·rw [if_pos h]
   exact ih k (by omega) (by omega) (by omega)
  ·rw [if_neg h]
   unfold cmpI
   by_cases h2 : rd a (n : Int) < rd b (n : Int)
   ·have := below_of ha hb n (by omega)
    rw [Option.bind_some, Option.bind_some, if_pos h2, if_pos this]
   ·have := below_of hb ha n (by omega)
    rw [Option.bind_some, Option.bind_some, if_neg h2, if_neg (by omega), if_pos this]
theorem more_is (k : Nat) {a b : List Int} (ha : Dg a) (hb : Dg b) (hla : a.length < 100000) (hlb : b.length < 100000) (hk : max a.length b.length + 1 ≤ k) : lorgnetteref01_more.f k a b = some (cmpI (val a) (val b)) := by
 unfold lorgnetteref01_more.f
 have w : wrap64 (mx (a.length : Int) (b.length : Int) - 1) = ((max a.length b.length : Nat) : Int) - 1 := by rw [mx_is]; unfold wrap64; omega
 rw [w]
 refine more_l0 a b ha hb _ k (by omega) hk ?_
 rw [List.drop_of_length_le (by omega), List.drop_of_length_le (by omega)]
theorem power_l0 (m : Nat) (hm : m ≤ 200) : ∀ (n i k : Nat) (d : List Int), i + n = m → n + 1 + 500 ≤ k → Dg d → d.length ≤ i + 1 → val d = P2 i → ∃ r, lorgnetteref01_power.l0 k (m : Int) d (i : Int) = some r ∧ Dg r ∧ val r = P2 m ∧ r.length ≤ m + 1 := by
 intro n
 induction n with
 | zero =>
  intro i k d h1 hk hd hl hv
  obtain ⟨k, rfl⟩ : ∃ q, k = q + 1 := ⟨k - 1, by omega⟩
  have : i = m := by omega
  subst this
  refine ⟨d, ?_, hd, hv, hl⟩
  simp only [lorgnetteref01_power.l0]
  rw [if_neg (by omega)]
 | succ n ih =>
  intro i k d h1 hk hd hl hv
  obtain ⟨k, rfl⟩ : ∃ q, k = q + 1 := ⟨k - 1, by omega⟩
  have s1 : d.length < 100000 := by clear hv; omega
  have s2 : 2 * max d.length d.length + 4 ≤ k := by clear hv; omega
  have s3 : (i : Int) < (m : Int) := by clear hv; omega
  have s4 : i + 1 + n = m := by clear hv; omega
  have s5 : n + 1 + 500 ≤ k := by clear hv; omega
  have w : wrap64 ((i : Int) + 1) = ((i + 1 : Nat) : Int) := by clear hv; unfold wrap64; omega
  obtain ⟨r, hr, hr1, hr2, hr3⟩ := plus_is k hd hd s1 s1 s2
  have s6 : r.length ≤ i + 1 + 1 := by clear hv hr2 hr; omega
  simp only [lorgnetteref01_power.l0]
  rw [if_pos s3, hr, Option.bind_some, w]
  refine ih (i + 1) k r s4 s5 hr1 s6 ?_
  rw [hr2, hv, P2_succ]
  generalize P2 i = x
  clear hv hr2 hr ih
  omega
theorem power_is (k m : Nat) (hm : m ≤ 200) (hk : m + 501 ≤ k) : ∃ r, lorgnetteref01_power.f k (m : Int) = some r ∧ Dg r ∧ val r = P2 m ∧ r.length ≤ m + 1 :=
 power_l0 m hm m 0 k [1] (by omega) (by omega) (fun x hx => by rw [List.mem_singleton.1 hx]; decide) (by simp) (by simp [val, P2])
end Go.Proofs.Ytjnaebcdidilgaa.Q
namespace Go.Proofs.Ytjnaebcdidilgaa.Q
open Go.RowKit Go.Proofs.YtjnaebcdidilgaaW.PrintWords Go.Proofs.YtjnaebcdidilgaaW.PrintLast Go.Proofs.YtjnaebcdidilgaaW.PrintMore
set_option linter.unusedVariables false

/- what a sign and an amount stand for -/
def sg (neg : Bool) (v : Int) : Int := if neg = true then -v else v
def CanN (neg : Bool) (ds : List Int) : Prop := Can ds ∧ (neg = true → ds ≠ [])
theorem lim (neg : Bool) (v B : Int) (hB : 0 < B) (h0 : 0 ≤ v) : (if cmpI v B < 0 then some true else (if cmpI v B = 0 then some neg else some false)) = some (decide (-B ≤ sg neg v ∧ sg neg v < B)) := by
 unfold cmpI sg
 by_cases h : v < B
 ·rw [if_pos h, if_pos (by decide)]
  congr 1
  symm
  rw [decide_eq_true_eq]
  cases neg
  ·rw [if_neg (by decide)]; omega
  ·rw [if_pos rfl]; omega
 ·rw [if_neg h]
  by_cases h2 : B < v
  ·rw [if_pos h2, if_neg (by decide), if_neg (by decide)]
   congr 1
   symm
   rw [decide_eq_false_iff_not]
   cases neg
   ·rw [if_neg (by decide)]; omega
   ·rw [if_pos rfl]; omega
  ·rw [if_neg h2, if_neg (by decide), if_pos rfl]
   congr 1
   symm
   cases neg
   ·rw [decide_eq_false_iff_not, if_neg (by decide)]; omega
   ·rw [decide_eq_true_eq, if_pos rfl]; omega
theorem Small_is (k : Nat) (hk : 1200 ≤ k) (neg : Bool) {ds : List Int} (h : Dg ds) (hl : ds.length ≤ 1000) : lorgnetteref01_Small.f k neg ds = some (decide (I64 (sg neg (val ds)))) := by
 obtain ⟨p, hp, hp1, hp2, hp3⟩ := power_is k 63 (by decide) (by omega)
 have l1 : ds.length < 100000 := by clear hp2 hp; omega
 have l2 : p.length < 100000 := by clear hp2 hp; omega
 have l3 : max ds.length p.length + 1 ≤ k := by clear hp2 hp; omega
 unfold lorgnetteref01_Small.f
 rw [show (63 : Int) = ((63 : Nat) : Int) from rfl, hp, Option.bind_some, more_is k h hp1 l1 l2 l3, Option.bind_some, hp2, show P2 63 = 9223372036854775808 from by decide]
 exact lim neg (val ds) 9223372036854775808 (by decide) (val_nonneg h)
theorem Fits_is (k : Nat) (hk : 1200 ≤ k) (neg : Bool) {ds : List Int} (h : Dg ds) (hl : ds.length ≤ 1000) : lorgnetteref01_Fits.f k neg ds = some (decide (fits (sg neg (val ds)))) := by
 obtain ⟨p, hp, hp1, hp2, hp3⟩ := power_is k 127 (by decide) (by omega)
 have l1 : ds.length < 100000 := by clear hp2 hp; omega
 have l2 : p.length < 100000 := by clear hp2 hp; omega
 have l3 : max ds.length p.length + 1 ≤ k := by clear hp2 hp; omega
 unfold lorgnetteref01_Fits.f
 rw [show (127 : Int) = ((127 : Nat) : Int) from rfl, hp, Option.bind_some, more_is k h hp1 l1 l2 l3, Option.bind_some, hp2, show P2 127 = 170141183460469231731687303715884105728 from by decide]
 exact lim neg (val ds) 170141183460469231731687303715884105728 (by decide) (val_nonneg h)
/- the digits of a number of 128 bits -/
theorem mod2 (W : Int) (h : 0 ≤ W) (i : Nat) : W % P2 (i + 1) = W % P2 i + P2 i * (W / P2 i % 2) := by
 obtain ⟨n, rfl⟩ := Int.eq_ofNat_of_zero_le h
 have := Nat.mod_mul (x := n) (a := 2 ^ i) (b := 2)
 unfold P2
 rw [Int.pow_succ]
 exact_mod_cast this
theorem bit_is {ah al : Int} (h1 : W64 ah) (h2 : W64 al) (i : Nat) (hi : i < 128) :
  Go.bits .and .u64 (shr .u64 (if 64 ≤ i then ah else al) (Int.tmod (i : Int) 64)) 1 = uval ah al / P2 i % 2 := by
 unfold P2
 by_cases h : 64 ≤ i
 ·rw [if_pos h]
  obtain ⟨m, rfl⟩ : ∃ m, i = 64 + m := ⟨i - 64, by omega⟩
  have e : Int.tmod ((64 + m : Nat) : Int) 64 = (m : Int) := by rw [Int.tmod_eq_emod_of_nonneg (by omega)]; omega
  rw [e, shr64 _ _ (by omega), bit_hi h1 h2, and1]
  unfold W64 at *
  have hp : (0 : Int) < 2 ^ m := Int.pow_pos (by decide)
  have n1 := Int.ediv_nonneg h1.1 (Int.le_of_lt hp)
  have n2 : ah / 2 ^ m ≤ ah := Int.ediv_le_self _ h1.1
  exact ⟨n1, Int.lt_of_le_of_lt n2 h1.2⟩
 ·rw [if_neg h]
  have e : Int.tmod (i : Int) 64 = (i : Int) := by rw [Int.tmod_eq_emod_of_nonneg (by omega)]; omega
  rw [e, shr64 _ _ (by omega), bit_lo h1 h2 i (by omega), and1]
  unfold W64 at *
  have hp : (0 : Int) < 2 ^ i := Int.pow_pos (by decide)
  have n1 := Int.ediv_nonneg h2.1 (Int.le_of_lt hp)
  have n2 : al / 2 ^ i ≤ al := Int.ediv_le_self _ h2.1
  exact ⟨n1, Int.lt_of_le_of_lt n2 h2.2⟩
theorem p127 : P2 127 = 170141183460469231731687303715884105728 := by decide
theorem p128 : P2 128 = 340282366920938463463374607431768211456 := by decide
set_option maxHeartbeats 4000000 in
theorem Of_l0 {ah al : Int} (h1 : W64 ah) (h2 : W64 al) : ∀ (n i k : Nat) (d p : List Int), i + n = 128 → 2 * n + 700 ≤ k → Dg d → Dg p → d.length ≤ i + 1 → p.length ≤ i + 1 → val p = P2 i → val d = uval ah al % P2 i → (i = 128 → uval ah al < P2 127) →
  lorgnetteref01_Of.l0 k d p (i : Int) ah al = some (decide (sval ah al < 0), D (absI (sval ah al))) := by
 have hU : 0 ≤ uval ah al ∧ uval ah al < P2 128 := by
  rw [show P2 128 = 340282366920938463463374607431768211456 from by decide]; unfold uval W64 at *; omega
 have fa := sval_fits h1 h2
 have hsu : sval ah al = if ah < 9223372036854775808 then uval ah al else uval ah al - 340282366920938463463374607431768211456 := rfl
 have hneg : sval ah al < 0 ↔ ¬ uval ah al < P2 127 := by
  rw [p127, hsu]; clear hU fa; unfold uval W64 at *; split <;> omega
 intro n
 induction n with
 | zero =>
  intro i k d p hi hk hd hp hld hlp vp vd hlast
  obtain ⟨k, rfl⟩ : ∃ q, k = q + 1 := ⟨k - 1, by clear vd vp hlast hneg hsu hU; omega⟩
  have e : i = 128 := by clear vd vp hlast hneg hsu hU; omega
  have hlt := hlast e
  have c1 : d.length < k := by clear vd vp hlast hneg hsu hU hlt; omega
  have c2 : d.length < 4611686018427387904 := by clear vd vp hlast hneg hsu hU hlt; omega
  have c3 : ¬ (i : Int) < 128 := by clear vd vp hlast hneg hsu hU hlt; omega
  simp only [lorgnetteref01_Of.l0]
  rw [if_neg c3, trim_is k false d c2 c1, Option.bind_some]
  have hnn : ¬ sval ah al < 0 := fun h => hneg.1 h hlt
  rw [decide_eq_false hnn]
  have v1 : val (strip d) = sval ah al := by
   rw [strip_val, vd, e, Int.emod_eq_of_lt hU.1 hU.2, hsu]
   rw [p127] at hlt
   clear hneg hlast vd vp hU
   unfold uval W64 at *
   split <;> omega
  have v2 : absI (sval ah al) = sval ah al := if_neg hnn
  have v3 : D (absI (sval ah al)) = strip d := by
   rw [v2, ← v1]
   refine D_val (strip_can hd) ?_
   rw [v1]
   unfold fits at fa
   exact Int.le_trans (Int.le_of_lt fa.2) (by decide)
  rw [v3]
  rfl
 | succ n ih =>
  intro i k d p hi hk hd hp hld hlp vp vd hlast
  obtain ⟨k, rfl⟩ : ∃ q, k = q + 2 := ⟨k - 2, by clear vd vp hlast hneg hsu hU; omega⟩
  have i128 : i < 128 := by clear vd vp hlast hneg hsu hU; omega
  have ci : (i : Int) < 128 := by clear vd vp hlast hneg hsu hU; omega
  have s1 : i + 1 + n = 128 := by clear vd vp hlast hneg hsu hU; omega
  have s2 : 2 * n + 700 ≤ k := by clear vd vp hlast hneg hsu hU; omega
  have s3 : d.length < 100000 := by clear vd vp hlast hneg hsu hU; omega
  have s4 : p.length < 100000 := by clear vd vp hlast hneg hsu hU; omega
  have s5 : 2 * max p.length p.length + 4 ≤ k := by clear vd vp hlast hneg hsu hU; omega
  have s6 : 2 * max d.length p.length + 4 ≤ k := by clear vd vp hlast hneg hsu hU; omega
  have c5 : p.length + 1 ≤ k := by clear vd vp hlast hneg hsu hU; omega
  have s7 : (0 : Int) ≤ Int.tmod (i : Int) 64 := by clear vd vp hlast hneg hsu hU; rw [Int.tmod_eq_emod_of_nonneg (by omega)]; omega
  have w : wrap64 ((i : Int) + 1) = ((i + 1 : Nat) : Int) := by clear vd vp hlast hneg hsu hU; unfold wrap64; omega
  have b01 : uval ah al / P2 i % 2 = 0 ∨ uval ah al / P2 i % 2 = 1 := by
   generalize uval ah al / P2 i = q
   clear vd vp hlast hneg hsu hU
   omega
  have hm := mod2 (uval ah al) hU.1 i
  have main : lorgnetteref01_Of.j1 (k + 1) d p (i : Int) (if 64 ≤ i then ah else al) ah al = some (decide (sval ah al < 0), D (absI (sval ah al))) := by
   simp only [lorgnetteref01_Of.j1]
   rw [if_pos s7, bit_is h1 h2 i i128]
   obtain ⟨pp, q1, q2, q3, q4⟩ := plus_is k hp hp s4 s4 s5
   have vpp : val pp = P2 (i + 1) := by rw [q3, vp, P2_succ]; generalize P2 i = x; clear vd vp hlast hneg hsu hU hm q3 q1 b01; omega
   have lpp : pp.length ≤ i + 1 + 1 := Nat.le_trans q4 (Nat.succ_le_succ (by rw [Nat.max_self]; exact hlp))
   rcases b01 with b | b
   ·rw [b, if_neg (by decide), q1, Option.bind_some, w]
    rw [b, Int.mul_zero, Int.add_zero, ← vd] at hm
    have ld : d.length ≤ i + 1 + 1 := Nat.le_succ_of_le hld
    refine ih (i + 1) k d pp s1 s2 hd q2 ld lpp vpp hm.symm ?_
    intro e
    have e : i = 127 := Nat.succ.inj e
    subst e
    by_cases hx : uval ah al < P2 127
    ·exact hx
    ·exfalso
     have hq : uval ah al / P2 127 = 1 := by
      rw [p127] at hx ⊢
      rw [p128] at hU
      clear vd vp hlast hneg hsu hm q3 q1 vpp b
      omega
     rw [hq] at b
     exact absurd b (by decide)
   ·rw [b, if_pos rfl]
    rw [b, Int.mul_one, ← vd, ← vp] at hm
    by_cases h127 : (i : Int) = 127
    ·rw [if_pos h127]
     have e : i = 127 := by exact_mod_cast h127
     subst e
     have hge : ¬ uval ah al < P2 127 := by
      intro hx
      rw [Int.ediv_eq_zero_of_lt hU.1 hx] at b
      exact absurd b (by decide)
     have hn : sval ah al < 0 := hneg.2 hge
     have vd' : val d = uval ah al - 170141183460469231731687303715884105728 := by
      rw [vd, p127]; rw [p127] at hge; rw [p128] at hU
      clear vd vp hlast hneg hsu hm q3 q1 vpp b
      omega
     have vs : sval ah al = uval ah al - 340282366920938463463374607431768211456 := by
      rw [hsu]; rw [p127] at hge; rw [p128] at hU
      clear vd vp hlast hneg hsu hm q3 q1 vpp b vd' fa
      unfold uval W64 at *
      split <;> omega
     have hle : val d ≤ val p := by
      rw [vd', vp, p127]; rw [p128] at hU
      clear vd vp hlast hneg hsu hm q3 q1 vpp b vd' vs
      omega
     obtain ⟨m, m1, m2, m3, m4⟩ := dminus_is k hp hd s4 hle c5
     have c1 : m.length < k := by rw [m4]; exact c5
     have c2 : m.length < 4611686018427387904 := by rw [m4]; exact Nat.lt_trans s4 (by decide)
     rw [m1, Option.bind_some, trim_is k true m c2 c1, Option.bind_some]
     have v1 : val (strip m) = -sval ah al := by
      rw [strip_val, m3, vd', vp, p127, vs]
      generalize uval ah al = x
      clear vd vp hlast hneg hsu hU hm q3 q1 vpp b vd' vs hle m3 m1
      omega
     have v2 : absI (sval ah al) = -sval ah al := if_pos hn
     have v3 : D (absI (sval ah al)) = strip m := by
      rw [v2, ← v1]
      refine D_val (strip_can m2) ?_
      rw [v1]
      unfold fits at fa
      have f1 := fa.1
      clear vd vp hlast hneg hsu hU hm q3 q1 vpp b vd' vs hle m3 m1 v1
      generalize sval ah al = x at *
      omega
     have hne : strip m ≠ [] := by
      intro h0
      rw [h0] at v1
      have : (0 : Int) = -sval ah al := v1
      clear vd vp hlast hneg hsu hU hm q3 q1 vpp b vd' vs hle m3 m1 v1
      generalize sval ah al = x at *
      omega
     rw [v3, decide_eq_true hn, decide_eq_true hne]
     rfl
    ·rw [if_neg h127]
     obtain ⟨dd, t1, t2, t3, t4⟩ := plus_is k hd hp s3 s4 s6
     rw [t1, Option.bind_some, q1, Option.bind_some, w]
     have ldd : dd.length ≤ i + 1 + 1 := Nat.le_trans t4 (Nat.succ_le_succ (Nat.max_le.2 ⟨hld, hlp⟩))
     refine ih (i + 1) k dd pp s1 s2 t2 q2 ldd lpp vpp (by rw [t3, hm]) ?_
     intro e
     exact absurd (by rw [Nat.succ.inj e]; rfl) h127
  simp only [lorgnetteref01_Of.l0]
  rw [if_pos ci]
  by_cases h64 : 64 ≤ i
  ·have h64' : (i : Int) ≥ 64 := by exact_mod_cast h64
   rw [if_pos h64] at main
   rw [if_pos h64']
   exact main
  ·have h64' : ¬ (i : Int) ≥ 64 := fun h => h64 (by exact_mod_cast h)
   rw [if_neg h64] at main
   rw [if_neg h64']
   exact main
theorem dOf_is (k : Nat) (hk : 1000 ≤ k) {ah al : Int} (h1 : W64 ah) (h2 : W64 al) : lorgnetteref01_Of.f k ah al = some (decide (sval ah al < 0), D (absI (sval ah al))) := by
 refine Of_l0 h1 h2 128 0 k [] [1] (by decide) (by omega) Dg_nil (fun x hx => by rw [List.mem_singleton.1 hx]; decide) (by simp) (by simp) (by decide) ?_ (fun h => absurd h (by decide))
 rw [show P2 0 = 1 from rfl, Int.emod_one]
 rfl
end Go.Proofs.Ytjnaebcdidilgaa.Q
namespace Go.Proofs.Ytjnaebcdidilgaa.Q
open Go.RowKit Go.Proofs.YtjnaebcdidilgaaW.PrintWords Go.Proofs.YtjnaebcdidilgaaW.PrintLast Go.Proofs.YtjnaebcdidilgaaW.PrintMore
set_option linter.unusedVariables false

theorem bytes_append (a b : ByteArray) : bytesOf (a ++ b) = bytesOf a ++ bytesOf b := by
 unfold bytesOf
 rw [← List.map_append]
 congr 1
theorem digit_text : ∀ d : Fin 10, bytesOf ((⟨#[48, 49, 50, 51, 52, 53, 54, 55, 56, 57]⟩ : ByteArray).extract d.val (d.val + 1)) = [48 + (d.val : Int)] := by decide +kernel
theorem digit_is {d : Int} (h0 : 0 ≤ d) (h1 : d < 10) : bytesOf ((⟨#[48, 49, 50, 51, 52, 53, 54, 55, 56, 57]⟩ : ByteArray).extract d.toNat (wrap64 (d + 1)).toNat) = [48 + d] := by
 obtain ⟨n, rfl⟩ := Int.eq_ofNat_of_zero_le h0
 have hn : n < 10 := by omega
 have e : (wrap64 ((n : Int) + 1)).toNat = n + 1 := by unfold wrap64; omega
 rw [e, show ((n : Int)).toNat = n from by omega]
 exact digit_text ⟨n, hn⟩
theorem dPrint_l0 (neg : Bool) (ds : List Int) (hd : Dg ds) (hl : ds.length ≤ 1000) : ∀ (n i k : Nat) (s : ByteArray), i + n = ds.length → n + 1 ≤ k → bytesOf s = ((ds.take i).map (48 + ·)).reverse →
  ∃ r, lorgnetteref01_Print.l0 k s (i : Int) neg ds = some r ∧ bytesOf r = (if ds = [] then [48] else (if neg = true then [45] else []) ++ (ds.map (48 + ·)).reverse) := by
 intro n
 induction n with
 | zero =>
  intro i k s hi hk hs
  obtain ⟨k, rfl⟩ : ∃ q, k = q + 1 := ⟨k - 1, by omega⟩
  have e : i = ds.length := by omega
  subst e
  rw [List.take_length] at hs
  have hsz := bytes_len s
  rw [hs] at hsz
  simp only [List.length_reverse, List.length_map] at hsz
  simp only [lorgnetteref01_Print.l0]
  rw [if_neg (by omega)]
  by_cases h0 : ds = []
  ·subst h0
   have hz : s.toList = [] := by
    rw [ByteArray.toList_eq]
    unfold bytesOf at hs
    simpa using hs
   rw [if_pos hz]
   exact ⟨_, rfl, by rw [if_pos rfl]; decide +kernel⟩
  ·have hz : ¬ s.toList = [] := by
    rw [ByteArray.toList_eq]
    intro h
    unfold bytesOf at hs
    rw [h] at hs
    simp at hs
    exact h0 hs
   rw [if_neg hz, if_neg h0]
   cases neg
   ·rw [if_neg (by decide)]
    exact ⟨s, rfl, by rw [hs]; rfl⟩
   ·rw [if_pos rfl, if_pos (by omega)]
    refine ⟨_, rfl, ?_⟩
    rw [bytes_append, hs, if_pos rfl]
    congr 1
 | succ n ih =>
  intro i k s hi hk hs
  obtain ⟨k, rfl⟩ : ∃ q, k = q + 1 := ⟨k - 1, by omega⟩
  have r := rd_dg hd i
  have w : wrap64 ((i : Int) + 1) = ((i + 1 : Nat) : Int) := by unfold wrap64; omega
  have w2 : wrap64 (rd ds (i : Int) + 1) = rd ds (i : Int) + 1 := by unfold wrap64; omega
  have hx := digit_is r.1 r.2
  have hsz := bytes_len s
  rw [hs] at hsz
  simp only [List.length_reverse, List.length_map, List.length_take] at hsz
  have hxs := bytes_len ((⟨#[48, 49, 50, 51, 52, 53, 54, 55, 56, 57]⟩ : ByteArray).extract (rd ds (i : Int)).toNat (wrap64 (rd ds (i : Int) + 1)).toNat)
  rw [hx] at hxs
  simp only [List.length_cons, List.length_nil] at hxs
  simp only [lorgnetteref01_Print.l0]
  rw [if_pos (by omega), if_pos (by omega), if_pos r.1, if_pos (by rw [w2]; omega), if_pos (by rw [w2]; omega), if_pos (by omega), w]
  refine ih (i + 1) k _ (by omega) (by omega) ?_
  rw [bytes_append, hx, hs, take_succ_rd ds i (by omega)]
  simp
theorem dPrint_is (k : Nat) (hk : 1200 ≤ k) {neg : Bool} {ds : List Int} (h : CanN neg ds) (hl : ds.length ≤ 1000) : ∃ r, lorgnetteref01_Print.f k neg ds = some r ∧ bytesOf r = txt neg ds := by
 obtain ⟨r, h1, h2⟩ := dPrint_l0 neg ds (Can_dg h.1) hl ds.length 0 k ⟨#[]⟩ (by omega) (by omega) (by rw [List.take_zero]; decide +kernel)
 refine ⟨r, h1, ?_⟩
 rw [h2]
 unfold txt
 by_cases h0 : ds = []
 ·have hn : neg = false := by
   cases neg
   ·rfl
   ·exact absurd h0 (h.2 rfl)
  rw [if_pos h0, if_pos h0, hn]
  rfl
 ·rw [if_neg h0, if_neg h0]
/- the number of a text, read from its end -/
theorem dParse_l0 (s : ByteArray) (hs : s.size ≤ 1000) : ∀ (n k : Nat) (out : List Int), n ≤ s.size → n + 1002 ≤ k → out.length + n = s.size → out = (((bytesOf s).drop n).map (fun b => b - 48)).reverse → AllD ((bytesOf s).drop n) →
  lorgnetteref01_Parse.l0 k s out ((n : Int) - 1) = some (if AllD (bytesOf s) then (false, strip (((bytesOf s).map (fun b => b - 48)).reverse), true) else (false, [], false)) := by
 intro n
 induction n with
 | zero =>
  intro k out hn hk hlo ho ha
  obtain ⟨k, rfl⟩ : ∃ q, k = q + 1 := ⟨k - 1, by omega⟩
  rw [List.drop_zero] at ho ha
  simp only [lorgnetteref01_Parse.l0]
  rw [if_neg (by omega), trim_is k false out (by omega) (by omega), Option.bind_some, if_pos ha, ← ho]
  rfl
 | succ n ih =>
  intro k out hn hk hlo ho ha
  obtain ⟨k, rfl⟩ : ∃ q, k = q + 1 := ⟨k - 1, by omega⟩
  have e : ((n + 1 : Nat) : Int) - 1 = (n : Int) := by omega
  have w : wrap64 ((n : Int) - 1) = (n : Int) - 1 := by unfold wrap64; omega
  have hlen := bytes_len s
  have hnl : n < (bytesOf s).length := by omega
  have hb : rd (bytesOf s) (n : Int) = (bytesOf s)[n] := by
   unfold rd
   rw [List.getD_eq_getElem?_getD, show ((n : Int)).toNat = n from by omega, List.getElem?_eq_getElem hnl]
   rfl
  have hdrop : (bytesOf s).drop n = rd (bytesOf s) (n : Int) :: (bytesOf s).drop (n + 1) := by rw [hb, List.drop_eq_getElem_cons hnl]
  have hr := bytes_range s _ (List.getElem_mem hnl)
  rw [← hb] at hr
  have bad : ¬ (48 ≤ rd (bytesOf s) (n : Int) ∧ rd (bytesOf s) (n : Int) ≤ 57) → ¬ AllD (bytesOf s) := by
   intro h hall
   refine h (hall _ ?_)
   rw [hb]
   exact List.getElem_mem hnl
  rw [e]
  simp only [lorgnetteref01_Parse.l0]
  rw [if_pos (by omega), if_pos (by omega), if_pos (by omega), ← rd_bytes]
  by_cases c1 : rd (bytesOf s) (n : Int) < 48
  ·rw [if_pos c1, if_neg (bad (by omega))]
  ·rw [if_neg c1]
   by_cases c2 : rd (bytesOf s) (n : Int) > 57
   ·rw [if_pos c2, if_neg (bad (by omega))]
   ·rw [if_neg c2, if_pos (by omega), w]
    refine ih k _ (by omega) (by omega) (by simp only [List.length_append, List.length_cons, List.length_nil]; omega) ?_ ?_
    ·rw [hdrop, List.map_cons, List.reverse_cons, ← ho, show (rd (bytesOf s) (n : Int) - 48) % 256 = rd (bytesOf s) (n : Int) - 48 from by omega]
    ·rw [hdrop]
     intro x hx
     rcases List.mem_cons.1 hx with rfl | hx
     ·omega
     ·exact ha x hx
theorem val_rev : ∀ (l : List Int) (v : Int), pv v l = val ((l.map (fun b => b - 48)).reverse) + v * P10 l.length
 | [], v => by simp [pv, val, P10]
 | b :: r, v => by
  have ih := val_rev r (v * 10 + (b - 48))
  show pv (v * 10 + (b - 48)) r = _
  rw [ih, List.map_cons, List.reverse_cons, val_snoc, List.length_reverse, List.length_map, List.length_cons, P10_succ, Int.add_mul]
  rw [Int.mul_comm (P10 r.length) (b - 48), Int.mul_assoc v 10, Int.mul_comm 10 (P10 r.length)]
  omega
theorem dParse_is (k : Nat) (s : ByteArray) (hs : s.size ≤ 1000) (hk : 4000 ≤ k) : ∃ ds, lorgnetteref01_Parse.f k s = some (false, ds, decide (Form (bytesOf s))) ∧ Can ds ∧ ds.length ≤ s.size ∧ (Form (bytesOf s) → val ds = pv 0 (bytesOf s)) := by
 obtain ⟨k, rfl⟩ : ∃ q, k = q + 1 := ⟨k - 1, by omega⟩
 have hl := bytes_len s
 have hempty : s.toList = [] ↔ bytesOf s = [] := by
  rw [ByteArray.toList_eq]
  unfold bytesOf
  simp
 have bad : ¬ Form (bytesOf s) → ∃ ds, lorgnetteref01_Parse.j0 (k + 1) s true false = some (false, ds, decide (Form (bytesOf s))) ∧ Can ds ∧ ds.length ≤ s.size ∧ (Form (bytesOf s) → val ds = pv 0 (bytesOf s)) := by
  intro h
  refine ⟨[], ?_, trivial, by simp, fun h' => absurd h' h⟩
  simp only [lorgnetteref01_Parse.j0, if_true]
  rw [decide_eq_false h]
 have main : ¬ (1 < (bytesOf s).length ∧ rd (bytesOf s) 0 = 48) → bytesOf s ≠ [] → ∃ ds, lorgnetteref01_Parse.j0 (k + 1) s false false = some (false, ds, decide (Form (bytesOf s))) ∧ Can ds ∧ ds.length ≤ s.size ∧ (Form (bytesOf s) → val ds = pv 0 (bytesOf s)) := by
  intro h1 h2
  have w : wrap64 ((s.size : Int) - 1) = (s.size : Int) - 1 := by unfold wrap64; omega
  have hp := dParse_l0 s hs s.size k [] (Nat.le_refl _) (by omega) (by simp) (by rw [List.drop_of_length_le (by omega)]; rfl) (by rw [List.drop_of_length_le (by omega)]; exact fun x hx => absurd hx (by simp))
  simp only [lorgnetteref01_Parse.j0]
  rw [if_neg (by decide), w, hp]
  by_cases ha : AllD (bytesOf s)
  ·have hf : Form (bytesOf s) := ⟨h2, h1, ha⟩
   have hdg : Dg (((bytesOf s).map (fun b => b - 48)).reverse) := by
    intro x hx
    simp only [List.mem_reverse, List.mem_map] at hx
    obtain ⟨y, hy, rfl⟩ := hx
    have := ha y hy
    omega
   rw [if_pos ha, decide_eq_true hf]
   refine ⟨_, rfl, strip_can hdg, ?_, fun _ => ?_⟩
   ·have := strip_len (((bytesOf s).map (fun b => b - 48)).reverse)
    simp only [List.length_reverse, List.length_map] at this
    omega
   ·rw [strip_val, val_rev, Int.zero_mul, Int.add_zero]
  ·have hf : ¬ Form (bytesOf s) := fun h => ha h.2.2
   rw [if_neg ha, decide_eq_false hf]
   exact ⟨[], rfl, trivial, by simp, fun h' => absurd h' hf⟩
 unfold lorgnetteref01_Parse.f
 by_cases he : s.toList = []
 ·rw [if_pos he]
  exact bad (fun h => h.1 (hempty.1 he))
 ·rw [if_neg he]
  have hne : bytesOf s ≠ [] := fun h => he (hempty.2 h)
  have hpos : 0 < s.size := by rw [← hl]; exact List.length_pos_iff.2 hne
  by_cases h1 : (s.size : Int) > 1
  ·rw [if_pos h1, if_pos (by omega), ← rd_bytes]
   by_cases h2 : rd (bytesOf s) 0 = 48
   ·rw [show (rd (bytesOf s) 0 == 48) = true from by rw [h2]; rfl]
    exact bad (fun h => h.2.1 ⟨by omega, h2⟩)
   ·rw [show (rd (bytesOf s) 0 == 48) = false from by simp [h2]]
    exact main (fun h => h2 h.2) hne
  ·rw [if_neg h1]
   exact main (fun h => by omega) hne
end Go.Proofs.Ytjnaebcdidilgaa.Q
namespace Go.Proofs.Ytjnaebcdidilgaa.Q
open Go.RowKit Go.Proofs.YtjnaebcdidilgaaW.PrintWords Go.Proofs.YtjnaebcdidilgaaW.PrintLast Go.Proofs.YtjnaebcdidilgaaW.PrintMore
set_option linter.unusedVariables false

theorem rd_set (l : List Int) (i : Nat) (v : Int) (h : i < l.length) : rd (l.set i v) (i : Int) = v := by
 unfold rd
 rw [List.getD_eq_getElem?_getD, show ((i : Int)).toNat = i from by omega, List.getElem?_set_self h]
 rfl
theorem drop_set (l : List Int) (i : Nat) (v : Int) : (l.set i v).drop (i + 1) = l.drop (i + 1) := by
 rw [List.drop_set_of_lt (Nat.lt_succ_self i)]
theorem len_can {l : List Int} {m : Nat} (h : Can l) (hv : val l < P10 m) : l.length ≤ m := by
 have low : ∀ {l : List Int}, Can l → l ≠ [] → P10 (l.length - 1) ≤ val l := by
  intro l
  induction l with
  | nil => intro _ h; exact absurd rfl h
  | cons d r ih =>
   intro hc _
   by_cases hr : r = []
   ·subst hr
    have h1 := hc.1
    have h2 := hc.2.1 rfl
    show P10 0 ≤ d + 10 * val []
    rw [P10_zero]
    simp only [val]
    omega
   ·have hi := ih hc.2.2 hr
    have h1 := hc.1
    have hl : r.length = (r.length - 1) + 1 := by have := List.length_pos_iff.2 hr; omega
    show P10 (r.length + 1 - 1) ≤ d + 10 * val r
    rw [Nat.add_sub_cancel, hl, P10_succ]
    generalize P10 (r.length - 1) = x at *
    generalize val r = y at *
    omega
 by_cases h0 : l = []
 ·rw [h0]; exact Nat.zero_le _
 ·by_cases hm : l.length ≤ m
  ·exact hm
  ·exfalso
   have h1 := low h h0
   have h2 : P10 m ≤ P10 (l.length - 1) := P10_mono (by omega)
   omega
theorem Quo_l1 (a b : List Int) (na nb : Bool) (hb : Dg b) (hlb : b.length ≤ 1000) (i : Nat) : ∀ (c k : Nat) (q rest : List Int), Can rest → rest.length ≤ 1000 → i < q.length → (∀ x ∈ q, 0 ≤ x ∧ x < 1000) → rd q (i : Int) + c ≤ 500 → val rest < (c : Int) * val b → c + 1300 ≤ k →
  ∃ (k' : Nat) (t : Int) (rest' : List Int), lorgnetteref01_Quo.l1 k q rest (i : Int) na a nb b = lorgnetteref01_Quo.l0 k' (q.set i (rd q (i : Int) + t)) rest' (wrap64 ((i : Int) - 1)) na a nb b ∧ k ≤ k' + c + 1 ∧ 0 ≤ t ∧ t ≤ c ∧ Can rest' ∧ rest'.length ≤ 1000 ∧ val rest' < val b ∧ val rest = t * val b + val rest' := by
 intro c
 induction c with
 | zero =>
  intro k q rest hc hl hq hqd hqc hlt hk
  have := val_nonneg (Can_dg hc)
  rw [show ((0 : Nat) : Int) = 0 from rfl, Int.zero_mul] at hlt
  exact absurd hlt (Int.not_lt.2 this)
 | succ c ih =>
  intro k q rest hc hl hq hqd hqc hlt hk
  obtain ⟨k, rfl⟩ : ∃ z, k = z + 1 := ⟨k - 1, by omega⟩
  have s1 : rest.length < 100000 := Nat.lt_of_le_of_lt hl (by decide)
  have s2 : b.length < 100000 := Nat.lt_of_le_of_lt hlb (by decide)
  have s3 : max rest.length b.length + 1 ≤ k := by clear hlt hqc hqd ih; omega
  have s4 : rest.length + 1 ≤ k := by clear hlt hqc hqd ih; omega
  have s5 : c + 1300 ≤ k := by clear hlt hqc hqd ih; omega
  simp only [lorgnetteref01_Quo.l1]
  rw [more_is k (Can_dg hc) hb s1 s2 s3, Option.bind_some]
  by_cases hge : val b ≤ val rest
  ·have hcm : cmpI (val rest) (val b) ≥ 0 := by
    unfold cmpI
    rw [if_neg (Int.not_lt.2 hge)]
    split <;> decide
   obtain ⟨m, m1, m2, m3, m4⟩ := dminus_is k (Can_dg hc) hb s1 hge s4
   have t1 : m.length < 4611686018427387904 := by rw [m4]; exact Nat.lt_trans s1 (by decide)
   have t2 : m.length < k := by rw [m4]; exact s4
   have hqi : 0 ≤ rd q (i : Int) ∧ rd q (i : Int) < 1000 := by
    unfold rd
    rw [List.getD_eq_getElem?_getD, show ((i : Int)).toNat = i from by omega, List.getElem?_eq_getElem hq]
    exact hqd _ (List.getElem_mem hq)
   have w : wrap64 (rd q (i : Int) + 1) = rd q (i : Int) + 1 := by
    generalize rd q (i : Int) = x at *
    clear hlt hqd ih m3 m1 hge hcm
    unfold wrap64; omega
   have hil : (i : Int) < (q.length : Int) := Int.ofNat_lt.2 hq
   rw [if_pos hcm, m1, Option.bind_some, trim_is k false m t1 t2, Option.bind_some, if_pos (Int.natCast_nonneg i), if_pos hil, w, show ((i : Int)).toNat = i from by omega]
   have v1 : val (strip m) = val rest - val b := by rw [strip_val, m3]
   have l1 : (strip m).length ≤ 1000 := Nat.le_trans (strip_len m) (by rw [m4]; exact hl)
   have q1 : i < (q.set i (rd q (i : Int) + 1)).length := by rw [List.length_set]; exact hq
   have q2 : ∀ x ∈ q.set i (rd q (i : Int) + 1), 0 ≤ x ∧ x < 1000 := by
    intro x hx
    rcases List.mem_or_eq_of_mem_set hx with hx | hx
    ·exact hqd x hx
    ·rw [hx]
     generalize rd q (i : Int) = y at *
     clear hlt hqd ih m3 m1 hge hcm v1
     omega
   have q3 : rd (q.set i (rd q (i : Int) + 1)) (i : Int) + (c : Int) ≤ 500 := by
    rw [rd_set q i _ hq]
    generalize rd q (i : Int) = y at *
    clear hlt hqd ih m3 m1 hge hcm v1 q2
    omega
   have q4 : val (strip m) < (c : Int) * val b := by
    rw [v1]
    rw [show ((c + 1 : Nat) : Int) = (c : Int) + 1 from rfl, Int.add_mul, Int.one_mul] at hlt
    generalize (c : Int) * val b = z at *
    generalize val b = y at *
    generalize val rest = x at *
    clear hqd ih m3 m1 hcm v1 q2 q3 hqc
    omega
   obtain ⟨k', t, rest', e1, e2, e3, e4, e5, e6, e7, e8⟩ := ih k _ (strip m) (strip_can m2) l1 q1 q2 q3 q4 s5
   refine ⟨k', t + 1, rest', ?_, by omega, by omega, by omega, e5, e6, e7, ?_⟩
   ·rw [e1, rd_set q i _ hq, List.set_set, Int.add_assoc, Int.add_comm 1 t]
   ·rw [Int.add_mul, Int.one_mul]
    rw [v1] at e8
    generalize t * val b = z at *
    generalize val b = y at *
    generalize val rest = x at *
    generalize val rest' = x' at *
    clear hqd ih m3 m1 hcm v1 q2 q3 hqc hlt q4 e1
    omega
  ·have hcm : ¬ cmpI (val rest) (val b) ≥ 0 := by
    unfold cmpI
    rw [if_pos (Int.not_le.1 hge)]
    decide
   rw [if_neg hcm]
   refine ⟨k, 0, rest, ?_, by omega, by omega, by omega, hc, hl, Int.not_le.1 hge, by rw [Int.zero_mul, Int.zero_add]⟩
   congr 1
   rw [Int.add_zero]
   unfold rd
   rw [List.getD_eq_getElem?_getD, show ((i : Int)).toNat = i from by omega, List.getElem?_eq_getElem hq]
   exact (List.set_getElem_self hq).symm
theorem Quo_l0 (a b : List Int) (na nb : Bool) (ha : Dg a) (hla : a.length ≤ 999) (hb : Dg b) (hlb : b.length ≤ 999) (hbv : 0 < val b) : ∀ (n k : Nat) (q rest : List Int), n ≤ a.length → q.length = a.length → Dg q → (∀ j : Nat, j < n → rd q (j : Int) = 0) → Can rest → val rest < val b →
  val (a.drop n) = val (q.drop n) * val b + val rest → n * 12 + 1400 ≤ k →
  ∃ q' rest', lorgnetteref01_Quo.l0 k q rest ((n : Int) - 1) na a nb b = some (((na != nb) && decide (strip q' ≠ [])), strip q', (na && decide (strip rest' ≠ [])), strip rest') ∧ Dg q' ∧ q'.length = a.length ∧ Can rest' ∧ val rest' < val b ∧ val a = val q' * val b + val rest' := by
 intro n
 induction n with
 | zero =>
  intro k q rest hn hql hq hz hc hlt hv hk
  obtain ⟨k, rfl⟩ : ∃ z, k = z + 1 := ⟨k - 1, by omega⟩
  have lr : rest.length ≤ b.length := len_can hc (Int.lt_trans hlt (val_ltP hb))
  have t1 : q.length < 4611686018427387904 := by rw [hql]; exact Nat.lt_of_le_of_lt hla (by decide)
  have t2 : q.length < k := by rw [hql]; clear hv hlt hz; omega
  have t3 : rest.length < 4611686018427387904 := Nat.lt_of_le_of_lt (Nat.le_trans lr hlb) (by decide)
  have t4 : rest.length < k := by clear hv hlt hz; omega
  refine ⟨q, rest, ?_, hq, hql, hc, hlt, ?_⟩
  ·simp only [lorgnetteref01_Quo.l0]
   rw [if_neg (by decide), trim_is k _ q t1 t2, Option.bind_some, trim_is k _ rest t3 t4, Option.bind_some]
  ·rw [List.drop_zero, List.drop_zero] at hv
   exact hv
 | succ n ih =>
  intro k q rest hn hql hq hz hc hlt hv hk
  obtain ⟨k, rfl⟩ : ∃ z, k = z + 1 := ⟨k - 1, by omega⟩
  have lr : rest.length ≤ b.length := len_can hc (Int.lt_trans hlt (val_ltP hb))
  have e : ((n + 1 : Nat) : Int) - 1 = (n : Int) := by clear hv hlt hz; omega
  have hna : n < a.length := hn
  have hnq : n < q.length := by rw [hql]; exact hn
  have ra := rd_dg ha n
  have y1 : ([rd a (n : Int)] : List Int).length + rest.length < 17592186044416 := Nat.lt_of_le_of_lt (Nat.add_le_add_left (Nat.le_trans lr hlb) 1) (by decide)
  have dl : Dg (rd a (n : Int) :: rest) := by
   intro x hx
   rcases List.mem_cons.1 hx with rfl | hx
   ·exact ra
   ·exact Can_dg hc x hx
  have u1 : (rd a (n : Int) :: rest).length ≤ 1000 := Nat.succ_le_succ (Nat.le_trans lr hlb)
  have u2 : (rd a (n : Int) :: rest).length < 4611686018427387904 := Nat.lt_of_le_of_lt u1 (by decide)
  have u3 : (rd a (n : Int) :: rest).length < k := by clear hv hlt hz; omega
  have v1 : val (strip (rd a (n : Int) :: rest)) = rd a (n : Int) + 10 * val rest := by rw [strip_val]; rfl
  have v2 : val (strip (rd a (n : Int) :: rest)) < ((10 : Nat) : Int) * val b := by
   rw [v1]
   generalize val rest = x at *
   generalize val b = y at *
   generalize rd a (n : Int) = z at *
   clear hv hz v1 ih
   omega
  have hq0 := hz n (Nat.lt_succ_self n)
  have b1 : rd q (n : Int) + ((10 : Nat) : Int) ≤ 500 := by rw [hq0]; decide
  have hqd : ∀ x ∈ q, 0 ≤ x ∧ x < 1000 := fun x hx => ⟨(hq x hx).1, Int.lt_trans (hq x hx).2 (by decide)⟩
  have f1 : 10 + 1300 ≤ k := by clear hv hlt hz; omega
  obtain ⟨k', t, rest', e1, e2, e3, e4, e5, e6, e7, e8⟩ := Quo_l1 a b na nb hb (Nat.le_trans hlb (by decide)) n 10 k q _ (strip_can dl) (Nat.le_trans (strip_len _) u1) hnq hqd b1 v2 f1
  have ht10 : t < 10 := by
   by_cases h : t = 10
   ·exfalso
    rw [h] at e8
    have n0 := val_nonneg (Can_dg e5)
    generalize val (strip (rd a (n : Int) :: rest)) = x at *
    generalize val b = y at *
    generalize val rest' = z at *
    clear hv hz v1 ih e1 hlt
    omega
   ·clear hv hz v1 ih e1 hlt v2 e8
    omega
  have w : wrap64 ((n : Int) - 1) = (n : Int) - 1 := by clear hv hlt hz v1 v2 e8 e1 ih; unfold wrap64; omega
  have f2 : n * 12 + 1400 ≤ k' := by clear hv hlt hz v1 v2 e8 e1 ih; omega
  have hq' : Dg (q.set n (rd q (n : Int) + t)) := by
   intro x hx
   rcases List.mem_or_eq_of_mem_set hx with hx | hx
   ·exact hq x hx
   ·rw [hx, hq0]
    clear hv hlt hz v1 v2 e8 e1 ih
    omega
  have hz' : ∀ j : Nat, j < n → rd (q.set n (rd q (n : Int) + t)) (j : Int) = 0 := by
   intro j hj
   have := hz j (Nat.lt_succ_of_lt hj)
   unfold rd at this ⊢
   rw [List.getD_eq_getElem?_getD, show ((j : Int)).toNat = j from by omega] at this ⊢
   rw [List.getElem?_set_ne (Nat.ne_of_gt hj)]
   exact this
  have hv' : val (a.drop n) = val ((q.set n (rd q (n : Int) + t)).drop n) * val b + val rest' := by
   rw [val_drop a n, val_drop _ n, rd_set q n _ hnq, drop_set, hq0, hv, Int.zero_add, Int.add_mul, Int.mul_assoc]
   rw [v1] at e8
   generalize val (q.drop (n + 1)) * val b = x at *
   generalize t * val b = y at *
   generalize val rest = z at *
   generalize val rest' = z' at *
   generalize rd a (n : Int) = d at *
   clear hlt hz v1 v2 e1 ih hv hz' hq'
   omega
  obtain ⟨q2, rest2, g1, g2, g3, g4, g5, g6⟩ := ih k' _ rest' (Nat.le_of_lt hn) (by rw [List.length_set]; exact hql) hq' hz' e5 e7 hv' f2
  refine ⟨q2, rest2, ?_, g2, g3, g4, g5, g6⟩
  rw [e]
  simp only [lorgnetteref01_Quo.l0]
  rw [if_pos (Int.natCast_nonneg n), if_pos (Int.natCast_nonneg n), if_pos (Int.ofNat_lt.2 hna), Option.bind_some, if_pos y1]
  show (lorgnetteref01_trim.f k false (rd a (n : Int) :: rest)).bind _ = _
  rw [trim_is k false _ u2 u3, Option.bind_some, e1, w]
  exact g1
theorem dQuo_is (k : Nat) (hk : 14000 ≤ k) {a b : List Int} (na nb : Bool) (ha : Dg a) (hla : a.length ≤ 999) (hb : Dg b) (hlb : b.length ≤ 999) (hbv : 0 < val b) :
  ∃ q r, lorgnetteref01_Quo.f k na a nb b = some (((na != nb) && decide (q ≠ [])), q, (na && decide (r ≠ [])), r) ∧ Can q ∧ Can r ∧ val q = val a / val b ∧ val r = val a % val b ∧ q.length ≤ a.length ∧ r.length ≤ b.length := by
 have f1 : a.length * 12 + 1400 ≤ k := by omega
 have hd : ∀ n : Nat, Dg (List.replicate n 0) := fun n x hx => by rw [List.eq_of_mem_replicate hx]; decide
 have v0 : val (a.drop a.length) = val ((List.replicate a.length (0 : Int)).drop a.length) * val b + val [] := by
  rw [List.drop_length, List.drop_of_length_le (by rw [List.length_replicate]; exact Nat.le_refl _)]
  simp [val]
 have z0 : ∀ j : Nat, j < a.length → rd (List.replicate a.length 0) (j : Int) = 0 := by
  intro j hj
  unfold rd
  rw [List.getD_eq_getElem?_getD, List.getElem?_replicate]
  split <;> rfl
 obtain ⟨q, r, g1, g2, g3, g4, g5, g6⟩ := Quo_l0 a b na nb ha hla hb hlb hbv a.length k (List.replicate a.length 0) [] (Nat.le_refl _) (List.length_replicate ..) (hd _) z0 trivial hbv v0 f1
 refine ⟨strip q, strip r, ?_, strip_can g2, strip_can (Can_dg g4), ?_, ?_, ?_, ?_⟩
 ·unfold lorgnetteref01_Quo.f
  have w : wrap64 ((a.length : Int) - 1) = (a.length : Int) - 1 := by clear g6 v0 g5 z0; unfold wrap64; omega
  rw [if_pos (Int.natCast_nonneg _), show ((a.length : Int)).toNat = a.length from by omega, if_pos (Nat.le_trans hla (by decide)), w]
  exact g1
 ·have n0 := val_nonneg (Can_dg g4)
  rw [strip_val, g6, Int.add_comm, Int.add_mul_ediv_right _ _ (by exact Int.ne_of_gt hbv), Int.ediv_eq_zero_of_lt n0 g5, Int.zero_add]
 ·have n0 := val_nonneg (Can_dg g4)
  rw [strip_val, g6, Int.add_comm, Int.add_mul_emod_self_right, Int.emod_eq_of_lt n0 g5]
 ·rw [← g3]; exact strip_len q
 ·exact Nat.le_trans (strip_len r) (len_can g4 (Int.lt_trans g5 (val_ltP hb)))
end Go.Proofs.Ytjnaebcdidilgaa.Q
namespace Go.Proofs.Ytjnaebcdidilgaa.Q
open Go.RowKit Go.Proofs.YtjnaebcdidilgaaW.PrintWords Go.Proofs.YtjnaebcdidilgaaW.PrintLast Go.Proofs.YtjnaebcdidilgaaW.PrintMore
set_option linter.unusedVariables false

theorem bor_comm (x y : Int) : Go.bits .or .u64 x y = Go.bits .or .u64 y x := by
 simp only [Go.bits, BitVec.or_comm]
theorem P2_64 : P2 64 = 18446744073709551616 := by decide
theorem P2_le {i j : Nat} (h : i ≤ j) : P2 i ≤ P2 j := by
 have h : (2 : Nat) ^ i ≤ 2 ^ j := Nat.pow_le_pow_right (by decide) h
 unfold P2
 exact_mod_cast h
theorem set_bit (x : Int) (i : Nat) (hi : i < 64) (h0 : 0 ≤ x) (h1 : x < P2 i) : Go.bits .or .u64 x (shl .u64 1 (i : Int)) = x + P2 i := by
 have hle : P2 i ≤ P2 63 := P2_le (by omega)
 have h63 : P2 63 = 9223372036854775808 := by decide
 rw [h63] at hle
 have hp := P2_pos i
 rw [shl64 i hi, bor_comm]
 have e : (2 : Int) ^ i = P2 i := rfl
 rw [e]
 have w1 : W64 (P2 i) := by unfold W64; generalize P2 i = z at *; omega
 have w2 : W64 x := by unfold W64; generalize P2 i = z at *; omega
 rw [or_join i w1 w2 (by rw [e]; exact Int.emod_self) (by rw [e]; exact h1), Int.add_comm]
/- one round: the last bit, and the half -/
theorem half (k : Nat) (hk : 14000 ≤ k) {d : List Int} (hd : Dg d) (hl : d.length ≤ 999) :
  ∃ q r, (lorgnetteref01_trim.f k false d).bind (fun bt => lorgnetteref01_Quo.f k bt.1 bt.2 false [2]) = some (false, q, false, r) ∧ Can q ∧ q.length ≤ 999 ∧ val q = val d / 2 ∧ ((r.length : Int) > 0 ↔ val d % 2 = 1) := by
 have t1 : d.length < 4611686018427387904 := Nat.lt_of_le_of_lt hl (by decide)
 have t2 : d.length < k := by omega
 have l2 : (strip d).length ≤ 999 := Nat.le_trans (strip_len d) hl
 have hb : Dg [2] := fun x hx => by rw [List.mem_singleton.1 hx]; decide
 have v2 : val [2] = 2 := rfl
 obtain ⟨q, r, e, cq, cr, vq, vr, lq, lr⟩ := dQuo_is k hk false false (Can_dg (strip_can hd)) l2 hb (by decide) (by rw [v2]; decide)
 refine ⟨q, r, ?_, cq, Nat.le_trans lq l2, ?_, ?_⟩
 ·rw [trim_is k false d t1 t2, Option.bind_some]
  show lorgnetteref01_Quo.f k false (strip d) false [2] = _
  rw [e]
  rfl
 ·rw [vq, strip_val, v2]
 ·rw [strip_val, v2] at vr
  constructor
  ·intro h
   have hne : r ≠ [] := by intro h0; rw [h0] at h; exact absurd h (by decide)
   have := can_pos cr hne
   clear e vq
   generalize val d = x at *
   omega
  ·intro h
   have hne : r ≠ [] := by
    intro h0
    rw [h0] at vr
    have : (0 : Int) = val d % 2 := vr
    rw [← this] at h
    exact absurd h (by decide)
   exact Int.ofNat_lt.2 (List.length_pos_iff.2 hne)
theorem half_div (V : Int) (i : Nat) : V / P2 i / 2 = V / P2 (i + 1) := by
 rw [P2_succ, Int.ediv_ediv_of_nonneg (Int.le_of_lt (P2_pos i))]
theorem P2_add (i j : Nat) : P2 (i + j) = P2 i * P2 j := Int.pow_add ..
theorem Bits_hi (V : Int) (hV : 0 ≤ V) : ∀ (n j k : Nat) (d : List Int) (hi lo : Int), j + n = 64 → n + 14000 ≤ k → Dg d → d.length ≤ 999 → val d = V / P2 (64 + j) → hi = V / P2 64 % P2 j →
  ∃ h, lorgnetteref01_Bits.l0 k d [2] ((64 + j : Nat) : Int) hi lo = some (h, lo) ∧ h = V / P2 64 % P2 64 := by
 intro n
 induction n with
 | zero =>
  intro j k d hi lo hj hk hd hl hv hh
  obtain ⟨k, rfl⟩ : ∃ z, k = z + 1 := ⟨k - 1, by clear hv hh; omega⟩
  have e : j = 64 := hj
  subst e
  refine ⟨hi, ?_, hh⟩
  simp only [lorgnetteref01_Bits.l0]
  rw [if_neg (by decide)]
 | succ n ih =>
  intro j k d hi lo hj hk hd hl hv hh
  obtain ⟨k, rfl⟩ : ∃ z, k = z + 1 := ⟨k - 1, by clear hv hh; omega⟩
  have c1 : ((64 + j : Nat) : Int) < 128 := by clear hv hh; omega
  have c2 : ¬ ((64 + j : Nat) : Int) < 64 := by clear hv hh; omega
  have w : wrap64 (((64 + j : Nat) : Int) + 1) = ((64 + (j + 1) : Nat) : Int) := by clear hv hh; unfold wrap64; omega
  have w2 : wrap64 (((64 + j : Nat) : Int) - 64) = (j : Int) := by clear hv hh; unfold wrap64; omega
  have s1 : j + 1 + n = 64 := by clear hv hh; omega
  have s2 : n + 14000 ≤ k := by clear hv hh; omega
  have s3 : 14000 ≤ k := by clear hv hh; omega
  have j64 : j < 64 := by clear hv hh; omega
  obtain ⟨q, r, e, cq, lq, vq, hr⟩ := half k s3 hd hl
  have vq' : val q = V / P2 (64 + (j + 1)) := by rw [vq, hv, half_div]; rfl
  have hb : val d % 2 = V / P2 64 / P2 j % 2 := by rw [hv, P2_add, Int.ediv_ediv_of_nonneg (Int.le_of_lt (P2_pos 64))]
  have hm := mod2 (V / P2 64) (Int.ediv_nonneg hV (Int.le_of_lt (P2_pos 64))) j
  rw [← hb, ← hh] at hm
  have b01 : val d % 2 = 0 ∨ val d % 2 = 1 := by generalize val d = x; omega
  have hh0 : 0 ≤ hi ∧ hi < P2 j := by rw [hh]; exact ⟨Int.emod_nonneg _ (Int.ne_of_gt (P2_pos j)), Int.emod_lt_of_pos _ (P2_pos j)⟩
  simp only [lorgnetteref01_Bits.l0]
  rw [if_pos c1, w, w2]
  rw [show ∀ (g : Bool × List Int × Bool × List Int → Option (Int × Int)), ((lorgnetteref01_trim.f k false d).bind fun bt => (lorgnetteref01_Quo.f k bt.1 bt.2 false [2]).bind g) = g (false, q, false, r) from fun g => by rw [← Option.bind_assoc, e, Option.bind_some]]
  simp only
  rcases b01 with b | b
  ·have hr' : ¬ (r.length : Int) > 0 := fun h => by rw [hr.1 h] at b; exact absurd b (by decide)
   rw [if_neg hr']
   rw [b, Int.mul_zero, Int.add_zero] at hm
   exact ih (j + 1) k q hi lo s1 s2 (Can_dg cq) lq vq' hm.symm
  ·rw [if_pos (hr.2 b), if_neg c2, if_pos (Int.natCast_nonneg j), set_bit hi j j64 hh0.1 hh0.2]
   rw [b, Int.mul_one] at hm
   exact ih (j + 1) k q _ lo s1 s2 (Can_dg cq) lq vq' hm.symm
theorem Bits_lo (V : Int) (hV : 0 ≤ V) : ∀ (n i k : Nat) (d : List Int) (lo : Int), i + n = 64 → n + 14100 ≤ k → Dg d → d.length ≤ 999 → val d = V / P2 i → lo = V % P2 i →
  lorgnetteref01_Bits.l0 k d [2] (i : Int) 0 lo = some (V / P2 64 % P2 64, V % P2 64) := by
 intro n
 induction n with
 | zero =>
  intro i k d lo hi hk hd hl hv hh
  have e : i = 64 := hi
  subst e
  have s : 64 + 14000 ≤ k := by clear hv hh; omega
  obtain ⟨h, h1, h2⟩ := Bits_hi V hV 64 0 k d 0 lo (by decide) s hd hl hv (by rw [show P2 0 = 1 from rfl, Int.emod_one])
  rw [show ((64 : Nat) : Int) = ((64 + 0 : Nat) : Int) from rfl, h1, h2, hh]
 | succ n ih =>
  intro i k d lo hi hk hd hl hv hh
  obtain ⟨k, rfl⟩ : ∃ z, k = z + 1 := ⟨k - 1, by clear hv hh; omega⟩
  have c1 : (i : Int) < 128 := by clear hv hh; omega
  have c2 : (i : Int) < 64 := by clear hv hh; omega
  have w : wrap64 ((i : Int) + 1) = ((i + 1 : Nat) : Int) := by clear hv hh; unfold wrap64; omega
  have s1 : i + 1 + n = 64 := by clear hv hh; omega
  have s2 : n + 14100 ≤ k := by clear hv hh; omega
  have s3 : 14000 ≤ k := by clear hv hh; omega
  have i64 : i < 64 := by clear hv hh; omega
  obtain ⟨q, r, e, cq, lq, vq, hr⟩ := half k s3 hd hl
  have vq' : val q = V / P2 (i + 1) := by rw [vq, hv, half_div]
  have hm := mod2 V hV i
  rw [← hv, ← hh] at hm
  have b01 : val d % 2 = 0 ∨ val d % 2 = 1 := by generalize val d = x; omega
  have hh0 : 0 ≤ lo ∧ lo < P2 i := by rw [hh]; exact ⟨Int.emod_nonneg _ (Int.ne_of_gt (P2_pos i)), Int.emod_lt_of_pos _ (P2_pos i)⟩
  simp only [lorgnetteref01_Bits.l0]
  rw [if_pos c1, w]
  rw [show ∀ (g : Bool × List Int × Bool × List Int → Option (Int × Int)), ((lorgnetteref01_trim.f k false d).bind fun bt => (lorgnetteref01_Quo.f k bt.1 bt.2 false [2]).bind g) = g (false, q, false, r) from fun g => by rw [← Option.bind_assoc, e, Option.bind_some]]
  simp only
  rcases b01 with b | b
  ·have hr' : ¬ (r.length : Int) > 0 := fun h => by rw [hr.1 h] at b; exact absurd b (by decide)
   rw [if_neg hr']
   rw [b, Int.mul_zero, Int.add_zero] at hm
   exact ih (i + 1) k q lo s1 s2 (Can_dg cq) lq vq' hm.symm
  ·rw [if_pos (hr.2 b), if_pos c2, if_pos (Int.natCast_nonneg i), set_bit lo i i64 hh0.1 hh0.2]
   rw [b, Int.mul_one] at hm
   exact ih (i + 1) k q _ s1 s2 (Can_dg cq) lq vq' hm.symm
theorem Answer_is (k : Nat) (hk : 15000 ≤ k) (neg : Bool) {ds : List Int} (h : Dg ds) (hl : ds.length ≤ 900) (hn : neg = true → 0 < val ds) : lorgnetteref01_Answer.f k neg ds = some (ans (sg neg (val ds))) := by
 have n0 := val_nonneg h
 unfold lorgnetteref01_Answer.f
 rw [Fits_is k (by omega) neg h (Nat.le_trans hl (by decide)), Option.bind_some]
 by_cases hf : fits (sg neg (val ds))
 ·rw [if_pos (decide_eq_true hf), ans_pos hf]
  have key : ∀ (V : Int) (d : List Int), 0 ≤ V → Dg d → d.length ≤ 999 → val d = V → lorgnetteref01_Bits.j0 k d 0 0 = some (V / P2 64 % P2 64, V % P2 64) := by
   intro V d hV hd hdl hv
   obtain ⟨k, rfl⟩ : ∃ z, k = z + 1 := ⟨k - 1, by omega⟩
   simp only [lorgnetteref01_Bits.j0]
   exact Bits_lo V hV 64 0 k d 0 (by decide) (by omega) hd hdl (by rw [hv, show P2 0 = 1 from rfl, Int.ediv_one]) (by rw [show P2 0 = 1 from rfl, Int.emod_one])
  have fin : ∀ V : Int, 0 ≤ V → V = sg neg (val ds) % 340282366920938463463374607431768211456 → (V / P2 64 % P2 64, V % P2 64) = (hiS (sg neg (val ds)), loS (sg neg (val ds))) := by
   intro V hV e
   unfold hiS loS
   rw [P2_64, e]
   generalize sg neg (val ds) = s at *
   clear key hf hn n0
   congr 1 <;> omega
  unfold lorgnetteref01_Bits.f
  cases neg
  ·rw [if_neg (by decide), key (val ds) ds n0 h (Nat.le_trans hl (by decide)) rfl]
   have e : sg false (val ds) = val ds := rfl
   have fe := fin (val ds) n0 (by
    rw [e] at hf ⊢
    unfold fits at hf
    generalize val ds = v at *
    clear fin key
    omega)
   rw [fe]
   rfl
  ·rw [if_pos rfl]
   have e : sg true (val ds) = -val ds := rfl
   have hp := hn rfl
   rw [e] at hf
   obtain ⟨p, q1, q2, q3, q4⟩ := power_is k 128 (by decide) (by omega)
   have hle : val ds ≤ val p := by
    rw [q3, p128]
    unfold fits at hf
    clear fin key q3 q1 e
    generalize val ds = v at *
    omega
   have pl : p.length < 100000 := Nat.lt_of_le_of_lt q4 (by decide)
   have pk : p.length + 1 ≤ k := by clear fin key q3 q1 e hle hf hp hn n0; omega
   obtain ⟨m, m1, m2, m3, m4⟩ := dminus_is k q2 h pl hle pk
   have vm : val m = 340282366920938463463374607431768211456 - val ds := by rw [m3, q3, p128]
   have ml : m.length ≤ 999 := by rw [m4]; exact Nat.le_trans q4 (by decide)
   rw [show (128 : Int) = ((128 : Nat) : Int) from rfl, q1, Option.bind_some, m1, Option.bind_some, key (val m) m (val_nonneg m2) m2 ml rfl]
   have fe := fin (val m) (val_nonneg m2) (by
    rw [vm, e]
    unfold fits at hf
    clear fin key q3 q1 e hle m3 m1 vm
    generalize val ds = v at *
    omega)
   rw [fe]
   rfl
 ·rw [if_neg (by simpa using hf), ans_neg hf]
end Go.Proofs.Ytjnaebcdidilgaa.Q
namespace Go.Proofs.Ytjnaebcdidilgaa.Q
open Go.RowKit Go.Proofs.YtjnaebcdidilgaaW.PrintWords Go.Proofs.YtjnaebcdidilgaaW.PrintLast Go.Proofs.YtjnaebcdidilgaaW.PrintMore
set_option maxRecDepth 100000 in
theorem awake_ok : lorgnettelaw01_awake.f 600 = some true := by decide +kernel
end Go.Proofs.Ytjnaebcdidilgaa.Q
namespace Go.Proofs.Ytjnaebcdidilgaa.Q
open Go.RowKit Go.Proofs.YtjnaebcdidilgaaW.PrintWords Go.Proofs.YtjnaebcdidilgaaW.PrintLast Go.Proofs.YtjnaebcdidilgaaW.PrintMore
set_option linter.unusedVariables false

theorem W64_wf {n : Int} (h : (Lit.int .u64 n).wf = true) : W64 n := by
 simp only [Lit.wf, Bool.and_eq_true, decide_eq_true_eq] at h
 have h1 : IntKind.u64.min = 0 := by decide
 have h2 : IntKind.u64.max = 18446744073709551615 := by decide
 unfold W64
 omega
theorem I64_wf {n : Int} (h : (Lit.int .i64 n).wf = true) : I64 n := by
 simp only [Lit.wf, Bool.and_eq_true, decide_eq_true_eq] at h
 have h1 : IntKind.i64.min = -9223372036854775808 := by decide
 have h2 : IntKind.i64.max = 9223372036854775807 := by decide
 unfold I64
 omega
theorem awake_ge : ∀ n : Nat, lorgnettelaw01_awake.f (600 + n) = some true
 | 0 => awake_ok
 | n + 1 => lorgnettelaw01_awake.mono _ _ (awake_ge n)
theorem absI_le {n : Int} (h : fits n) : absI n ≤ 340282366920938463463374607431768211456 := by have := (absI_bound h).2; omega
theorem D_abs {n : Int} (h : fits n) : Can (D (absI n)) ∧ val (D (absI n)) = absI n := D_is (absI_bound h).1 (absI_le h)
theorem sg_abs (n : Int) : sg (decide (n < 0)) (absI n) = n := by
 unfold sg absI
 by_cases h : n < 0
 ·rw [if_pos h, if_pos (decide_eq_true h), Int.neg_neg]
 ·rw [if_neg h, if_neg (by simpa using h)]
theorem alike_is (k : Nat) (hk : 15000 ≤ k) {ds : List Int} (h : Dg ds) (hl : ds.length ≤ 900) (v : Int) (hv : val ds = v) : lorgnettelaw01_alike.f k (ans v).1 (ans v).2.1 (ans v).2.2 false ds = some true := by
 unfold lorgnettelaw01_alike.f
 rw [Answer_is k hk false h hl (fun e => by cases e), Option.bind_some, show sg false (val ds) = v from hv]
 simp
theorem WT_j0 (k : Nat) (hk : 16000 ≤ k) (s : ByteArray) (hs : s.size ≤ 200) (n : Int) (hn : I64 n) {ah al : Int} (h1 : W64 ah) (h2 : W64 al) :
  lorgnettelaw01_WideTexts.j0 (k + 1) s n false ah al (decide (sval ah al < 0)) (D (absI (sval ah al))) = some true := by
 obtain ⟨ds, p1, p2, p3, p4⟩ := dParse_is k s (Nat.le_trans hs (by decide)) (by omega)
 have fa := sval_fits h1 h2
 obtain ⟨ca, va⟩ := D_abs fa
 simp only [lorgnettelaw01_WideTexts.j0]
 rw [if_neg (by decide), Parse_is k s (Nat.le_trans hs (by decide)) (by omega), Option.bind_some, p1, Option.bind_some]
 simp only
 by_cases hf : Form (bytesOf s)
 ·rw [if_pos (decide_eq_true hf), if_pos hf, Of_is hn, Option.bind_some]
  simp only
  have fn := I64_fits hn
  rw [Int_is (hiS_W _) (loS_W _), Option.bind_some, sval_back fn, if_pos hn]
  have hl : ds.length ≤ 900 := by
   refine Nat.le_trans p3 ?_
   exact Nat.le_trans hs (by decide)
  rw [alike_is k (by omega) (Can_dg p2) hl (pv 0 (bytesOf s)) (p4 hf), Option.bind_some, if_pos rfl, Print_is k (by omega) h1 h2, Option.bind_some]
  have hcn : CanN (decide (sval ah al < 0)) (D (absI (sval ah al))) := by
   refine ⟨ca, fun h e => ?_⟩
   have hlt : sval ah al < 0 := of_decide_eq_true h
   rw [e] at va
   have : (0 : Int) = absI (sval ah al) := va
   unfold absI at this
   rw [if_pos hlt] at this
   omega
  obtain ⟨r, r1, r2⟩ := dPrint_is k (by omega) hcn (Nat.le_trans (D_len _) (by decide))
  rw [r1, Option.bind_some]
  have hr : strOfNums (txt (decide (sval ah al < 0)) (D (absI (sval ah al)))) = r := by
   apply bytesOf_inj
   rw [r2]
   exact bytesOf_nums (txt_byte (Can_dg ca))
  rw [hr, if_pos rfl, if_pos rfl]
  rfl
 ·rw [if_neg (by simpa using hf), if_neg hf]
  rfl
theorem WideTexts_pure (ah al : Int) (s : ByteArray) (n : Int) (g1 : (Lit.int .u64 ah).wf = true) (g2 : (Lit.int .u64 al).wf = true) (_ : s.size ≤ 140737488351232) (g3 : (Lit.int .i64 n).wf = true) : lorgnettelaw01_WideTexts.f 20000 ah al s n = some true := by
 replace g1 := W64_wf g1
 replace g2 := W64_wf g2
 replace g3 := I64_wf g3
 have fa := sval_fits g1 g2
 obtain ⟨ca, va⟩ := D_abs fa
 unfold lorgnettelaw01_WideTexts.f
 rw [show lorgnettelaw01_awake.f 20000 = some true from awake_ge 19400, Option.bind_some, if_pos rfl]
 by_cases c : (s.size : Int) > 200
 ·rw [if_pos c]
 rw [if_neg c, dOf_is 20000 (by decide) g1 g2, Option.bind_some, Int_is g1 g2, Option.bind_some]
 simp only
 rw [Small_is 20000 (by decide) _ (Can_dg ca) (Nat.le_trans (D_len _) (by decide)), Option.bind_some, va, sg_abs]
 have j := WT_j0 19999 (by decide) s (by omega) n g3 g1 g2
 by_cases hi : I64 (sval ah al)
 ·rw [if_pos hi]
  simp only
  rw [decide_eq_true hi, if_neg (by decide), if_true, Of_is hi, Option.bind_some]
  simp only
  rw [hiS_sval g1 g2, loS_sval g1 g2, if_neg (by simp)]
  exact j
 ·rw [if_neg hi]
  simp only
  rw [decide_eq_false hi, if_neg (by decide), if_neg (by decide), if_true]
  exact j
end Go.Proofs.Ytjnaebcdidilgaa.Q
