/- Neg, Cmp, Of, Int, split, join, times, Mul of wide, as whole numbers. Plain Lean; no condition. -/
import Derived.Test.YtekndmlcmepekaaWA
namespace Go.Proofs.Ytekndmlcmepekaa.Q
open Go.RowKit Go.Proofs.YtekndmlcmepekaaW.PrintWords Go.Proofs.YtekndmlcmepekaaW.PrintLast Go.Proofs.YtekndmlcmepekaaW.PrintMore
set_option linter.unusedVariables false

theorem W64_0 : W64 0 := by unfold W64; omega
theorem W64_10 : W64 10 := by unfold W64; omega
theorem sval_zero : sval 0 0 = 0 := by decide
theorem ans_W (s : Int) : W64 (ans s).1 ∧ W64 (ans s).2.1 := by
  unfold ans
  split
  · exact ⟨hiS_W s, loS_W s⟩
  · exact ⟨W64_0, W64_0⟩
theorem Neg_is {ah al : Int} (h1 : W64 ah) (h2 : W64 al) : wide_Neg.f ah al = some (ans (-sval ah al)) := by
  unfold wide_Neg.f
  rw [Sub_is W64_0 W64_0 h1 h2, sval_zero, Option.bind_some, Int.zero_sub]
theorem less_is (ah al bh bl : Int) (h1 : W64 al) (h2 : W64 bl) : wide_less.f ah al bh bl = some (decide (uval ah al < uval bh bl)) := by
  unfold wide_less.f uval W64 at *
  by_cases a : ah < bh
  · rw [if_pos a]; congr 1; symm; exact decide_eq_true (by omega)
  · rw [if_neg a]
    by_cases b : ah = bh
    · rw [if_pos b]; congr 1; rw [decide_eq_decide]; omega
    · rw [if_neg b]; congr 1; symm; exact decide_eq_false (by omega)
theorem Cmp_is {ah al bh bl : Int} (h1 : W64 ah) (h2 : W64 al) (h3 : W64 bh) (h4 : W64 bl) :
    wide_Cmp.f ah al bh bl = some (if sval ah al < sval bh bl then -1 else if sval bh bl < sval ah al then 1 else 0) := by
  unfold wide_Cmp.f
  rw [xorsign h1, xorsign h3, less_is _ _ _ _ h2 h4, less_is _ _ _ _ h4 h2]
  simp only [Option.bind_some]
  have e : ∀ x y : Int, W64 x → W64 y → uval (if x < 9223372036854775808 then x + 9223372036854775808 else x - 9223372036854775808) y = sval x y + 170141183460469231731687303715884105728 := by
    intro x y hx hy; unfold uval sval W64 at *; split <;> omega
  rw [e _ _ h1 h2, e _ _ h3 h4]
  by_cases a : sval ah al < sval bh bl
  · rw [if_pos (decide_eq_true (by omega)), if_pos a]
  · rw [if_neg (by simp; omega), if_neg a]
    by_cases b : sval bh bl < sval ah al
    · rw [if_pos (decide_eq_true (by omega)), if_pos b]
    · rw [if_neg (by simp; omega), if_neg b]
def I64 (n : Int) : Prop := -9223372036854775808 ≤ n ∧ n < 9223372036854775808
instance (n : Int) : Decidable (I64 n) := inferInstanceAs (Decidable (_ ∧ _))
theorem wrap_u64 (n : Int) : IntKind.u64.wrap n = n % 18446744073709551616 := by rw [IntKind.wrap_u64]
theorem Of_is {n : Int} (h : I64 n) : wide_Of.f n = some (hiS n, loS n) := by
  unfold wide_Of.f
  rw [wrap_u64]
  unfold I64 at h
  split
  · congr 2; unfold hiS; omega
  · congr 2; unfold hiS; omega
theorem I64_fits {n : Int} (h : I64 n) : fits n := by unfold I64 at h; unfold fits; omega
theorem Int_is {h l : Int} (h1 : W64 h) (h2 : W64 l) : wide_Int.f h l = some (if I64 (sval h l) then (sval h l, 0) else (0, 10)) := by
  have hw : wrap64 l = if l < 9223372036854775808 then l else l - 18446744073709551616 := by unfold wrap64 W64 at *; split <;> omega
  have hi : I64 (wrap64 l) := by rw [hw]; unfold I64 W64 at *; split <;> omega
  unfold wide_Int.f
  rw [Of_is hi, Option.bind_some]
  by_cases e : I64 (sval h l)
  · have e2 : sval h l = wrap64 l := by rw [hw]; unfold I64 sval W64 at *; split at e <;> split <;> omega
    rw [if_pos e, e2]
    have a : hiS (wrap64 l) = h := by rw [← e2]; exact hiS_sval h1 h2
    have b : loS (wrap64 l) = l := by rw [← e2]; exact loS_sval h1 h2
    rw [a, b, if_neg (by simp)]
  · rw [if_neg e]
    have ne : ¬ (hiS (wrap64 l) = h ∧ loS (wrap64 l) = l) := by
      rintro ⟨a, b⟩
      apply e
      have := sval_back (I64_fits hi)
      rw [a, b] at this
      rw [this]; exact hi
    rw [if_pos]
    simp only [Bool.or_eq_true, Bool.not_eq_true', beq_eq_false_iff_ne]
    by_cases a : hiS (wrap64 l) = h
    · exact Or.inr (fun b => ne ⟨a, b⟩)
    · exact Or.inl a
theorem split_is {h l : Int} (h1 : W64 h) (h2 : W64 l) :
    wide_split.f h l = some (decide (sval h l < 0), (if sval h l < 0 then -sval h l else sval h l) / 18446744073709551616, (if sval h l < 0 then -sval h l else sval h l) % 18446744073709551616) := by
  unfold wide_split.f
  rw [and63 h1]
  have hc : sub64C 0 l 0 = if 0 < l then 1 else 0 := by unfold sub64C W64 at *; split <;> split <;> omega
  have hlo : sub64S 0 l 0 = (-l) % 18446744073709551616 := by unfold sub64S W64 at *; omega
  have hhi : sub64S 0 h (if 0 < l then 1 else 0) = (-h - (if 0 < l then 1 else 0)) % 18446744073709551616 := by unfold sub64S W64 at *; split <;> omega
  rw [hc, hlo, hhi]
  unfold sval W64 at *
  by_cases a : h < 9223372036854775808
  · simp only [if_pos a, if_true]
    have n0 : ¬ (h * 18446744073709551616 + l < 0) := by omega
    simp only [if_neg n0]
    congr 2
    · symm; exact decide_eq_false n0
    · congr 1 <;> omega
  · simp only [if_neg a]
    rw [if_neg (by omega), if_pos (by split <;> omega)]
    have n0 : h * 18446744073709551616 + l - 340282366920938463463374607431768211456 < 0 := by omega
    simp only [if_pos n0]
    congr 2
    · symm; exact decide_eq_true n0
    · congr 1
      · split <;> omega
      · omega
/-- A size of two words. -/
theorem join_is (k : Nat) (hk : 2 ≤ k) (neg : Bool) {h l : Int} (h1 : W64 h) (h2 : W64 l) : wide_join.f k neg h l = some (ans (if neg = true then -uval h l else uval h l)) := by
  obtain ⟨k, rfl⟩ : ∃ m, k = m + 2 := ⟨k - 2, by omega⟩
  have hc : sub64C 0 l 0 = if 0 < l then 1 else 0 := by unfold sub64C W64 at *; split <;> split <;> omega
  have hlo : sub64S 0 l 0 = (-l) % 18446744073709551616 := by unfold sub64S W64 at *; omega
  have hhi : sub64S 0 h (if 0 < l then 1 else 0) = (-h - (if 0 < l then 1 else 0)) % 18446744073709551616 := by unfold sub64S W64 at *; split <;> omega
  have j1 : ∀ (b : Bool), wide_join.j1 (k + 1) b h l h l = if b = true then some (h, l, 0) else some ((-h - (if 0 < l then 1 else 0)) % 18446744073709551616, (-l) % 18446744073709551616, 0) := by
    intro b
    simp only [wide_join.j1]
    rw [hc, hlo, hhi, if_pos (show (if 0 < l then (1 : Int) else 0) ≤ 1 by split <;> omega)]
  unfold wide_join.f
  rw [and63 h1]
  simp only [wide_join.j0, j1]
  by_cases hs : h < 9223372036854775808
  · rw [if_pos hs, if_pos rfl]
    simp only [Bool.false_eq_true, if_false, if_true]
    cases neg with
    | false =>
      simp only [Bool.false_eq_true, if_false]
      unfold ans
      rw [if_pos (by unfold fits uval W64 at *; omega)]
      unfold fits uval hiS loS W64 at *
      congr 2
      · omega
      · congr 1; omega
    | true =>
      simp only [if_true]
      have hne : (h == 9223372036854775808 && l == 0) = false := by simp; omega
      rw [hne]
      simp only [Bool.false_eq_true, if_false]
      rw [ans_pos (by unfold fits uval W64 at *; omega)]
      unfold uval hiS loS W64 at *
      congr 2
      · split <;> omega
      · congr 1; omega
  · rw [if_neg hs, if_neg (by omega)]
    cases neg with
    | false =>
      simp only [Bool.false_eq_true, if_false, Bool.not_false, if_true]
      unfold ans
      rw [if_neg (by unfold fits uval W64 at *; omega)]
    | true =>
      simp only [if_true]
      by_cases hl : (h == 9223372036854775808 && l == 0) = true
      · rw [hl]
        simp only [Bool.not_true, Bool.false_eq_true, if_false, if_true]
        simp at hl
        obtain ⟨rfl, rfl⟩ := hl
        decide
      · have hl' : (h == 9223372036854775808 && l == 0) = false := by simpa using hl
        rw [hl']
        simp only [Bool.not_false, if_true]
        simp at hl'
        unfold ans
        rw [if_neg (by unfold fits uval W64 at *; omega)]
theorem Mul64_is {x y : Int} (h1 : W64 x) (h2 : W64 y) : bits_Mul64.f x y = some (x * y / 18446744073709551616, x * y % 18446744073709551616) := by
  unfold bits_Mul64.f
  simp only [wrap_u64]
  rw [Go.and_low32 x h1.1 h1.2, Go.and_low32 y h2.1 h2.2]
  have := mul64_arith x y h1.1 h1.2 h2.1 h2.2
  have a : 0 ≤ x % 4294967296 * (y / 4294967296) := Int.mul_nonneg (by omega) (by unfold W64 at *; omega)
  rw [Go.and_low32 _ (by omega) (by omega)]
  rw [this]
theorem times_is (k : Nat) (hk : 2 ≤ k) {xh xl yh yl : Int} (h1 : W64 xh) (h2 : W64 xl) (h3 : W64 yh) (h4 : W64 yl) :
    ∃ r, wide_times.f k xh xl yh yl = some r ∧ ((uval xh xl * uval yh yl < 340282366920938463463374607431768211456 → r = (uval xh xl * uval yh yl / 18446744073709551616, uval xh xl * uval yh yl % 18446744073709551616, true)) ∧
      (¬ uval xh xl * uval yh yl < 340282366920938463463374607431768211456 → r.2.2 = false)) := by
  obtain ⟨k, rfl⟩ : ∃ m, k = m + 2 := ⟨k - 2, by omega⟩
  have e : uval xh xl * uval yh yl = xh * yh * 340282366920938463463374607431768211456 + (xh * yl + xl * yh) * 18446744073709551616 + xl * yl := by unfold uval; grind
  have pA : 0 ≤ xl * yl ∧ xl * yl ≤ 340282366920938463426481119284349108225 := by
    unfold W64 at *
    exact ⟨Int.mul_nonneg h2.1 h4.1, by have := Int.mul_le_mul (show xl ≤ 18446744073709551615 by omega) (show yl ≤ 18446744073709551615 by omega) h4.1 (by omega : (0 : Int) ≤ 18446744073709551615); simpa using this⟩
  have pB : 0 ≤ xh * yl := by unfold W64 at *; exact Int.mul_nonneg h1.1 h4.1
  have pC : 0 ≤ xl * yh := by unfold W64 at *; exact Int.mul_nonneg h2.1 h3.1
  have pD : 0 ≤ xh * yh := by unfold W64 at *; exact Int.mul_nonneg h1.1 h3.1
  have pE : xh ≠ 0 → yh ≠ 0 → 1 ≤ xh * yh := by
    intro a b
    unfold W64 at *
    have := Int.mul_le_mul (show (1 : Int) ≤ xh by omega) (show (1 : Int) ≤ yh by omega) (by omega) h1.1
    simpa using this
  have pF : xh = 0 ∨ yh = 0 → xh * yh = 0 := by rintro (rfl | rfl) <;> simp
  rw [e]
  have j1 : ∀ (b : Bool) (p1 p2 p3 : Int), W64 p1 → W64 p2 → W64 p3 → wide_times.j1 (k + 1) p1 (xl * yl % 18446744073709551616) p2 p3 b = if b = true then some (0, 0, false) else
      some ((p1 + p2 + p3) % 18446744073709551616, xl * yl % 18446744073709551616, decide (p1 + p2 + p3 < 18446744073709551616)) := by
    intro b p1 p2 p3 w1 w2 w3
    simp only [wide_times.j1]
    have hc : add64C p1 p2 0 = (p1 + p2) / 18446744073709551616 := by unfold add64C W64 at *; omega
    have hs : add64S p1 p2 0 = (p1 + p2) % 18446744073709551616 := by unfold add64S W64 at *; omega
    have hc2 : add64C ((p1 + p2) % 18446744073709551616) p3 0 = ((p1 + p2) % 18446744073709551616 + p3) / 18446744073709551616 := by unfold add64C W64 at *; omega
    have hs2 : add64S ((p1 + p2) % 18446744073709551616) p3 0 = (p1 + p2 + p3) % 18446744073709551616 := by unfold add64S W64 at *; omega
    rw [hc, hs, hc2, hs2]
    cases b with
    | true => rfl
    | false =>
      simp only [Bool.false_eq_true, if_false]
      unfold W64 at *
      by_cases z : (p1 + p2) / 18446744073709551616 = 0
      · rw [if_pos z]
        congr 3
        rw [Bool.eq_iff_iff]; simp; omega
      · rw [if_neg z]
        congr 3
        rw [Bool.eq_iff_iff]; simp; omega
  have w1 : W64 (xl * yl / 18446744073709551616) := by unfold W64; omega
  have w2 : W64 (xh * yl % 18446744073709551616) := by unfold W64; omega
  have w3 : W64 (xl * yh % 18446744073709551616) := by unfold W64; omega
  unfold wide_times.f
  by_cases z : xh = 0
  · rw [if_pos z]
    have z2 := pF (Or.inl z)
    simp only [wide_times.j0]
    simp only [Bool.false_eq_true, if_false]
    rw [Mul64_is h2 h4, Option.bind_some, Mul64_is h1 h4, Option.bind_some, Mul64_is h2 h3, Option.bind_some]
    have zb : xh * yl = 0 := by rw [z]; simp
    rw [zb] at w2
    simp only [zb, j1 _ _ _ _ w1 w2 w3]
    rw [if_pos (by decide)]
    by_cases y : xl * yh / 18446744073709551616 = 0
    · simp only [y, bne_self_eq_false, Bool.false_eq_true, if_false]
      refine ⟨_, rfl, fun h => ?_, fun h => ?_⟩
      · rw [z2] at h ⊢
        congr 1
        · omega
        · congr 1
          · omega
          · exact decide_eq_true (by omega)
      · rw [z2] at h
        exact decide_eq_false (by omega)
    · rw [if_pos (by simpa using y)]
      refine ⟨_, rfl, fun h => ?_, fun h => rfl⟩
      omega
  · rw [if_neg z]
    simp only [wide_times.j0]
    by_cases y : yh = 0
    · have z2 := pF (Or.inr y)
      have hb : (yh != 0) = false := by simp [y]
      rw [hb]
      simp only [Bool.false_eq_true, if_false]
      rw [Mul64_is h2 h4, Option.bind_some, Mul64_is h1 h4, Option.bind_some, Mul64_is h2 h3, Option.bind_some]
      have zb : xl * yh = 0 := by rw [y]; simp
      rw [zb] at w3
      simp only [zb, j1 _ _ _ _ w1 w2 w3]
      by_cases x : xh * yl / 18446744073709551616 = 0
      · rw [if_pos x]
        simp only [show ((0 : Int) / 18446744073709551616 != 0) = false by decide, Bool.false_eq_true, if_false]
        refine ⟨_, rfl, fun h => ?_, fun h => ?_⟩
        · rw [z2] at h ⊢
          congr 1
          · omega
          · congr 1
            · omega
            · exact decide_eq_true (by omega)
        · rw [z2] at h
          exact decide_eq_false (by omega)
      · rw [if_neg x]
        refine ⟨_, rfl, fun h => ?_, fun h => rfl⟩
        omega
    · have hb : (yh != 0) = true := by simpa using y
      rw [hb]
      have := pE z y
      refine ⟨_, rfl, fun h => ?_, fun h => rfl⟩
      omega
theorem Mul_is (k : Nat) (hk : 2 ≤ k) {ah al bh bl : Int} (h1 : W64 ah) (h2 : W64 al) (h3 : W64 bh) (h4 : W64 bl) : wide_Mul.f k ah al bh bl = some (ans (sval ah al * sval bh bl)) := by
  unfold wide_Mul.f
  rw [split_is h1 h2, Option.bind_some, split_is h3 h4, Option.bind_some]
  have fa := sval_fits h1 h2
  have fb := sval_fits h3 h4
  generalize sval ah al = a at *
  generalize sval bh bl = b at *
  have back : ∀ n : Int, uval (n / 18446744073709551616) (n % 18446744073709551616) = n := by intro n; unfold uval; omega
  have sz : ∀ n : Int, fits n → 0 ≤ (if n < 0 then -n else n) ∧ (if n < 0 then -n else n) ≤ 170141183460469231731687303715884105728 := by intro n hn; unfold fits at hn; split <;> omega
  have wh : ∀ n : Int, 0 ≤ n ∧ n ≤ 170141183460469231731687303715884105728 → W64 (n / 18446744073709551616) ∧ W64 (n % 18446744073709551616) := by intro n hn; unfold W64; omega
  have za := sz a fa
  have zb := sz b fb
  have eab : (if a < 0 then -a else a) * (if b < 0 then -b else b) = if (decide (a < 0) != decide (b < 0)) = true then -(a * b) else a * b := by
    by_cases ha : a < 0 <;> by_cases hb : b < 0 <;> simp [ha, hb, Int.neg_mul, Int.mul_neg]
  have pos : 0 ≤ (if a < 0 then -a else a) * (if b < 0 then -b else b) := Int.mul_nonneg za.1 zb.1
  generalize hA : (if a < 0 then -a else a) = A at *
  generalize hB : (if b < 0 then -b else b) = B at *
  obtain ⟨r, hr, h5, h6⟩ := times_is k hk (wh A za).1 (wh A za).2 (wh B zb).1 (wh B zb).2
  rw [back, back] at h5 h6
  simp only
  rw [hr, Option.bind_some]
  generalize hN : (decide (a < 0) != decide (b < 0)) = neg at *
  by_cases hlt : A * B < 340282366920938463463374607431768211456
  · rw [h5 hlt]
    simp only [if_true]
    rw [join_is k hk neg (by unfold W64; omega) (by unfold W64; omega), Option.bind_some, back]
    have e : (if neg = true then -(A * B) else A * B) = a * b := by rw [eab]; cases neg <;> simp
    rw [e]
  · rw [if_neg (by rw [h6 hlt]; decide)]
    rw [ans_neg (by unfold fits; cases neg <;> simp at eab <;> omega)]
end Go.Proofs.Ytekndmlcmepekaa.Q
