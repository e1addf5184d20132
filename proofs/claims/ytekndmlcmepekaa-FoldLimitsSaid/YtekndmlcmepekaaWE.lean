/- Quo and Rem of wide, as whole numbers. Plain Lean; no condition. -/
import Derived.Test.YtekndmlcmepekaaWC
namespace Go.Proofs.Ytekndmlcmepekaa.Q
open Go.RowKit Go.Proofs.YtekndmlcmepekaaW.PrintWords Go.Proofs.YtekndmlcmepekaaW.PrintLast Go.Proofs.YtekndmlcmepekaaW.PrintMore
set_option linter.unusedVariables false

def absI (n : Int) : Int := if n < 0 then -n else n
theorem absI_bound {n : Int} (h : fits n) : 0 ≤ absI n ∧ absI n ≤ 170141183460469231731687303715884105728 := by unfold fits at h; unfold absI; split <;> omega
theorem tdiv_abs (a b : Int) : a.tdiv b = if (decide (a < 0) != decide (b < 0)) = true then -(absI a / absI b) else absI a / absI b := by
  unfold absI
  by_cases ha : a < 0 <;> by_cases hb : b < 0
  · simp only [ha, hb, if_true, decide_true, bne_self_eq_false, Bool.false_eq_true, if_false]
    rw [← Int.neg_tdiv_neg, Int.tdiv_eq_ediv_of_nonneg (by omega)]
  · simp only [ha, hb, if_true, if_false, decide_true, decide_false, show (true != false) = true from rfl]
    conv => lhs; rw [show a = -(-a) from by omega]
    rw [Int.neg_tdiv, Int.tdiv_eq_ediv_of_nonneg (by omega)]
  · simp only [ha, hb, if_true, if_false, decide_true, decide_false, show (false != true) = true from rfl]
    conv => lhs; rw [show b = -(-b) from by omega]
    rw [Int.tdiv_neg, Int.tdiv_eq_ediv_of_nonneg (by omega)]
  · simp only [ha, hb, if_false, decide_false, bne_self_eq_false, Bool.false_eq_true]
    rw [Int.tdiv_eq_ediv_of_nonneg (by omega)]
theorem tmod_abs (a b : Int) : a.tmod b = if decide (a < 0) = true then -(absI a % absI b) else absI a % absI b := by
  have e : ∀ x : Int, x.tmod b = x.tmod (absI b) := by
    intro x; unfold absI; split
    · rw [Int.tmod_neg]
    · rfl
  rw [e]
  have hb : 0 ≤ absI b := by unfold absI; split <;> omega
  generalize absI b = c at *
  unfold absI
  by_cases ha : a < 0
  · simp only [ha, if_true, decide_true]
    conv => lhs; rw [show a = -(-a) from by omega]
    rw [Int.neg_tmod, Int.tmod_eq_emod_of_nonneg (by omega)]
  · simp only [ha, if_false, decide_false, Bool.false_eq_true]
    rw [Int.tmod_eq_emod_of_nonneg (by omega)]
theorem zero_iff {h l : Int} (h1 : W64 h) (h2 : W64 l) : (h == 0 && (l == 0)) = decide (sval h l = 0) := by
  rw [Bool.eq_iff_iff]; simp; unfold sval W64 at *; constructor
  · rintro ⟨rfl, rfl⟩; rfl
  · intro h; split at h <;> omega
theorem split_abs {h l : Int} (h1 : W64 h) (h2 : W64 l) : wide_split.f h l = some (decide (sval h l < 0), absI (sval h l) / 18446744073709551616, absI (sval h l) % 18446744073709551616) := split_is h1 h2
theorem uback (n : Int) : uval (n / 18446744073709551616) (n % 18446744073709551616) = n := by unfold uval; omega
theorem W_abs {n : Int} (h : fits n) : W64 (absI n / 18446744073709551616) ∧ W64 (absI n % 18446744073709551616) := by have := absI_bound h; unfold W64; omega
theorem Quo_is (k : Nat) (hk : 385 ≤ k) {ah al bh bl : Int} (h1 : W64 ah) (h2 : W64 al) (h3 : W64 bh) (h4 : W64 bl) :
    wide_Quo.f k ah al bh bl = some (if sval bh bl = 0 then (0, 0, 10) else ans ((sval ah al).tdiv (sval bh bl))) := by
  unfold wide_Quo.f
  rw [zero_iff h3 h4]
  have fa := sval_fits h1 h2
  have fb := sval_fits h3 h4
  by_cases z : sval bh bl = 0
  · rw [if_pos (decide_eq_true z), if_pos z]
  · rw [if_neg (by simpa using z), if_neg z, split_abs h1 h2, Option.bind_some, split_abs h3 h4, Option.bind_some]
    generalize sval ah al = a at *
    generalize sval bh bl = b at *
    have hB : 0 < absI b := by unfold absI; split <;> omega
    obtain ⟨r1, r2, r3, r4, hp, w1, w2, _, _, e1, _⟩ := part_is k hk (W_abs fa).1 (W_abs fa).2 (W_abs fb).1 (W_abs fb).2 (by rw [uback]; exact hB)
    rw [uback, uback] at e1
    simp only
    rw [hp, Option.bind_some]
    simp only
    rw [join_is k (by omega) _ w1 w2, Option.bind_some, e1, tdiv_abs]
theorem Rem_is (k : Nat) (hk : 385 ≤ k) {ah al bh bl : Int} (h1 : W64 ah) (h2 : W64 al) (h3 : W64 bh) (h4 : W64 bl) :
    wide_Rem.f k ah al bh bl = some (if sval bh bl = 0 then (0, 0, 10) else ans ((sval ah al).tmod (sval bh bl))) := by
  unfold wide_Rem.f
  rw [zero_iff h3 h4]
  have fa := sval_fits h1 h2
  have fb := sval_fits h3 h4
  by_cases z : sval bh bl = 0
  · rw [if_pos (decide_eq_true z), if_pos z]
  · rw [if_neg (by simpa using z), if_neg z, split_abs h1 h2, Option.bind_some, split_abs h3 h4, Option.bind_some]
    generalize sval ah al = a at *
    generalize sval bh bl = b at *
    have hB : 0 < absI b := by unfold absI; split <;> omega
    obtain ⟨r1, r2, r3, r4, hp, _, _, w3, w4, _, e2⟩ := part_is k hk (W_abs fa).1 (W_abs fa).2 (W_abs fb).1 (W_abs fb).2 (by rw [uback]; exact hB)
    rw [uback, uback] at e2
    simp only
    rw [hp, Option.bind_some]
    simp only
    rw [join_is k (by omega) _ w3 w4, Option.bind_some, e2, tmod_abs]
end Go.Proofs.Ytekndmlcmepekaa.Q
