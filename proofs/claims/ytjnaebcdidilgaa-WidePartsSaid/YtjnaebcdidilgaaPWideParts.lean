/- WideParts' pure statement: quotient times divisor plus rest is the dividend, and the rest is less than the divisor. No condition. -/
import Derived.Test.YtjnaebcdidilgaaWE
import Derived.Test.YtjnaebcdidilgaaWD
import Derived.Test.YtjnaebcdidilgaaQx37
namespace Go.Proofs.Ytjnaebcdidilgaa.Q
open Go.RowKit Go.Proofs.YtjnaebcdidilgaaW.PrintWords Go.Proofs.YtjnaebcdidilgaaW.PrintLast Go.Proofs.YtjnaebcdidilgaaW.PrintMore
set_option linter.unusedVariables false

theorem W64_wf {n : Int} (h : (Lit.int .u64 n).wf = true) : W64 n := by
  simp only [Lit.wf, Bool.and_eq_true, decide_eq_true_eq] at h
  have h1 : IntKind.u64.min = 0 := by decide
  have h2 : IntKind.u64.max = 18446744073709551615 := by decide
  unfold W64
  omega
theorem rem_facts (a b : Int) (hb : b ≠ 0) : absI (a.tmod b) < absI b ∧ (0 ≤ a → 0 ≤ a.tmod b) ∧ (a ≤ 0 → a.tmod b ≤ 0) := by
  have hB : 0 < absI b := by unfold absI; split <;> omega
  have n1 := Int.emod_nonneg (absI a) (show absI b ≠ 0 by omega)
  have n2 := Int.emod_lt_of_pos (absI a) hB
  rw [tmod_abs]
  generalize hm : absI a % absI b = m at *
  by_cases ha : a < 0
  · simp only [ha, decide_true, if_true]
    refine ⟨?_, by omega, by omega⟩
    show absI (-m) < absI b
    conv => lhs; unfold absI
    split <;> omega
  · simp only [ha, decide_false, Bool.false_eq_true, if_false]
    refine ⟨?_, by omega, ?_⟩
    · conv => lhs; unfold absI
      split <;> omega
    · intro h0
      have : a = 0 := by omega
      subst this
      have : m = 0 := by rw [← hm]; simp [absI]
      omega
theorem unfit {a b : Int} (fa : fits a) (hb : b ≠ 0) (h : ¬ fits (a.tdiv b)) : b = -1 ∧ a < 0 := by
  by_cases b1 : b = 1
  · subst b1
    rw [Int.tdiv_one] at h
    exact absurd fa h
  by_cases b2 : b = -1
  · subst b2
    refine ⟨rfl, ?_⟩
    rw [show (-1 : Int) = -(1) from rfl, Int.tdiv_neg, Int.tdiv_one] at h
    unfold fits at *
    omega
  · exfalso
    apply h
    have hB : 2 ≤ absI b := by unfold absI; split <;> omega
    have hA := absI_bound fa
    have n1 : absI a / absI b ≤ 85070591730234615865843651857942052864 := Int.ediv_le_of_le_mul (by omega) (by omega)
    have n2 := Int.ediv_nonneg hA.1 (show 0 ≤ absI b by omega)
    rw [tdiv_abs]
    unfold fits
    split <;> omega
theorem WideParts_pure (ah al bh bl : Int) (h1 : (Lit.int .u64 ah).wf = true) (h2 : (Lit.int .u64 al).wf = true) (h3 : (Lit.int .u64 bh).wf = true) (h4 : (Lit.int .u64 bl).wf = true) : lorgnettelaw01_WideParts.f 600 ah al bh bl = some true := by
  replace h1 := W64_wf h1
  replace h2 := W64_wf h2
  replace h3 := W64_wf h3
  replace h4 := W64_wf h4
  have fa := sval_fits h1 h2
  have fb := sval_fits h3 h4
  unfold lorgnettelaw01_WideParts.f
  rw [awake_ok, Option.bind_some, if_pos rfl, Of_is (by decide), Option.bind_some, Quo_is 600 (by omega) h1 h2 h3 h4, Option.bind_some, Rem_is 600 (by omega) h1 h2 h3 h4, Option.bind_some]
  simp only [show hiS 0 = 0 from by decide, show loS 0 = 0 from by decide]
  rw [zero_iff h3 h4]
  have w0 : W64 0 := by unfold W64; omega
  by_cases z : sval bh bl = 0
  · rw [if_pos (decide_eq_true z), if_pos z, if_pos z]
    rfl
  · rw [if_neg (by simpa using z), if_neg z, if_neg z]
    obtain ⟨r1, r2, r3⟩ := rem_facts (sval ah al) (sval bh bl) z
    have hdm := Int.mul_tdiv_add_tmod (sval ah al) (sval bh bl)
    have bb := absI_bound fb
    have fr : fits ((sval ah al).tmod (sval bh bl)) := by unfold fits; unfold absI at r1 bb; split at r1 <;> split at r1 <;> omega
    rw [ans_pos fr, if_pos rfl]
    have hr := sval_back fr
    have j1 : ∀ rh rl : Int, W64 rh → W64 rl → 0 ≤ sval rh rl → sval rh rl < absI (sval bh bl) → lorgnettelaw01_WideParts.j1 599 bh bl 0 0 rh rl = some true := by
      intro rh rl w1 w2 p1 p2
      simp only [lorgnettelaw01_WideParts.j1]
      rw [Cmp_is h3 h4 w0 w0, Option.bind_some, sval_zero]
      unfold absI at p2
      by_cases hb : 0 < sval bh bl
      · rw [if_neg (by omega)] at p2
        rw [if_neg (show ¬ sval bh bl < 0 by omega), if_pos hb, if_pos (by decide), Cmp_is w1 w2 h3 h4, Option.bind_some, if_pos p2]
        rfl
      · rw [if_pos (by omega)] at p2
        have fn : fits (-sval rh rl) := by have := sval_fits w1 w2; unfold fits at *; omega
        rw [if_pos (show sval bh bl < 0 by omega), if_neg (by decide), Neg_is w1 w2, Option.bind_some, ans_pos fn, if_pos rfl, Cmp_is h3 h4 (hiS_W _) (loS_W _), Option.bind_some, sval_back fn, if_pos (by omega)]
        rfl
    have j0 : lorgnettelaw01_WideParts.j0 600 false bh bl 0 0 (hiS ((sval ah al).tmod (sval bh bl))) (loS ((sval ah al).tmod (sval bh bl))) = some true := by
      simp only [lorgnettelaw01_WideParts.j0]
      rw [if_neg (by decide), Cmp_is (hiS_W _) (loS_W _) w0 w0, Option.bind_some, sval_zero, hr]
      by_cases hn : (sval ah al).tmod (sval bh bl) < 0
      · have fn : fits (-(sval ah al).tmod (sval bh bl)) := by unfold fits; unfold absI at r1 bb; split at r1 <;> split at r1 <;> omega
        rw [if_pos hn, if_pos (by decide), Neg_is (hiS_W _) (loS_W _), Option.bind_some, hr, ans_pos fn, if_pos rfl]
        refine j1 _ _ (hiS_W _) (loS_W _) (by rw [sval_back fn]; omega) ?_
        rw [sval_back fn]
        have e : absI ((sval ah al).tmod (sval bh bl)) = -(sval ah al).tmod (sval bh bl) := if_pos hn
        omega
      · rw [if_neg hn]
        have e : absI ((sval ah al).tmod (sval bh bl)) = (sval ah al).tmod (sval bh bl) := if_neg hn
        have w : ¬ (if 0 < (sval ah al).tmod (sval bh bl) then (1 : Int) else 0) < 0 := by split <;> decide
        rw [if_neg w]
        exact j1 _ _ (hiS_W _) (loS_W _) (by rw [hr]; omega) (by rw [hr]; omega)
    by_cases fq : fits ((sval ah al).tdiv (sval bh bl))
    · rw [ans_pos fq, if_pos rfl, Mul_is 600 (by omega) (hiS_W _) (loS_W _) h3 h4, Option.bind_some, sval_back fq]
      have fm : fits ((sval ah al).tdiv (sval bh bl) * sval bh bl) := by
        rw [Int.mul_comm]
        generalize sval bh bl * (sval ah al).tdiv (sval bh bl) = m at *
        unfold fits at fa fr ⊢
        by_cases ha : 0 ≤ sval ah al
        · have := r2 ha; have hm := absI_bound fa; omega
        · have := r3 (by omega); omega
      rw [ans_pos fm]
      simp only
      rw [Add_is (hiS_W _) (loS_W _) (hiS_W _) (loS_W _), Option.bind_some, sval_back fm, hr, show (sval ah al).tdiv (sval bh bl) * sval bh bl + (sval ah al).tmod (sval bh bl) = sval ah al from by rw [Int.mul_comm]; exact hdm, ans_pos fa, if_pos rfl]
      simp only [if_true, hiS_sval h1 h2, loS_sval h1 h2, beq_self_eq_true, Bool.not_true, Bool.or_false, Bool.false_eq_true, if_false]
      split
      · rw [Cmp_is (hiS_W _) (loS_W _) w0 w0, Option.bind_some, Cmp_is h1 h2 w0 w0, Option.bind_some, sval_zero, hr]
        rename_i hnz
        have hne : (sval ah al).tmod (sval bh bl) ≠ 0 := by
          intro h0
          rw [h0] at hnz
          exact absurd hnz (by decide)
        have e : ∀ x : Int, decide ((if x < 0 then (-1 : Int) else if 0 < x then 1 else 0) < 0) = decide (x < 0) := by
          intro x
          by_cases hx : x < 0
          · simp [hx]
          · by_cases hy : 0 < x <;> simp [hx, hy]
        rw [e, e]
        have e2 : (decide ((sval ah al).tmod (sval bh bl) < 0) != decide (sval ah al < 0)) = false := by
          by_cases ha : sval ah al < 0
          · have : (sval ah al).tmod (sval bh bl) < 0 := by have := r3 (by omega); omega
            simp [ha, this]
          · have : ¬ (sval ah al).tmod (sval bh bl) < 0 := by have := r2 (by omega); omega
            simp [ha, this]
        rw [e2]
        exact j0
      · exact j0
    · obtain ⟨u1, u2⟩ := unfit fa z fq
      rw [ans_neg fq, if_neg (by decide), Of_is (by decide), Option.bind_some]
      have hbe : bh = hiS (-1) ∧ bl = loS (-1) := by
        rw [← u1, hiS_sval h3 h4, loS_sval h3 h4]
        exact ⟨rfl, rfl⟩
      rw [if_pos (by simp [hbe.1, hbe.2])]
      have hz : (sval ah al).tmod (sval bh bl) = 0 := by
        rw [u1] at r1
        have e : absI (-1) = 1 := rfl
        rw [e, ← u1] at r1
        unfold absI at r1
        split at r1 <;> omega
      rw [hz]
      simp only [show hiS 0 = 0 from by decide, show loS 0 = 0 from by decide]
      rw [if_pos (by decide), Cmp_is h1 h2 w0 w0, Option.bind_some, sval_zero, if_pos u2]
      rfl
end Go.Proofs.Ytjnaebcdidilgaa.Q
