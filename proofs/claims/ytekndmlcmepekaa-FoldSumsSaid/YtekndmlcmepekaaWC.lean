/- part (long division bit by bit), Quo, Rem of wide, as whole numbers. Plain Lean; no condition. -/
import Derived.Test.YtekndmlcmepekaaWB
import Derived.Test.YtekndmlcmepekaaQx10
import Derived.Test.YtekndmlcmepekaaQx9
namespace Go.Proofs.Ytekndmlcmepekaa.Q
open Go.RowKit Go.Proofs.YtekndmlcmepekaaW.PrintWords Go.Proofs.YtekndmlcmepekaaW.PrintLast Go.Proofs.YtekndmlcmepekaaW.PrintMore
set_option linter.unusedVariables false

theorem and1 {x : Int} (hx : W64 x) : Go.bits .and .u64 x 1 = x % 2 := by
  obtain ⟨n, rfl⟩ := Int.eq_ofNat_of_zero_le hx.1
  have h := bits_and_u64_nat n 1 (by have := hx.2; omega) (by omega)
  rw [show ((1 : Nat) : Int) = 1 from rfl] at h
  rw [h, Nat.and_one_is_mod]; omega
theorem or_join {x y : Int} (i : Nat) (hx : W64 x) (hy : W64 y) (h1 : x % 2 ^ i = 0) (h2 : y < 2 ^ i) : Go.bits .or .u64 x y = x + y := by
  refine bits_join .u64 64 (by decide) (fun n h0 h1 => ?_) i x y hx.1 h1 (by have := hx.2; simpa using this) hy.1 h2 (by have := hy.2; simpa using this)
  rw [wrap_u64]; have : n < 18446744073709551616 := by simpa using h1
  omega
theorem minus_is {ah al bh bl : Int} (h1 : W64 ah) (h2 : W64 al) (h3 : W64 bh) (h4 : W64 bl) : ∃ h l, wide_minus.f ah al bh bl = some (h, l) ∧ W64 h ∧ W64 l ∧ uval h l = (uval ah al - uval bh bl) % 340282366920938463463374607431768211456 := by
  have hc : sub64C al bl 0 = if al < bl then 1 else 0 := by unfold sub64C W64 at *; split <;> split <;> omega
  have hlo : sub64S al bl 0 = (al - bl) % 18446744073709551616 := by unfold sub64S W64 at *; omega
  have hhi : sub64S ah bh (if al < bl then 1 else 0) = (ah - bh - (if al < bl then 1 else 0)) % 18446744073709551616 := by unfold sub64S W64 at *; split <;> omega
  unfold wide_minus.f
  rw [hc, hlo, hhi, if_pos (by split <;> omega)]
  refine ⟨_, _, rfl, by unfold W64; omega, by unfold W64; omega, ?_⟩
  unfold uval W64 at *
  split <;> omega
theorem shr64 (x : Int) (m : Nat) (hm : m ≤ 64) : shr .u64 x (m : Int) = x / 2 ^ m := by
  unfold shr; rw [show min (m : Int).toNat IntKind.u64.bits = m from by simp [IntKind.bits]; omega]
theorem shl64 (m : Nat) (hm : m < 64) : shl .u64 1 (m : Int) = 2 ^ m := by
  unfold shl
  rw [show min (m : Int).toNat IntKind.u64.bits = m from by simp [IntKind.bits]; omega, wrap_u64, Int.one_mul]
  have : (2 : Nat) ^ m < 2 ^ 64 := Nat.pow_lt_pow_right (by decide) hm
  have h2 : ((2 ^ m : Nat) : Int) < 18446744073709551616 := by omega
  rw [Int.natCast_pow] at h2
  have h0 : (0 : Int) < 2 ^ m := Int.pow_pos (by omega)
  have h2' : (2 : Int) ^ m < 18446744073709551616 := h2
  omega
theorem pow_split (n m : Nat) : (2 : Int) ^ (n + m) = 2 ^ n * 2 ^ m := Int.pow_add 2 n m
theorem div_pow_add (A : Int) (n m : Nat) : A / 2 ^ (n + m) = A / 2 ^ n / 2 ^ m := by
  rw [pow_split, Int.ediv_ediv_of_nonneg (Int.le_of_lt (Int.pow_pos (by omega)))]
theorem pow_pos (n : Nat) : (0 : Int) < 2 ^ n := Int.pow_pos (by omega)
/-- A bit of a size. -/
theorem bit_hi {ah al : Int} (h1 : W64 ah) (h2 : W64 al) (m : Nat) : uval ah al / 2 ^ (64 + m) = ah / 2 ^ m := by
  rw [div_pow_add]
  congr 1
  unfold uval W64 at *; omega
theorem bit_lo {ah al : Int} (h1 : W64 ah) (h2 : W64 al) (m : Nat) (hm : m < 64) : uval ah al / 2 ^ m % 2 = al / 2 ^ m % 2 := by
  obtain ⟨j, hj⟩ : ∃ j, 64 = m + (j + 1) := ⟨63 - m, by omega⟩
  have e : (18446744073709551616 : Int) = 2 ^ m * (2 ^ j * 2) := by
    have : (18446744073709551616 : Int) = 2 ^ 64 := by decide
    rw [this, hj, pow_split, Int.pow_succ]
  unfold uval
  rw [e, show ah * (2 ^ m * (2 ^ j * 2)) + al = al + 2 ^ m * (ah * 2 ^ j * 2) from by grind, Int.add_mul_ediv_left _ _ (by have := pow_pos m; omega)]
  omega
theorem step_div {X B T R bit : Int} (hB : 0 < B) (hx : X = 2 * (B * T + R) + bit) (hR : 0 ≤ R) (hR2 : R < B) (hb : bit = 0 ∨ bit = 1) :
    (2 * R + bit < B → X / B = 2 * T ∧ X % B = 2 * R + bit) ∧ (¬ 2 * R + bit < B → X / B = 2 * T + 1 ∧ X % B = 2 * R + bit - B) := by
  constructor
  · intro h
    exact (Int.ediv_emod_unique hB).mpr ⟨by rw [hx]; grind, by omega, h⟩
  · intro h
    exact (Int.ediv_emod_unique hB).mpr ⟨by rw [hx]; grind, by omega, by omega⟩
set_option maxHeartbeats 8000000 in
theorem part_l0 {ah al bh bl : Int} (h1 : W64 ah) (h2 : W64 al) (h3 : W64 bh) (h4 : W64 bl) (hB : 0 < uval bh bl) : ∀ (n : Nat), n ≤ 128 → ∀ (k : Nat), 3 * n < k → ∀ qh ql rh rl : Int, W64 qh → W64 ql → W64 rh → W64 rl →
    uval qh ql = uval ah al / 2 ^ n / uval bh bl * 2 ^ n → uval rh rl = uval ah al / 2 ^ n % uval bh bl →
    ∃ r1 r2 r3 r4, wide_part.l0 k ((n : Int) - 1) ah al bh bl qh ql rh rl = some (r1, r2, r3, r4) ∧ W64 r1 ∧ W64 r2 ∧ W64 r3 ∧ W64 r4 ∧ uval r1 r2 = uval ah al / uval bh bl ∧ uval r3 r4 = uval ah al % uval bh bl := by
  intro n
  induction n with
  | zero =>
    intro _ k hk qh ql rh rl w1 w2 w3 w4 hq hr
    obtain ⟨k, rfl⟩ : ∃ m, k = m + 1 := ⟨k - 1, by omega⟩
    simp only [wide_part.l0]
    rw [if_neg (by omega)]
    refine ⟨_, _, _, _, rfl, w1, w2, w3, w4, by simpa using hq, by simpa using hr⟩
  | succ n ih =>
    intro hn k hk qh ql rh rl w1 w2 w3 w4 hq hr
    obtain ⟨k, rfl⟩ : ∃ m, k = m + 3 := ⟨k - 3, by omega⟩
    have hx6 : (((n + 1 : Nat) : Int) - 1) = (n : Int) := by omega
    rw [hx6]
    have htm : Int.tmod (n : Int) 64 = ((n % 64 : Nat) : Int) := by rw [Int.tmod_eq_emod_of_nonneg (by omega)]; omega
    -- the bit
    have hX : uval ah al / 2 ^ (n + 1) = uval ah al / 2 ^ n / 2 := by rw [div_pow_add]; rfl
    have hU0 : 0 ≤ uval ah al := by unfold uval W64 at *; omega
    have hX0 : 0 ≤ uval ah al / 2 ^ n := Int.ediv_nonneg hU0 (Int.le_of_lt (pow_pos n))
    rw [hX] at hq hr
    have hbit : (uval ah al / 2 ^ n % 2 = 0 ∨ uval ah al / 2 ^ n % 2 = 1) := by omega
    have hdm : uval bh bl * (uval ah al / 2 ^ n / 2 / uval bh bl) + uval ah al / 2 ^ n / 2 % uval bh bl = uval ah al / 2 ^ n / 2 := Int.mul_ediv_add_emod _ _
    have hR0 := Int.emod_nonneg (uval ah al / 2 ^ n / 2) (by omega : uval bh bl ≠ 0)
    have hR1 := Int.emod_lt_of_pos (uval ah al / 2 ^ n / 2) hB
    have hst := step_div (X := uval ah al / 2 ^ n) (bit := uval ah al / 2 ^ n % 2) hB (by rw [hdm]; omega) hR0 hR1 hbit
    have hT0 : 0 ≤ uval ah al / 2 ^ n / 2 / uval bh bl := Int.ediv_nonneg (by omega) (by omega)
    have hQ1 : uval ah al / 2 ^ n / uval bh bl * 2 ^ n ≤ uval ah al := by
      have a1 := Int.ediv_mul_le (uval ah al / 2 ^ n) (by omega : uval bh bl ≠ 0)
      have a2 := Int.ediv_mul_le (uval ah al) (by have := pow_pos n; omega : (2 : Int) ^ n ≠ 0)
      have a0 : 0 ≤ uval ah al / 2 ^ n / uval bh bl := Int.ediv_nonneg hX0 (by omega)
      have a3 : uval ah al / 2 ^ n / uval bh bl ≤ uval ah al / 2 ^ n := by
        have := Int.mul_le_mul_of_nonneg_left (show 1 ≤ uval bh bl by omega) a0
        omega
      have := Int.mul_le_mul_of_nonneg_right a3 (Int.le_of_lt (pow_pos n))
      omega
    generalize hTd : uval ah al / 2 ^ n / 2 / uval bh bl = T at *
    generalize hRd : uval ah al / 2 ^ n / 2 % uval bh bl = R at *
    have hrest : ∀ (bit : Int), bit = uval ah al / 2 ^ n % 2 → ∃ r1 r2 r3 r4, wide_part.j1 (k + 2) (n : Int) bit ah al bh bl qh ql rh rl = some (r1, r2, r3, r4) ∧ W64 r1 ∧ W64 r2 ∧ W64 r3 ∧ W64 r4 ∧ uval r1 r2 = uval ah al / uval bh bl ∧ uval r3 r4 = uval ah al % uval bh bl := by
      intro bit hb
      rw [← hb] at hst hbit
      simp only [wide_part.j1]
      have wl : W64 (rl / 9223372036854775808) := by unfold W64 at *; omega
      have e1 : Go.bits .or .u64 (IntKind.u64.wrap (rh * 2)) (rl / 9223372036854775808) = (rh * 2) % 18446744073709551616 + rl / 9223372036854775808 := by
        rw [wrap_u64]; exact or_join 1 (by unfold W64; omega) wl (by omega) (by unfold W64 at *; omega)
      have e2 : Go.bits .or .u64 (IntKind.u64.wrap (rl * 2)) bit = (rl * 2) % 18446744073709551616 + bit := by
        rw [wrap_u64]; exact or_join 1 (by unfold W64; omega) (by unfold W64; omega) (by omega) (by omega)
      rw [e1, e2, and63 w3]
      have wh' : W64 ((rh * 2) % 18446744073709551616 + rl / 9223372036854775808) := by unfold W64 at *; omega
      have wl' : W64 ((rl * 2) % 18446744073709551616 + bit) := by unfold W64 at *; omega
      generalize hnh : (rh * 2) % 18446744073709551616 + rl / 9223372036854775808 = nh at *
      generalize hnl : (rl * 2) % 18446744073709551616 + bit = nl at *
      have hval : uval nh nl = (2 * uval rh rl + bit) % 340282366920938463463374607431768211456 := by unfold uval W64 at *; omega
      have hBm : uval bh bl < 340282366920938463463374607431768211456 := by unfold uval W64 at *; omega
      -- what j2 does
      have j2t : ∀ x8, 2 * R + bit < uval bh bl → ∃ r1 r2 r3 r4, wide_part.j2 (k + 1) (n : Int) x8 true ah al bh bl qh ql nh nl = some (r1, r2, r3, r4) ∧ W64 r1 ∧ W64 r2 ∧ W64 r3 ∧ W64 r4 ∧ uval r1 r2 = uval ah al / uval bh bl ∧ uval r3 r4 = uval ah al % uval bh bl := by
        intro x8 hlt
        simp only [wide_part.j2, if_true]
        rw [show wrap64 ((n : Int) - 1) = (n : Int) - 1 from by unfold wrap64; omega]
        obtain ⟨ha, hb2⟩ := hst.1 hlt
        exact ih (by omega) k (by omega) qh ql nh nl w1 w2 wh' wl' (by rw [hq, ha, Int.pow_succ]; grind) (by rw [hval, hb2, hr]; omega)
      have j2f : ∀ x8, ¬ 2 * R + bit < uval bh bl → ∃ r1 r2 r3 r4, wide_part.j2 (k + 1) (n : Int) x8 false ah al bh bl qh ql nh nl = some (r1, r2, r3, r4) ∧ W64 r1 ∧ W64 r2 ∧ W64 r3 ∧ W64 r4 ∧ uval r1 r2 = uval ah al / uval bh bl ∧ uval r3 r4 = uval ah al % uval bh bl := by
        intro x8 hge
        obtain ⟨ha, hb2⟩ := hst.2 hge
        obtain ⟨mh, ml, hm, wm1, wm2, hmv⟩ := minus_is wh' wl' h3 h4
        simp only [wide_part.j2, Bool.false_eq_true, if_false]
        rw [hm, Option.bind_some, show wrap64 ((n : Int) - 1) = (n : Int) - 1 from by unfold wrap64; omega]
        have hr' : uval mh ml = uval ah al / 2 ^ n % uval bh bl := by rw [hmv, hval, hb2, hr]; omega
        have hUm : uval ah al < 340282366920938463463374607431768211456 := by unfold uval W64 at *; omega
        have hq' : (2 * T + 1) * 2 ^ n = uval qh ql + 2 ^ n := by rw [hq, Int.pow_succ]; grind
        rw [ha, hq'] at hQ1
        by_cases h64 : (n : Int) ≥ 64
        · rw [if_pos h64, htm, if_pos (by omega)]
          obtain ⟨m, rfl⟩ : ∃ m, n = 64 + m := ⟨n - 64, by omega⟩
          have hm64 : (64 + m) % 64 = m := by omega
          rw [hm64, shl64 m (by omega)]
          have p64 : (2 : Int) ^ (64 + m) = 18446744073709551616 * 2 ^ m := by rw [pow_split]; rfl
          have hqe : uval qh ql = 18446744073709551616 * (T * (2 ^ m * 2)) := by rw [hq, Int.pow_succ, p64]; grind
          have hql : ql = 0 := by unfold uval W64 at *; omega
          have hqh : qh = T * (2 ^ m * 2) := by unfold uval W64 at *; omega
          rw [p64] at hQ1
          have wq : W64 (qh + 2 ^ m) := by have := pow_pos m; unfold uval W64 at *; omega
          have ho : Go.bits .or .u64 qh (2 ^ m) = qh + 2 ^ m := by
            refine or_join (m + 1) w1 (by have := pow_pos m; unfold W64 at *; omega) ?_ (by rw [Int.pow_succ]; have := pow_pos m; omega)
            rw [hqh, Int.pow_succ]; exact Int.mul_emod_left _ _
          rw [ho]
          exact ih (by omega) k (by omega) _ ql mh ml wq w2 wm1 wm2 (by rw [ha, hq', p64]; unfold uval; omega) hr'
        · rw [if_neg h64, if_pos (by omega), shl64 n (by omega)]
          obtain ⟨j, hj⟩ : ∃ j, 64 = n + 1 + j := ⟨63 - n, by omega⟩
          have p64 : (18446744073709551616 : Int) = 2 ^ (n + 1) * 2 ^ j := by
            have : (18446744073709551616 : Int) = 2 ^ 64 := by decide
            rw [this, hj, pow_split]
          have hdv : ql % 2 ^ (n + 1) = 0 := by
            have : ql = 2 ^ (n + 1) * (T - qh * 2 ^ j) := by
              have e : ql = uval qh ql - qh * 18446744073709551616 := by unfold uval; omega
              rw [e, hq, p64]; grind
            rw [this]; exact Int.mul_emod_right _ _
          have hle : ql + 2 ^ (n + 1) ≤ 18446744073709551616 := by
            obtain ⟨c, hc⟩ : ∃ c, ql = 2 ^ (n + 1) * c := ⟨ql / 2 ^ (n + 1), by have := Int.mul_ediv_add_emod ql (2 ^ (n + 1)); omega⟩
            have hlt : 2 ^ (n + 1) * c < 2 ^ (n + 1) * 2 ^ j := by rw [← p64, ← hc]; exact w2.2
            have := Int.lt_of_mul_lt_mul_left hlt (Int.le_of_lt (pow_pos (n + 1)))
            have := Int.mul_le_mul_of_nonneg_left (show c + 1 ≤ 2 ^ j by omega) (Int.le_of_lt (pow_pos (n + 1)))
            rw [hc, p64]
            have e : (2 : Int) ^ (n + 1) * (c + 1) = 2 ^ (n + 1) * c + 2 ^ (n + 1) := by grind
            omega
          have hp := pow_pos n
          have hs : (2 : Int) ^ (n + 1) = 2 ^ n * 2 := Int.pow_succ ..
          have wq : W64 (ql + 2 ^ n) := by unfold W64 at *; omega
          have ho : Go.bits .or .u64 ql (2 ^ n) = ql + 2 ^ n := or_join (n + 1) w2 (by unfold W64 at *; omega) hdv (by omega)
          rw [ho]
          exact ih (by omega) k (by omega) qh _ mh ml w1 wq wm1 wm2 (by rw [ha, hq']; unfold uval; omega) hr'
      by_cases ov : rh < 9223372036854775808
      · rw [if_pos ov, if_pos rfl, less_is _ _ _ _ wl' h4, Option.bind_some]
        have hv : uval nh nl = 2 * R + bit := by rw [hval, hr]; unfold uval W64 at *; omega
        rw [hv]
        by_cases hlt : 2 * R + bit < uval bh bl
        · rw [decide_eq_true hlt]; exact j2t _ hlt
        · rw [decide_eq_false hlt]; exact j2f _ hlt
      · rw [if_neg ov, if_neg (by decide)]
        exact j2f _ (by rw [← hr]; unfold uval W64 at *; omega)
    simp only [wide_part.l0]
    rw [if_pos (by omega), htm, if_pos (by omega)]
    by_cases h64 : (n : Int) ≥ 64
    · rw [if_pos h64]
      obtain ⟨m, rfl⟩ : ∃ m, n = 64 + m := ⟨n - 64, by omega⟩
      have hm64 : (64 + m) % 64 = m := by omega
      rw [hm64, shr64 _ m (by omega)]
      have wq : W64 (ah / 2 ^ m) := ⟨Int.ediv_nonneg h1.1 (Int.le_of_lt (pow_pos m)), by
        have := Int.ediv_le_self (2 ^ m) h1.1
        have := h1.2; omega⟩
      rw [and1 wq]
      exact hrest _ (by rw [bit_hi h1 h2 m])
    · rw [if_neg h64]
      have hm64 : n % 64 = n := by omega
      rw [hm64, shr64 _ n (by omega)]
      have wq : W64 (al / 2 ^ n) := ⟨Int.ediv_nonneg h2.1 (Int.le_of_lt (pow_pos n)), by
        have := Int.ediv_le_self (2 ^ n) h2.1
        have := h2.2; omega⟩
      rw [and1 wq]
      exact hrest _ (by rw [bit_lo h1 h2 n (by omega)])
theorem part_is (k : Nat) (hk : 385 ≤ k) {ah al bh bl : Int} (h1 : W64 ah) (h2 : W64 al) (h3 : W64 bh) (h4 : W64 bl) (hB : 0 < uval bh bl) :
    ∃ r1 r2 r3 r4, wide_part.f k ah al bh bl = some (r1, r2, r3, r4) ∧ W64 r1 ∧ W64 r2 ∧ W64 r3 ∧ W64 r4 ∧ uval r1 r2 = uval ah al / uval bh bl ∧ uval r3 r4 = uval ah al % uval bh bl := by
  unfold wide_part.f
  have hU : 0 ≤ uval ah al ∧ uval ah al < 2 ^ 128 := by
    have : (2 : Int) ^ 128 = 340282366920938463463374607431768211456 := by decide
    rw [this]; unfold uval W64 at *; omega
  have hz : uval ah al / 2 ^ 128 = 0 := Int.ediv_eq_zero_of_lt hU.1 hU.2
  exact part_l0 h1 h2 h3 h4 hB 128 (by omega) k (by omega) 0 0 0 0 W64_0 W64_0 W64_0 W64_0 (by rw [hz]; simp [uval]) (by rw [hz]; simp [uval])
end Go.Proofs.Ytekndmlcmepekaa.Q
