/- FoldLimits' pure statement: texts are put together up to the limit, and not beyond. No condition. -/
import Derived.Test.YtekndmlcmepekaaFA
import Derived.Test.YtekndmlcmepekaaFD
import Derived.Test.YtekndmlcmepekaaQx23
namespace Go.Proofs.Ytekndmlcmepekaa.Q
open Go.RowKit Go.Proofs.YtekndmlcmepekaaW.PrintWords Go.Proofs.YtekndmlcmepekaaW.PrintLast Go.Proofs.YtekndmlcmepekaaW.PrintMore
set_option linter.unusedVariables false

theorem wraps_i64 (n : Int) (h0 : 0 ≤ n) (h1 : n < 2 ^ 62) : IntKind.i64.wrap n = n := by rw [IntKind.wrap_i64]; omega
theorem and_bit (m i : Nat) (hm : m < 131072) (hi : i ≤ 20) : Go.bits .and .i64 (m : Int) ((2 ^ i : Nat) : Int) = ((m / 2 ^ i % 2 * 2 ^ i : Nat) : Int) := by
  have h2 : 2 ^ i < 2 ^ 62 := Nat.pow_lt_pow_right (by decide) (by omega)
  have := (bits_nat .i64 62 (by decide) wraps_i64 m (2 ^ i) (by omega) h2).1
  rw [this]
  congr 1
  have hb : m.testBit i = decide (m / 2 ^ i % 2 = 1) := Nat.testBit_eq_decide_div_mod_eq
  have : m / 2 ^ i % 2 = 0 ∨ m / 2 ^ i % 2 = 1 := by omega
  rcases this with h | h
  · rw [h] at hb ⊢
    rw [Nat.zero_mul]
    apply Nat.eq_of_testBit_eq
    intro j
    rw [Nat.testBit_and, Nat.testBit_two_pow, Nat.zero_testBit]
    by_cases hj : i = j
    · subst hj; simp [hb]
    · simp [hj]
  · rw [h] at hb ⊢
    rw [Nat.one_mul]
    apply Nat.eq_of_testBit_eq
    intro j
    rw [Nat.testBit_and, Nat.testBit_two_pow]
    by_cases hj : i = j
    · subst hj; simp [hb]
    · simp [hj]
theorem mod_step (m i : Nat) : m % 2 ^ (i + 1) = m % 2 ^ i + m / 2 ^ i % 2 * 2 ^ i := by
  rw [Nat.pow_succ, Nat.mod_mul, Nat.mul_comm (2 ^ i)]
theorem bin_add (k : Nat) (s t : ByteArray) (h : s.size + t.size ≤ 1000000) : fold_Binary.f k ⟨#[43]⟩ 3 0 0 false s 3 0 0 false t = some (if s.size + t.size > 65536 then (0, 0, 0, false, E, 10) else (3, 0, 0, false, s ++ t, 0)) := by
  rw [bin_texts]
  unfold fold_texts.f
  rw [tl, if_pos rfl]
  by_cases c : s.size + t.size > 65536
  · rw [if_pos (by unfold wrap64; omega), if_pos c]
  · rw [if_neg (by unfold wrap64; omega), if_neg c, if_pos (by omega)]
    rfl
theorem FL_end (m n : Nat) (hm : m < 65538) (hn : n < 65538) (k : Nat) (x y s : ByteArray) (hx : x.size = m) (hy : y.size = n) (p : Int) (hp : 65536 < p) :
    lorgnettelaw08_FoldLimits.l0 (k + 1) x y s (m : Int) (n : Int) p = some true := by
  simp only [lorgnettelaw08_FoldLimits.l0]
  rw [if_neg (by omega)]
  rw [show fold_Text.f x = some (3, 0, 0, false, x) from rfl, show fold_Text.f y = some (3, 0, 0, false, y) from rfl, Option.bind_some, Option.bind_some]
  have hb := bin_add k x y (by omega)
  change (fold_Binary.f k ⟨#[43]⟩ 3 0 0 false x 3 0 0 false y).bind _ = some true
  rw [hb, Option.bind_some]
  have hw : wrap64 ((m : Int) + (n : Int)) = (m : Int) + n := by unfold wrap64; omega
  rw [hw]
  by_cases c : x.size + y.size > 65536
  · rw [if_pos (by omega), if_pos c]
    simp only [tl]
    rfl
  · rw [if_neg (by omega), if_neg c]
    have e : (((x ++ y).size : Int) == (m : Int) + (n : Int)) = true := by rw [beq_iff_eq, ByteArray.size_append]; omega
    simp only [if_true]
    rw [e]
theorem FL_l0 (m n : Nat) (hm : m < 65538) (hn : n < 65538) : ∀ (d i k : Nat), i + d = 17 → d + 1 < k → ∀ x y s : ByteArray, x.size = m % 2 ^ i → y.size = n % 2 ^ i → s.size = 2 ^ i →
    lorgnettelaw08_FoldLimits.l0 k x y s (m : Int) (n : Int) ((2 ^ i : Nat) : Int) = some true := by
  intro d
  induction d with
  | zero =>
    intro i k hi hk x y s hx hy hs
    obtain ⟨k, rfl⟩ : ∃ q, k = q + 1 := ⟨k - 1, by omega⟩
    have e : 2 ^ i = 131072 := by rw [show i = 17 by omega]
    rw [e] at hx hy ⊢
    exact FL_end m n hm hn k x y s (by omega) (by omega) _ (by omega)
  | succ d ih =>
    intro i k hi hk x y s hx hy hs
    obtain ⟨k, rfl⟩ : ∃ q, k = q + 1 := ⟨k - 1, by omega⟩
    have h2 : 2 ^ i ≤ 2 ^ 16 := Nat.pow_le_pow_right (by decide) (by omega)
    have hxm : x.size ≤ m := by rw [hx]; exact Nat.mod_le _ _
    have hym : y.size ≤ n := by rw [hy]; exact Nat.mod_le _ _
    have hp : wrap64 (((2 ^ i : Nat) : Int) * 2) = ((2 ^ (i + 1) : Nat) : Int) := by rw [Nat.pow_succ]; unfold wrap64; omega
    have hpos : 0 < 2 ^ i := Nat.two_pow_pos i
    have hs2 : (s ++ s).size = 2 ^ (i + 1) := by rw [ByteArray.size_append, hs, Nat.pow_succ]; omega
    have zero : ∀ (m : Nat) (x : ByteArray), m / 2 ^ i % 2 = 0 → x.size = m % 2 ^ i → x.size = m % 2 ^ (i + 1) := by
      intro m x h h'; rw [mod_step, h, h']; omega
    have one : ∀ (m : Nat) (x : ByteArray), m / 2 ^ i % 2 = 1 → x.size = m % 2 ^ i → (x ++ s).size = m % 2 ^ (i + 1) := by
      intro m x h h'; rw [mod_step, h, ByteArray.size_append, h', hs]; omega
    simp only [lorgnettelaw08_FoldLimits.l0]
    rw [if_pos (by omega), and_bit m i (by omega) (by omega), and_bit n i (by omega) (by omega), hp]
    have hm2 : m / 2 ^ i % 2 = 0 ∨ m / 2 ^ i % 2 = 1 := by omega
    have hn2 : n / 2 ^ i % 2 = 0 ∨ n / 2 ^ i % 2 = 1 := by omega
    rcases hm2 with a | a <;> rcases hn2 with b | b
    · rw [a, b, Nat.zero_mul, if_pos (by rfl), if_pos (by rfl), if_pos (by omega)]
      exact ih (i + 1) k (by omega) (by omega) _ _ _ (zero m x a hx) (zero n y b hy) hs2
    · rw [a, b, Nat.zero_mul, Nat.one_mul, if_pos (by rfl), if_neg (by omega), if_pos (by omega), if_pos (by omega)]
      exact ih (i + 1) k (by omega) (by omega) _ _ _ (zero m x a hx) (one n y b hy) hs2
    · rw [a, b, Nat.zero_mul, Nat.one_mul, if_neg (by omega), if_pos (by omega), if_pos (by rfl), if_pos (by omega)]
      exact ih (i + 1) k (by omega) (by omega) _ _ _ (one m x a hx) (zero n y b hy) hs2
    · rw [a, b, Nat.one_mul, if_neg (by omega), if_pos (by omega), if_neg (by omega), if_pos (by omega), if_pos (by omega)]
      exact ih (i + 1) k (by omega) (by omega) _ _ _ (one m x a hx) (one n y b hy) hs2
theorem bound (a : Int) : ∃ m : Nat, wrap64 (Int.tmod (IntKind.u64.wrap a) 65538) = (m : Int) ∧ m < 65538 := by
  rw [wrap_u64, Int.tmod_eq_emod_of_nonneg (by omega)]
  refine ⟨(a % 18446744073709551616 % 65538).toNat, ?_, by omega⟩
  unfold wrap64
  omega
theorem FoldLimits_pure (a b : Int) (_ : (Lit.int .i64 a).wf = true) (_ : (Lit.int .i64 b).wf = true) : lorgnettelaw08_FoldLimits.f 600 a b = some true := by
  obtain ⟨m, hm, hm'⟩ := bound a
  obtain ⟨n, hn, hn'⟩ := bound b
  unfold lorgnettelaw08_FoldLimits.f
  rw [awake_ok, Option.bind_some, if_pos rfl, hm, hn]
  exact FL_l0 m n hm' hn' 17 0 600 (by omega) (by omega) _ _ _ (by rw [Nat.pow_zero, Nat.mod_one]; rfl) (by rw [Nat.pow_zero, Nat.mod_one]; rfl) rfl
end Go.Proofs.Ytekndmlcmepekaa.Q
