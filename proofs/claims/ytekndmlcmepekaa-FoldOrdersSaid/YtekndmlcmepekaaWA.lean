/- Words of 64 bits and numbers of 128 bits: what the printed functions' operations on bits say of whole numbers. Plain Lean; no condition. -/
import Derived.Test.YtekndmlcmepekaaQx0
import Derived.Test.YtekndmlcmepekaaQx12
import Derived.Test.YtekndmlcmepekaaQx15
import Derived.Test.YtekndmlcmepekaaQx16
import Derived.Test.YtekndmlcmepekaaQx18
import Derived.Test.YtekndmlcmepekaaQx5
import Derived.Test.YtekndmlcmepekaaQx6
import Derived.Test.YtekndmlcmepekaaQx7
import Derived.Test.YtekndmlcmepekaaQx8
import Derived.Laws.MathBits
namespace Go.Proofs.Ytekndmlcmepekaa.Q
open Go.RowKit Go.Proofs.YtekndmlcmepekaaW.PrintWords Go.Proofs.YtekndmlcmepekaaW.PrintLast Go.Proofs.YtekndmlcmepekaaW.PrintMore

set_option linter.unusedVariables false

def W64 (x : Int) : Prop := 0 ≤ x ∧ x < 18446744073709551616
def uval (h l : Int) : Int := h * 18446744073709551616 + l
def sval (h l : Int) : Int := if h < 9223372036854775808 then h * 18446744073709551616 + l else h * 18446744073709551616 + l - 340282366920938463463374607431768211456
def fits (s : Int) : Prop := -170141183460469231731687303715884105728 ≤ s ∧ s < 170141183460469231731687303715884105728
instance (s : Int) : Decidable (fits s) := inferInstanceAs (Decidable (_ ∧ _))
def hiS (s : Int) : Int := s % 340282366920938463463374607431768211456 / 18446744073709551616
def loS (s : Int) : Int := s % 18446744073709551616
def ans (s : Int) : Int × Int × Int := if fits s then (hiS s, loS s, 0) else (0, 0, 10)

theorem ans_pos {s : Int} (h : fits s) : ans s = (hiS s, loS s, 0) := if_pos h
theorem ans_neg {s : Int} (h : ¬ fits s) : ans s = (0, 0, 10) := if_neg h
theorem hiS_W (s : Int) : W64 (hiS s) := by unfold W64 hiS; omega
theorem loS_W (s : Int) : W64 (loS s) := by unfold W64 loS; omega
theorem sval_fits {h l : Int} (hh : W64 h) (hl : W64 l) : fits (sval h l) := by unfold W64 at *; unfold fits sval; split <;> omega
theorem sval_back {s : Int} (h : fits s) : sval (hiS s) (loS s) = s := by unfold fits at h; unfold sval hiS loS; split <;> omega
theorem hiS_sval {h l : Int} (hh : W64 h) (hl : W64 l) : hiS (sval h l) = h := by unfold W64 at *; unfold hiS sval; split <;> omega
theorem loS_sval {h l : Int} (hh : W64 h) (hl : W64 l) : loS (sval h l) = l := by unfold W64 at *; unfold loS sval; split <;> omega
theorem sval_inj {h l h' l' : Int} (hh : W64 h) (hl : W64 l) (hh' : W64 h') (hl' : W64 l') (e : sval h l = sval h' l') : h = h' ∧ l = l' := by
  have a := hiS_sval hh hl
  have b := loS_sval hh hl
  rw [e] at a b
  exact ⟨a.symm.trans (hiS_sval hh' hl'), b.symm.trans (loS_sval hh' hl')⟩

theorem tb63 (n : Nat) (h : n < 18446744073709551616) : n.testBit 63 = decide (9223372036854775808 ≤ n) := by
  rw [Nat.testBit_eq_decide_div_mod_eq]
  have : (n / 2 ^ 63 % 2 = 1) ↔ 9223372036854775808 ≤ n := by omega
  simp only [this]
theorem and63 {x : Int} (hx : W64 x) : Go.bits .and .u64 x 9223372036854775808 = if x < 9223372036854775808 then 0 else 9223372036854775808 := by
  obtain ⟨h0, h1⟩ := hx
  obtain ⟨n, rfl⟩ := Int.eq_ofNat_of_zero_le h0
  have hn : n < 18446744073709551616 := by omega
  have := bits_and_u64_nat n 9223372036854775808 hn (by omega)
  rw [show ((9223372036854775808 : Nat) : Int) = 9223372036854775808 from rfl] at this
  have hb := tb63 n hn
  rw [this]
  by_cases h : 9223372036854775808 ≤ n
  · have e : n &&& 9223372036854775808 = 9223372036854775808 := by
      apply Nat.eq_of_testBit_eq
      intro i
      rw [Nat.testBit_and, show (9223372036854775808 : Nat) = 2 ^ 63 from rfl, Nat.testBit_two_pow]
      by_cases hi : 63 = i
      · subst hi; simp [hb, h]
      · simp [hi]
    rw [e, if_neg (by omega)]; rfl
  · have e : n &&& 9223372036854775808 = 0 := by
      apply Nat.eq_of_testBit_eq
      intro i
      rw [Nat.testBit_and, show (9223372036854775808 : Nat) = 2 ^ 63 from rfl, Nat.testBit_two_pow, Nat.zero_testBit]
      by_cases hi : 63 = i
      · subst hi; simp [hb, h]
      · simp [hi]
    rw [e, if_pos (by omega)]; rfl
theorem xor_W {x y : Int} (hx : W64 x) (hy : W64 y) : W64 (Go.bits .xor .u64 x y) ∧ (9223372036854775808 ≤ Go.bits .xor .u64 x y ↔ ¬ (9223372036854775808 ≤ x ↔ 9223372036854775808 ≤ y)) := by
  obtain ⟨n, rfl⟩ := Int.eq_ofNat_of_zero_le hx.1
  obtain ⟨m, rfl⟩ := Int.eq_ofNat_of_zero_le hy.1
  have hn : n < 18446744073709551616 := by have := hx.2; omega
  have hm : m < 18446744073709551616 := by have := hy.2; omega
  have h := bits_xor_u64_nat n m hn hm
  have hlt : n ^^^ m < 18446744073709551616 := Nat.xor_lt_two_pow (n := 64) hn hm
  have ht := tb63 _ hlt
  rw [Nat.testBit_xor, tb63 n hn, tb63 m hm] at ht
  rw [h]
  refine ⟨⟨by omega, by omega⟩, ?_⟩
  have e : (9223372036854775808 ≤ ((n ^^^ m : Nat) : Int)) ↔ 9223372036854775808 ≤ n ^^^ m := by omega
  rw [e]
  by_cases a : 9223372036854775808 ≤ n <;> by_cases b : 9223372036854775808 ≤ m <;> simp [a, b] at ht ⊢ <;> omega
theorem and_W {x y : Int} (hx : W64 x) (hy : W64 y) : W64 (Go.bits .and .u64 x y) ∧ (9223372036854775808 ≤ Go.bits .and .u64 x y ↔ (9223372036854775808 ≤ x ∧ 9223372036854775808 ≤ y)) := by
  obtain ⟨n, rfl⟩ := Int.eq_ofNat_of_zero_le hx.1
  obtain ⟨m, rfl⟩ := Int.eq_ofNat_of_zero_le hy.1
  have hn : n < 18446744073709551616 := by have := hx.2; omega
  have hm : m < 18446744073709551616 := by have := hy.2; omega
  have h := bits_and_u64_nat n m hn hm
  have hlt : n &&& m < 18446744073709551616 := Nat.and_lt_two_pow (n := 64) _ hm
  have ht := tb63 _ hlt
  rw [Nat.testBit_and, tb63 n hn, tb63 m hm] at ht
  rw [h]
  refine ⟨⟨by omega, by omega⟩, ?_⟩
  have e : (9223372036854775808 ≤ ((n &&& m : Nat) : Int)) ↔ 9223372036854775808 ≤ n &&& m := by omega
  rw [e]
  by_cases a : 9223372036854775808 ≤ n <;> by_cases b : 9223372036854775808 ≤ m <;> simp [a, b] at ht ⊢ <;> omega
/-- The test of Add and Sub: both have the other sign. -/
theorem signs {a b c d : Int} (ha : W64 a) (hb : W64 b) (hc : W64 c) (hd : W64 d) :
    Go.bits .and .u64 (Go.bits .and .u64 (Go.bits .xor .u64 a b) (Go.bits .xor .u64 c d)) 9223372036854775808 = 0 ↔
      ¬ (¬ (9223372036854775808 ≤ a ↔ 9223372036854775808 ≤ b) ∧ ¬ (9223372036854775808 ≤ c ↔ 9223372036854775808 ≤ d)) := by
  obtain ⟨w1, e1⟩ := xor_W ha hb
  obtain ⟨w2, e2⟩ := xor_W hc hd
  obtain ⟨w3, e3⟩ := and_W w1 w2
  rw [and63 w3, ← e1, ← e2, ← e3]
  split <;> omega
theorem xorsign {x : Int} (hx : W64 x) : Go.bits .xor .u64 x 9223372036854775808 = if x < 9223372036854775808 then x + 9223372036854775808 else x - 9223372036854775808 := by
  obtain ⟨n, rfl⟩ := Int.eq_ofNat_of_zero_le hx.1
  have hn : n < 18446744073709551616 := by have := hx.2; omega
  have h := bits_xor_u64_nat n 9223372036854775808 hn (by omega)
  rw [show ((9223372036854775808 : Nat) : Int) = 9223372036854775808 from rfl] at h
  rw [h]
  have key : ∀ a : Nat, a < 9223372036854775808 → (a ^^^ 9223372036854775808) = a + 9223372036854775808 := by
    intro a ha
    rw [Nat.xor_comm, show (9223372036854775808 : Nat) = 2 ^ 63 * 1 from rfl]
    have h1 := Nat.two_pow_add_eq_or_of_lt (i := 63) (b := a) ha 1
    have h2 : (2 ^ 63 * 1 ^^^ a) = (2 ^ 63 * 1 ||| a) := by
      apply Nat.eq_of_testBit_eq
      intro i
      rw [Nat.testBit_xor, Nat.testBit_or, Nat.mul_one, Nat.testBit_two_pow]
      by_cases hi : 63 = i
      · subst hi
        have : a.testBit 63 = false := Nat.testBit_lt_two_pow ha
        simp [this]
      · simp [hi]
    rw [h2, ← h1]; omega
  by_cases hlt : n < 9223372036854775808
  · rw [key n hlt, if_pos (by omega)]; omega
  · rw [if_neg (by omega)]
    have h3 := key (n - 9223372036854775808) (by omega)
    have h4 : n ^^^ 9223372036854775808 = n - 9223372036854775808 := by
      have e : n = (n - 9223372036854775808) ^^^ 9223372036854775808 := by rw [h3]; omega
      conv => lhs; rw [e]
      rw [Nat.xor_assoc, Nat.xor_self, Nat.xor_zero]
    rw [h4]; omega

theorem Add_is {ah al bh bl : Int} (h1 : W64 ah) (h2 : W64 al) (h3 : W64 bh) (h4 : W64 bl) : wide_Add.f ah al bh bl = some (ans (sval ah al + sval bh bl)) := by
  have hc : add64C al bl 0 = (al + bl) / 18446744073709551616 := by unfold add64C W64 at *; omega
  have hlo : add64S al bl 0 = (al + bl) % 18446744073709551616 := by unfold add64S W64 at *; omega
  have hhi : add64S ah bh ((al + bl) / 18446744073709551616) = (ah + bh + (al + bl) / 18446744073709551616) % 18446744073709551616 := by unfold add64S W64 at *; omega
  have hw : W64 ((ah + bh + (al + bl) / 18446744073709551616) % 18446744073709551616) := by unfold W64 at *; omega
  unfold wide_Add.f
  rw [hc, hlo, hhi, if_pos (by unfold W64 at *; omega)]
  have ht := signs h1 hw h3 hw
  unfold ans
  by_cases hf : fits (sval ah al + sval bh bl)
  · rw [if_pos hf, if_pos (ht.mpr (by unfold fits sval W64 at *; split at hf <;> split at hf <;> omega))]
    congr 2
    · unfold hiS sval W64 fits at *; split <;> split <;> omega
    · congr 1; unfold loS sval W64 at *; split <;> split <;> omega
  · rw [if_neg hf, if_neg (fun h => hf (by have := ht.mp h; unfold fits sval W64 at *; split <;> split <;> omega))]
theorem Sub_is {ah al bh bl : Int} (h1 : W64 ah) (h2 : W64 al) (h3 : W64 bh) (h4 : W64 bl) : wide_Sub.f ah al bh bl = some (ans (sval ah al - sval bh bl)) := by
  have hc : sub64C al bl 0 = if al < bl then 1 else 0 := by unfold sub64C W64 at *; split <;> split <;> omega
  have hlo : sub64S al bl 0 = (al - bl) % 18446744073709551616 := by unfold sub64S W64 at *; omega
  have hhi : sub64S ah bh (if al < bl then 1 else 0) = (ah - bh - (if al < bl then 1 else 0)) % 18446744073709551616 := by unfold sub64S W64 at *; split <;> omega
  have hw : W64 ((ah - bh - (if al < bl then 1 else 0)) % 18446744073709551616) := by unfold W64 at *; omega
  unfold wide_Sub.f
  rw [hc, hlo, hhi, if_pos (by split <;> omega)]
  have ht := signs h1 h3 h1 hw
  unfold ans
  by_cases hf : fits (sval ah al - sval bh bl)
  · rw [if_pos hf, if_pos (ht.mpr (by unfold fits sval W64 at *; split at hf <;> split at hf <;> split <;> omega))]
    congr 2
    · unfold hiS sval W64 fits at *; split <;> split <;> split <;> omega
    · congr 1; unfold loS sval W64 at *; split <;> split <;> omega
  · rw [if_neg hf, if_neg (fun h => hf (by have := ht.mp h; unfold fits sval W64 at *; split <;> split <;> split at this <;> omega))]
end Go.Proofs.Ytekndmlcmepekaa.Q
