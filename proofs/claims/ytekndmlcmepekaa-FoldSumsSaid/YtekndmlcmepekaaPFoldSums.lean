/- FoldSums' pure statement: a sum less one part is the other one, texts are put together, a number's negative is negative once more it. No condition. -/
import Derived.Test.YtekndmlcmepekaaFA
import Derived.Test.YtekndmlcmepekaaFD
import Derived.Test.YtekndmlcmepekaaQx22
namespace Go.Proofs.Ytekndmlcmepekaa.Q
open Go.RowKit Go.Proofs.YtekndmlcmepekaaW.PrintWords Go.Proofs.YtekndmlcmepekaaW.PrintLast Go.Proofs.YtekndmlcmepekaaW.PrintMore
set_option linter.unusedVariables false

theorem un_neg (k : Nat) {ah al : Int} (h1 : W64 ah) (h2 : W64 al) (x : Bool) (s : ByteArray) : fold_Unary.f (k + 1) ⟨#[45]⟩ 1 ah al x s = some (kn (-sval ah al)) := by
  unfold fold_Unary.f
  rw [tl, if_pos rfl]
  simp only [fold_Unary.j0]
  rw [if_pos (by decide), Neg_is h1 h2, Option.bind_some, number_ans]; rfl
theorem un_zero (k : Nat) : fold_Unary.f (k + 1) ⟨#[45]⟩ 0 0 0 false E = some (0, 0, 0, false, E, 9) := by
  unfold fold_Unary.f
  rw [tl, if_pos rfl]
  simp only [fold_Unary.j0]
  rw [if_neg (by decide), tl, if_neg (by decide)]
theorem bin_bad (k : Nat) {a0 ah al : Int} {x : Bool} {s : ByteArray} {b0 bh bl : Int} {y : Bool} {t : ByteArray} (h1 : ¬ (a0 = 1 ∧ b0 = 1)) (h3 : ¬ (a0 = 3 ∧ b0 = 3)) : fold_Binary.f k ⟨#[43]⟩ a0 ah al x s b0 bh bl y t = some (0, 0, 0, false, E, 9) := by
  unfold fold_Binary.f
  by_cases c : a0 = b0
  · subst c
    rw [if_pos rfl, if_neg (by omega)]
    by_cases c2 : a0 = 2
    · rw [if_pos c2]
      unfold fold_truths.f
      rw [tl, if_neg (by decide), if_neg (by decide), if_neg (by decide), if_neg (by decide)]; rfl
    · rw [if_neg c2, if_neg (by omega)]
  · rw [if_neg c]
/- the last part: a number's negative, once more negative -/
theorem twice (k : Nat) {ah al : Int} (h1 : W64 ah) (h2 : W64 al) (x : Bool) (s : ByteArray) :
    ((fold_Unary.f (k + 1) ⟨#[45]⟩ 1 ah al x s).bind fun b1 => ((fold_Unary.f (k + 1) ⟨#[45]⟩ b1.1 b1.2.1 b1.2.2.1 b1.2.2.2.1 b1.2.2.2.2.1).bind fun b2 => (if b1.2.2.2.2.2 = 0 then (if b2.2.2.2.2.2 = 0 then (some (b2.2.1 == ah && (b2.2.2.1 == al))) else (none)) else (some true)))) = some true := by
  have fa := sval_fits h1 h2
  rw [un_neg k h1 h2, Option.bind_some]
  by_cases f : fits (-sval ah al)
  · have e : kn (-sval ah al) = (1, hiS (-sval ah al), loS (-sval ah al), false, E, 0) := if_pos f
    rw [e]
    simp only
    rw [un_neg k (hiS_W _) (loS_W _), Option.bind_some, sval_back f, Int.neg_neg]
    have e2 : kn (sval ah al) = (1, ah, al, false, E, 0) := by unfold kn; rw [if_pos fa, hiS_sval h1 h2, loS_sval h1 h2]
    rw [e2]
    simp
  · have e : kn (-sval ah al) = (0, 0, 0, false, E, 10) := if_neg f
    rw [e]
    simp only
    rw [un_zero, Option.bind_some]
    rfl
theorem FoldSums_pure (a0 ah al : Int) (x : Bool) (s : ByteArray) (b0 bh bl : Int) (y : Bool) (t : ByteArray) (g0 : (Lit.int .i64 a0).wf = true) (g1 : (Lit.int .u64 ah).wf = true) (g2 : (Lit.int .u64 al).wf = true) (_ : s.size ≤ 140737488351232)
    (g5 : (Lit.int .i64 b0).wf = true) (g6 : (Lit.int .u64 bh).wf = true) (g7 : (Lit.int .u64 bl).wf = true) (_ : t.size ≤ 140737488351232) : lorgnettelaw08_FoldSums.f 600 a0 ah al x s b0 bh bl y t = some true := by
  replace g1 := W64_wf g1
  replace g2 := W64_wf g2
  replace g6 := W64_wf g6
  replace g7 := W64_wf g7
  have fa := sval_fits g1 g2
  have fb := sval_fits g6 g7
  have yes : lorgnettelaw08_FoldSums.j0 600 true a0 ah al x s b0 bh bl y t = some true := by simp only [lorgnettelaw08_FoldSums.j0, if_true]
  have bad : ¬ (a0 = 1 ∧ b0 = 1) → ∀ q : Bool, q = true → lorgnettelaw08_FoldSums.j2 598 9 q a0 ah al x s b0 bh bl y t 0 0 0 false E = some true := by
    rintro _ q rfl
    simp only [lorgnettelaw08_FoldSums.j2, if_true, tl]
    rfl
  unfold lorgnettelaw08_FoldSums.f
  rw [awake_ok, Option.bind_some, if_pos rfl]
  by_cases c1 : (s.size : Int) > 1024
  · rw [if_pos c1, yes]
  rw [if_neg c1]
  by_cases c2 : (t.size : Int) > 1024
  · rw [show decide ((t.size : Int) > 1024) = true from decide_eq_true c2, yes]
  rw [show decide ((t.size : Int) > 1024) = false from decide_eq_false c2]
  simp only [lorgnettelaw08_FoldSums.j0]
  rw [if_neg (by decide)]
  by_cases c3 : a0 = 3 ∧ b0 = 3
  · obtain ⟨rfl, rfl⟩ := c3
    rw [bin_texts]
    unfold fold_texts.f
    rw [tl, if_pos rfl, if_neg (by unfold wrap64; omega), if_pos (by omega)]
    simp only [fold_Text.f, Option.bind_some]
    simp only [lorgnettelaw08_FoldSums.j1, if_true]
    rw [if_pos (by decide), if_pos (by omega)]
    simp
  · by_cases c4 : a0 = 1 ∧ b0 = 1
    · obtain ⟨rfl, rfl⟩ := c4
      rw [bin_ints, ints_add _ g1 g2 g6 g7, Option.bind_some, if_neg (by decide)]
      simp only [lorgnettelaw08_FoldSums.j1, if_true]
      rw [if_neg (by decide), show ((1 : Int) != 1) = false from rfl]
      simp only [lorgnettelaw08_FoldSums.j2]
      rw [if_neg (by decide)]
      by_cases f : fits (sval ah al + sval bh bl)
      · have e : kn (sval ah al + sval bh bl) = (1, hiS (sval ah al + sval bh bl), loS (sval ah al + sval bh bl), false, E, 0) := if_pos f
        rw [e]
        simp only
        rw [if_true, bin_ints, ints_sub _ (hiS_W _) (loS_W _) g6 g7, Option.bind_some, sval_back f, Int.add_sub_cancel]
        have e2 : kn (sval ah al) = (1, ah, al, false, E, 0) := by unfold kn; rw [if_pos fa, hiS_sval g1 g2, loS_sval g1 g2]
        rw [e2]
        simp only [if_true, beq_self_eq_true, Bool.not_true, Bool.or_false, Bool.false_eq_true, if_false]
        exact twice _ g1 g2 x s
      · have e : kn (sval ah al + sval bh bl) = (0, 0, 0, false, E, 10) := if_neg f
        rw [e]
        simp only
        rw [if_neg (by decide)]
        exact twice _ g1 g2 x s
    · rw [bin_bad _ c4 c3, Option.bind_some]
      have j1 : ∀ q : Bool, q = false → lorgnettelaw08_FoldSums.j1 599 9 q a0 ah al x s b0 bh bl y t 0 0 0 false E = some true := by
        rintro q rfl
        simp only [lorgnettelaw08_FoldSums.j1]
        rw [if_neg (by decide)]
        by_cases d : a0 = 1
        · rw [if_pos d]
          exact bad c4 _ (by have : b0 ≠ 1 := fun h => c4 ⟨d, h⟩; simp [this])
        · rw [if_neg d]
          exact bad c4 _ rfl
      by_cases d : a0 = 3
      · rw [if_pos d]
        exact j1 _ (by have : b0 ≠ 3 := fun h => c3 ⟨d, h⟩; simp [this])
      · rw [if_neg d]
        exact j1 _ rfl
end Go.Proofs.Ytekndmlcmepekaa.Q
