/- FoldOrders' pure statement: of two numbers, or two texts, just one of less, more, equal holds, and each operator says it. No condition. -/
import Derived.Test.YtekndmlcmepekaaFA
import Derived.Test.YtekndmlcmepekaaFD
import Derived.Test.YtekndmlcmepekaaQx21
namespace Go.Proofs.Ytekndmlcmepekaa.Q
open Go.RowKit Go.Proofs.YtekndmlcmepekaaW.PrintWords Go.Proofs.YtekndmlcmepekaaW.PrintLast Go.Proofs.YtekndmlcmepekaaW.PrintMore
set_option linter.unusedVariables false

theorem FO_j0 (k : Nat) {a0 ah al : Int} {x : Bool} {s : ByteArray} {b0 bh bl : Int} {y : Bool} {t : ByteArray} (c c' : Int) (hc : c' < 0 ↔ 0 < c)
    (h : ∀ (op : ByteArray) (v : Bool), Ord op → fold_order.f op c = some (2, 0, 0, v, E, 0) → fold_Binary.f (k + 1) op a0 ah al x s b0 bh bl y t = some (2, 0, 0, v, E, 0))
    (h' : fold_Binary.f (k + 1) ⟨#[60]⟩ b0 bh bl y t a0 ah al x s = some (2, 0, 0, decide (c' < 0), E, 0)) :
    lorgnettelaw08_FoldOrders.j0 (k + 1 + 1) false a0 ah al x s b0 bh bl y t = some true := by
  have o1 : Ord ⟨#[60]⟩ := by refine ⟨?_, ?_, ?_, ?_, ?_⟩ <;> rw [tl] <;> decide
  have o2 : Ord ⟨#[62]⟩ := by refine ⟨?_, ?_, ?_, ?_, ?_⟩ <;> rw [tl] <;> decide
  have o3 : Ord ⟨#[61, 61]⟩ := by refine ⟨?_, ?_, ?_, ?_, ?_⟩ <;> rw [tl] <;> decide
  have o4 : Ord ⟨#[60, 61]⟩ := by refine ⟨?_, ?_, ?_, ?_, ?_⟩ <;> rw [tl] <;> decide
  have o5 : Ord ⟨#[62, 61]⟩ := by refine ⟨?_, ?_, ?_, ?_, ?_⟩ <;> rw [tl] <;> decide
  have o6 : Ord ⟨#[33, 61]⟩ := by refine ⟨?_, ?_, ?_, ?_, ?_⟩ <;> rw [tl] <;> decide
  simp only [lorgnettelaw08_FoldOrders.j0]
  rw [if_neg (by decide), is_of (h _ _ o1 (order_lt c)), Option.bind_some, is_of (h _ _ o2 (order_gt c)), Option.bind_some, is_of (h _ _ o3 (order_eq c)), Option.bind_some, is_of (h _ _ o4 (order_le c)), Option.bind_some,
    is_of (h _ _ o5 (order_ge c)), Option.bind_some, is_of (h _ _ o6 (order_ne c)), Option.bind_some, is_of h', Option.bind_some]
  simp only [if_true, lorgnettelaw08_FoldOrders.j1]
  rcases Int.lt_trichotomy c 0 with hl | hl | hl
  · rw [show decide (c < 0) = true from decide_eq_true hl, show decide (c > 0) = false from decide_eq_false (by omega), show (c == 0) = false from by simp; omega, show decide (c ≤ 0) = true from decide_eq_true (by omega), show decide (c ≥ 0) = false from decide_eq_false (by omega), show (c != 0) = true from by simp; omega, show decide (c' < 0) = false from decide_eq_false (by omega)]
    decide +kernel
  · subst hl
    rw [show decide (c' < 0) = false from decide_eq_false (by omega)]
    decide +kernel
  · rw [show decide (c < 0) = false from decide_eq_false (by omega), show decide (c > 0) = true from decide_eq_true hl, show (c == 0) = false from by simp; omega, show decide (c ≤ 0) = false from decide_eq_false (by omega), show decide (c ≥ 0) = true from decide_eq_true (by omega), show (c != 0) = true from by simp; omega, show decide (c' < 0) = true from decide_eq_true (by omega)]
    decide +kernel
theorem FoldOrders_pure (a0 ah al : Int) (x : Bool) (s : ByteArray) (b0 bh bl : Int) (y : Bool) (t : ByteArray) (g0 : (Lit.int .i64 a0).wf = true) (g1 : (Lit.int .u64 ah).wf = true) (g2 : (Lit.int .u64 al).wf = true) (_ : s.size ≤ 140737488351232)
    (g5 : (Lit.int .i64 b0).wf = true) (g6 : (Lit.int .u64 bh).wf = true) (g7 : (Lit.int .u64 bl).wf = true) (_ : t.size ≤ 140737488351232) : lorgnettelaw08_FoldOrders.f 600 a0 ah al x s b0 bh bl y t = some true := by
  replace g1 := W64_wf g1
  replace g2 := W64_wf g2
  replace g6 := W64_wf g6
  replace g7 := W64_wf g7
  have yes : lorgnettelaw08_FoldOrders.j0 600 true a0 ah al x s b0 bh bl y t = some true := by simp only [lorgnettelaw08_FoldOrders.j0, if_true]
  unfold lorgnettelaw08_FoldOrders.f
  rw [awake_ok, Option.bind_some, if_pos rfl]
  by_cases c1 : (s.size : Int) > 1024
  · rw [if_pos c1, yes]
  rw [if_neg c1]
  by_cases c2 : (t.size : Int) > 1024
  · rw [if_pos c2, yes]
  rw [if_neg c2]
  by_cases c3 : a0 = b0
  · rw [if_pos c3]
    subst c3
    by_cases c4 : a0 = 1
    · rw [if_pos c4]
      subst c4
      refine FO_j0 598 (cmpW ah al bh bl) (cmpW bh bl ah al) (by unfold cmpW; split <;> split <;> (try split) <;> omega) ?_ ?_
      · intro op v ho h
        rw [bin_ints, ints_ord _ ho g1 g2 g6 g7, h]
      · rw [bin_ints, ints_ord _ (by refine ⟨?_, ?_, ?_, ?_, ?_⟩ <;> rw [tl] <;> decide) g6 g7 g1 g2, order_lt]
    · rw [if_neg c4]
      by_cases c5 : a0 = 3
      · subst c5
        rw [show ((3 : Int) != 3) = false from rfl]
        refine FO_j0 598 (cmpS s t) (cmpS t s) (cmpS_anti s t) ?_ ?_
        · intro op v ho h
          rw [bin_texts, texts_ord ho.1, h]
        · rw [bin_texts, texts_ord (by rw [tl]; decide), order_lt]
      · rw [show (a0 != 3) = true from by simp [c5], yes]
  · rw [if_neg c3, yes]
end Go.Proofs.Ytekndmlcmepekaa.Q
