/- What fold's Binary and Unary come to, over whole numbers and texts. Plain Lean; no condition. -/
import Derived.Test.YtekndmlcmepekaaWF
import Derived.Test.YtekndmlcmepekaaQx11
import Derived.Test.YtekndmlcmepekaaQx13
import Derived.Test.YtekndmlcmepekaaQx14
import Derived.Test.YtekndmlcmepekaaQx15
import Derived.Test.YtekndmlcmepekaaQx18
import Derived.Test.YtekndmlcmepekaaQx19
namespace Go.Proofs.Ytekndmlcmepekaa.Q
open Go.RowKit Go.Proofs.YtekndmlcmepekaaW.PrintWords Go.Proofs.YtekndmlcmepekaaW.PrintLast Go.Proofs.YtekndmlcmepekaaW.PrintMore
set_option linter.unusedVariables false

theorem W64_wf {n : Int} (h : (Lit.int .u64 n).wf = true) : W64 n := by
  simp only [Lit.wf, Bool.and_eq_true, decide_eq_true_eq] at h
  have h1 : IntKind.u64.min = 0 := by decide
  have h2 : IntKind.u64.max = 18446744073709551615 := by decide
  unfold W64
  omega
theorem I64_wf {n : Int} (h : (Lit.int .i64 n).wf = true) : I64 n := by
  simp only [Lit.wf, Bool.and_eq_true, decide_eq_true_eq] at h
  have h1 : IntKind.i64.min = -9223372036854775808 := by decide
  have h2 : IntKind.i64.max = 9223372036854775807 := by decide
  unfold I64
  omega
abbrev E : ByteArray := ⟨#[]⟩
theorem tl (a : Array UInt8) : (ByteArray.mk a).toList = a.toList := ByteArray.toList_eq ⟨a⟩
theorem order_eq (c : Int) : fold_order.f ⟨#[61, 61]⟩ c = some (2, 0, 0, c == 0, E, 0) := by
  unfold fold_order.f
  rw [tl, if_pos rfl]; rfl
theorem order_ne (c : Int) : fold_order.f ⟨#[33, 61]⟩ c = some (2, 0, 0, c != 0, E, 0) := by
  unfold fold_order.f
  rw [tl, if_neg (by decide), if_pos rfl]; rfl
theorem order_lt (c : Int) : fold_order.f ⟨#[60]⟩ c = some (2, 0, 0, decide (c < 0), E, 0) := by
  unfold fold_order.f
  rw [tl, if_neg (by decide), if_neg (by decide), if_pos rfl]; rfl
theorem order_le (c : Int) : fold_order.f ⟨#[60, 61]⟩ c = some (2, 0, 0, decide (c ≤ 0), E, 0) := by
  unfold fold_order.f
  rw [tl, if_neg (by decide), if_neg (by decide), if_neg (by decide), if_pos rfl]; rfl
theorem order_gt (c : Int) : fold_order.f ⟨#[62]⟩ c = some (2, 0, 0, decide (c > 0), E, 0) := by
  unfold fold_order.f
  rw [tl, if_neg (by decide), if_neg (by decide), if_neg (by decide), if_neg (by decide), if_pos rfl]; rfl
theorem order_ge (c : Int) : fold_order.f ⟨#[62, 61]⟩ c = some (2, 0, 0, decide (c ≥ 0), E, 0) := by
  unfold fold_order.f
  rw [tl, if_neg (by decide), if_neg (by decide), if_neg (by decide), if_neg (by decide), if_neg (by decide), if_pos rfl]; rfl
/- an operator that is none of the five of numbers -/
def Ord (op : ByteArray) : Prop := op.toList ≠ [43] ∧ op.toList ≠ [45] ∧ op.toList ≠ [42] ∧ op.toList ≠ [47] ∧ op.toList ≠ [37]
def cmpW (ah al bh bl : Int) : Int := if sval ah al < sval bh bl then -1 else if sval bh bl < sval ah al then 1 else 0
theorem ints_ord (k : Nat) {op : ByteArray} (ho : Ord op) {ah al bh bl : Int} (h1 : W64 ah) (h2 : W64 al) (h3 : W64 bh) (h4 : W64 bl) : fold_ints.f k op ah al bh bl = fold_order.f op (cmpW ah al bh bl) := by
  unfold fold_ints.f
  rw [if_neg ho.1, if_neg ho.2.1, if_neg ho.2.2.1, if_neg ho.2.2.2.1, if_neg ho.2.2.2.2, Cmp_is h1 h2 h3 h4, Option.bind_some]
  show (fold_order.f op (cmpW ah al bh bl)).bind _ = _
  cases fold_order.f op (cmpW ah al bh bl) <;> rfl
theorem texts_ord {op : ByteArray} (ho : op.toList ≠ [43]) (a b : ByteArray) : fold_texts.f op a b = fold_order.f op (cmpS a b) := by
  unfold fold_texts.f
  rw [if_neg ho]
  show (fold_order.f op (cmpS a b)).bind _ = _
  cases fold_order.f op (cmpS a b) <;> rfl
theorem bin_ints (k : Nat) (op : ByteArray) (ah al : Int) (x : Bool) (s : ByteArray) (bh bl : Int) (y : Bool) (t : ByteArray) : fold_Binary.f k op 1 ah al x s 1 bh bl y t = fold_ints.f k op ah al bh bl := by
  unfold fold_Binary.f
  rw [if_pos rfl, if_pos rfl]
  cases fold_ints.f k op ah al bh bl <;> rfl
theorem bin_texts (k : Nat) (op : ByteArray) (ah al : Int) (x : Bool) (s : ByteArray) (bh bl : Int) (y : Bool) (t : ByteArray) : fold_Binary.f k op 3 ah al x s 3 bh bl y t = fold_texts.f op s t := by
  unfold fold_Binary.f
  rw [if_pos rfl, if_neg (by decide), if_neg (by decide), if_pos rfl]
  cases fold_texts.f op s t <;> rfl
theorem is_of {k : Nat} {op : ByteArray} {a0 ah al : Int} {x : Bool} {s : ByteArray} {b0 bh bl : Int} {y : Bool} {t : ByteArray} {v : Bool} (h : fold_Binary.f k op a0 ah al x s b0 bh bl y t = some (2, 0, 0, v, E, 0)) :
    lorgnettelaw08_is.f k op a0 ah al x s b0 bh bl y t = some (v, true) := by
  unfold lorgnettelaw08_is.f
  rw [h]; rfl
theorem cmpS_anti (a b : ByteArray) : cmpS b a < 0 ↔ 0 < cmpS a b := by
  unfold cmpS
  generalize a.data.toList = x
  generalize b.data.toList = y
  induction x generalizing y with
  | nil => cases y <;> simp [Lib.compareBytes]
  | cons u r ih =>
    cases y with
    | nil => simp [Lib.compareBytes]
    | cons v s =>
      simp only [Lib.compareBytes]
      by_cases h1 : u < v
      · have h2 : ¬ v < u := fun h => absurd (UInt8.lt_iff_toNat_lt.1 h) (by have := UInt8.lt_iff_toNat_lt.1 h1; omega)
        rw [if_neg h2, if_pos h1, if_pos h1]; decide
      · by_cases h2 : v < u
        · rw [if_pos h2, if_neg h1, if_pos h2]; decide
        · rw [if_neg h2, if_neg h1, if_neg h1, if_neg h2]; exact ih s
/- the constant of a number, or its error -/
def kn (s : Int) : Int × Int × Int × Bool × ByteArray × Int := if fits s then (1, hiS s, loS s, false, E, 0) else (0, 0, 0, false, E, 10)
theorem number_ans (s : Int) : fold_number.f (ans s).1 (ans s).2.1 (ans s).2.2 = some (kn s) := by
  unfold fold_number.f kn
  by_cases h : fits s
  · rw [ans_pos h, if_pos h]; rfl
  · rw [ans_neg h, if_neg h]; rfl
theorem ints_add (k : Nat) {ah al bh bl : Int} (h1 : W64 ah) (h2 : W64 al) (h3 : W64 bh) (h4 : W64 bl) : fold_ints.f k ⟨#[43]⟩ ah al bh bl = some (kn (sval ah al + sval bh bl)) := by
  unfold fold_ints.f
  rw [tl, if_pos rfl, Add_is h1 h2 h3 h4, Option.bind_some, number_ans]; rfl
theorem ints_sub (k : Nat) {ah al bh bl : Int} (h1 : W64 ah) (h2 : W64 al) (h3 : W64 bh) (h4 : W64 bl) : fold_ints.f k ⟨#[45]⟩ ah al bh bl = some (kn (sval ah al - sval bh bl)) := by
  unfold fold_ints.f
  rw [tl, if_neg (by decide), if_pos rfl, Sub_is h1 h2 h3 h4, Option.bind_some, number_ans]; rfl
end Go.Proofs.Ytekndmlcmepekaa.Q
