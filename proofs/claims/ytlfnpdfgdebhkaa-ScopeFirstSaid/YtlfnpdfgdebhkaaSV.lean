/- Chapter 7 (scope): the law ScopeFirst: plain Lean. No condition. -/
import Derived.Test.YtlfnpdfgdebhkaaSUV
namespace Go.Proofs.Ytlfnpdfgdebhkaa.Ch
open Go Go.Proofs Go.Proofs.Ytlfnpdfgdebhkaa.Sx
set_option linter.unusedVariables false
set_option linter.unusedSimpArgs false

theorem findF_ext {o : List Int} (ho : OutOk o) (b : Int) (es : Es) (nm : ByteArray) : ∀ (f : Nat) (a : Int), a < o.length → findF f (o ++ [b]) es a nm = findF f o es a nm := by
  intro f
  induction f with
  | zero => intros; rfl
  | succ f ih =>
    intro a ha
    have hi : inB (o ++ [b]).length a = inB o.length a := by
      rw [Bool.eq_iff_iff, inB_iff, inB_iff, List.length_append]; simp only [List.length_cons, List.length_nil]; omega
    simp only [findF]
    rw [hi]
    by_cases hb : inB o.length a = true
    · rw [if_pos hb, if_pos hb]
      have hlo := out_at ho hb
      have hbb := inB_iff.1 hb
      rw [getD_app' _ (show a.toNat < o.length by omega)]
      cases lookV es a nm with
      | some i => rfl
      | none => exact ih _ (by omega)
    · rw [if_neg hb, if_neg hb]
theorem find_new {o : List Int} (hO : OutI o) {a : Int} (ha : inB o.length a = true) (es : Es) (nm : ByteArray) (hn : lookV es (o.length : Int) nm = none) : findV (o ++ [a]) es (o.length : Int) nm = findV o es a nm := by
  have hb := inB_iff.1 ha
  have h2 := outI_open hO ha
  have hin : inB (o ++ [a]).length (o.length : Int) = true := inB_iff.2 (by rw [List.length_append]; simp only [List.length_cons, List.length_nil]; have := hO.1; omega)
  rw [findV_step (outI_ok h2) es nm hin hn, Int.toNat_natCast, getD_last]
  unfold findV
  exact findF_ext (outI_ok hO) a es nm _ a hb.2
theorem find_hit {o : List Int} {a : Int} (ha : inB o.length a = true) {es : Es} {nm : ByteArray} {i : Int} (h : lookV es a nm = some i) : findV o es a nm = (i, a, true) := by
  unfold findV; simp only [findF]; rw [if_pos ha, h]
/-- Nothing stands in a scope that isn't there yet. -/
theorem look_new {ins : List Int} {l : List Ob} {es : Es} (hI : Inv ins l es) {n : Int} (hi : ∀ x ∈ ins, x < n) (nm : ByteArray) : lookV es n nm = none := by
  rw [hI.2.2]
  cases hf : firstM (matB ins l n nm) l.length with
  | none => rfl
  | some i =>
    exfalso
    obtain ⟨h1, h2⟩ := firstM_some hf
    unfold matB at h2
    simp only [Bool.and_eq_true] at h2
    have h3 : ins.getD i 0 = n := by simpa using h2.2.1.1
    have hlt : i < ins.length := by rw [hI.1]; exact h1
    rw [getD_at hlt] at h3
    have := hi _ (List.getElem_mem hlt)
    omega
end Go.Proofs.Ytlfnpdfgdebhkaa.Ch
