/- Chapter 7 (scope): the reference's Start, proved. No condition. -/
import Derived.Test.YtlfnpdfgdebhkaaSLV
namespace Go.Proofs.Ytlfnpdfgdebhkaa.Ch
open Go Go.Proofs Go.Proofs.Ytlfnpdfgdebhkaa.Sx
set_option linter.unusedVariables false
set_option linter.unusedSimpArgs false

theorem gokRst : GOK Try.prog (gam gRst) := gam_ok ⟨rputB_ok, trivial⟩
theorem rstart_ok : ∀ args h Q, rstart_t args h Q → FSpec Try.prog 25 args h Q := trH_ok fun _ _ Q h => by
  refine spec_body (Λ := lam [(0, unr Try.prog (gam gRst) noLam (lp Try.f25 0) 0 5), (2, unr Try.prog (gam gRst) noLam (lp Try.f25 1) 2 10)]) gokRst Try.func25 rfl ?_ ?_
  · exact lokl (l := [(0, lp Try.f25 0), (2, lp Try.f25 1)]) ⟨unr_all gokRst noLam_ok, unr_all gokRst noLam_ok, trivial⟩
  show body Try.prog (gam gRst) (lam [(0, unr Try.prog (gam gRst) noLam (lp Try.f25 0) 0 5), (2, unr Try.prog (gam gRst) noLam (lp Try.f25 1) 2 10)]) Try.f25 [] [] _
  rw [vc_rstart]
  repeat (first | exact h | refine ⟨by decide, ?_⟩)
/-! ### what a map of names holds: plain -/
/-- The names' map of a list of objects and of their scopes. -/
noncomputable def entsOf (ins : List Int) (l : List Ob) : Nat → Es
  | 0 => []
  | n + 1 => if n = 0 then [] else putEs (entsOf ins l n) (ins.getD n 0) (l.getD n zeroO).2.1 n
theorem lookM_nil (k : Ky) : lookM (kt := tKy) (α := Int) k [] = none := rfl
theorem eqKy (a b : Ky) : eqT tKy a b = true ↔ a = b := eqT_iff tKy rfl a b
theorem lookM_cons (k q : Ky) (v : Int) (r : Es) : lookM (kt := tKy) k ((q, v) :: r) = if k = q then some v else lookM (kt := tKy) k r := by
  simp only [lookM]
  by_cases h : k = q
  · rw [if_pos h, (eqKy _ _).2 h]; rfl
  · rw [if_neg h]
    cases he : eqT tKy k q with
    | true => exact absurd ((eqKy _ _).1 he) h
    | false => rfl
theorem lookM_app (k q : Ky) (v : Int) : ∀ es : Es, lookM (kt := tKy) k (es ++ [(q, v)]) = match lookM (kt := tKy) k es with | some x => some x | none => if k = q then some v else none
  | [] => by rw [List.nil_append, lookM_cons]; rfl
  | (a, x) :: r => by
    rw [List.cons_append, lookM_cons, lookM_cons]
    by_cases h : k = a
    · rw [if_pos h, if_pos h]
    · rw [if_neg h, if_neg h, lookM_app k q v r]
end Go.Proofs.Ytlfnpdfgdebhkaa.Ch
