/- Chapter 7 (scope): awake, proved. No condition. -/
import Derived.Test.YtlfnpdfgdebhkaaSRV
namespace Go.Proofs.Ytlfnpdfgdebhkaa.Ch
open Go Go.Proofs Go.Proofs.Ytlfnpdfgdebhkaa.Sx
set_option linter.unusedVariables false
set_option linter.unusedSimpArgs false

theorem gokAwk : GOK Try.prog (gam gAwk) := gam_ok ⟨start_ok, orNil_ok find0_ok find_ok, orNil_ok open0_ok open_ok, orNil_ok put0_ok put_ok, orNil_ok len0_ok len_ok, orNil_ok object0_ok object_ok, trivial⟩
theorem awake_put : putE 3 startEs ((2 : Nat) : Int) (1, ⟨#[105, 110, 116]⟩, 0, 0, 0, (0, (0, 0), false, ⟨#[]⟩), 0, 0, 0) = 0 := by kernel_rfl
theorem out3 : OutOk [0, 0, 1] := outI_ok (outI_open outI_start (a := 1) rfl)
theorem awake_ok : ∀ args h Q, awake_t args h Q → FSpec Try.prog 7 args h Q := trH_ok fun _ _ Q h => by
  refine spec_body gokAwk Try.func7 rfl noLam_ok ?_
  show body Try.prog (gam gAwk) noLam Try.f7 [] [] _
  rw [vc_awake]
  have d : ∀ n : Nat, n < 100 → 1 ≤ n → ((3 = 3) ∧ n = n ∧ 3 ≤ 1000 ∧ n ≤ 1000 ∧ 1 ≤ n) := fun n h h1 => ⟨rfl, rfl, by omega, by omega, h1⟩
  refine ⟨by decide, fun e => (by cases e), fun _ => ⟨⟨by decide, out3⟩, by decide, fun hne => absurd awake_put hne, fun _ => ⟨⟨by decide, out3⟩, by decide, by decide, by decide, h⟩⟩⟩
end Go.Proofs.Ytlfnpdfgdebhkaa.Ch
