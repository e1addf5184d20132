/- Statements over the abstract machine, reckoned out (chapter CD): printed by a program of this session. No condition. -/
import Derived.Test.YtpkmppfijhhpbaaCD
namespace Go.Proofs.Ytpkmppfijhhpbaa.Ch
open Go Go.Proofs Go.Proofs.Ytpkmppfijhhpbaa.Sx
set_option linter.unusedVariables false
theorem vc_awake (Q : SV → List HB → Prop) :
    (body Try.prog (gam gAll) noLam Try.f6 [] [] Q) =
    ((2 : Nat) ≤ (2 : Nat) ∧
  ((0 : Nat) = (0 : Nat) ∧ (0 : Nat) ≤ (65536 : Nat)) ∧
    ((65536 : Nat) < (2 : Nat) →
        (1 : Nat) ≤ (1 : Nat) ∧
          (0 = (0 : Nat) ∧ (0 : Nat) ≤ (65536 : Nat)) ∧
            ((65536 : Nat) < (1 : Nat) →
                (0 = (0 : Nat) ∧ (0 : Nat) ≤ (65536 : Nat) ∧ i64 (2 : Int) ∧ i64 (2 : Int)) ∧
                  (false = false →
                      (false = true → (0 : Int) ≤ (0 : Int) ∧ (0 : Int) < (↑(0) : Int) ∧ True) ∧
                        (false = true → (0 : Nat) < (0 : Nat) ∧ True) ∧ Q (SV.p (PV.c (CV.bool false))) []) ∧
                    (false = true →
                      (false = true → (0 : Int) ≤ (0 : Int) ∧ (0 : Int) < (↑(0) : Int) ∧ True) ∧
                        (false = true → (0 : Nat) < (0 : Nat) ∧ True) ∧ Q (SV.p (PV.c (CV.bool false))) [])) ∧
              ((1 : Nat) ≤ (65536 : Nat) →
                (1 = (1 : Nat) ∧ (1 : Nat) ≤ (65536 : Nat) ∧ i64 (2 : Int) ∧ i64 (2 : Int)) ∧
                  (false = false →
                      (false = true → (0 : Int) ≤ (0 : Int) ∧ (0 : Int) < (↑(0) : Int) ∧ True) ∧
                        (false = true → (0 : Nat) < (0 : Nat) ∧ True) ∧ Q (SV.p (PV.c (CV.bool false))) []) ∧
                    (false = true →
                      (false = true → (0 : Int) ≤ (0 : Int) ∧ (0 : Int) < (↑(0) : Int) ∧ True) ∧
                        (false = true → (0 : Nat) < (0 : Nat) ∧ True) ∧ Q (SV.p (PV.c (CV.bool false))) []))) ∧
      ((2 : Nat) ≤ (65536 : Nat) →
        (1 : Nat) ≤ (1 : Nat) ∧
          (2 = (2 : Nat) ∧ (2 : Nat) ≤ (65536 : Nat)) ∧
            ((65536 : Nat) < (3 : Nat) →
                (2 = (2 : Nat) ∧ (2 : Nat) ≤ (65536 : Nat) ∧ i64 (2 : Int) ∧ i64 (2 : Int)) ∧
                  (false = false →
                      (false = true → (0 : Int) ≤ (0 : Int) ∧ (0 : Int) < (↑(0) : Int) ∧ True) ∧
                        (false = true → (0 : Nat) < (0 : Nat) ∧ True) ∧ Q (SV.p (PV.c (CV.bool false))) []) ∧
                    (false = true →
                      (false = true → (0 : Int) ≤ (0 : Int) ∧ (0 : Int) < (↑(1) : Int) ∧ True) ∧
                        (false = true → (0 : Nat) < (1 : Nat) ∧ True) ∧ Q (SV.p (PV.c (CV.bool false))) [])) ∧
              ((3 : Nat) ≤ (65536 : Nat) →
                (3 = (3 : Nat) ∧ (3 : Nat) ≤ (65536 : Nat) ∧ i64 (2 : Int) ∧ i64 (2 : Int)) ∧
                  (true = false →
                      (false = true → (0 : Int) ≤ (0 : Int) ∧ (0 : Int) < (↑(0) : Int) ∧ True) ∧
                        (false = true → (0 : Nat) < (0 : Nat) ∧ True) ∧ Q (SV.p (PV.c (CV.bool false))) []) ∧
                    (true = true →
                      (true = true → (0 : Int) ≤ (0 : Int) ∧ (0 : Int) < (↑(2) : Int) ∧ True) ∧
                        (true = true → (0 : Nat) < (2 : Nat) ∧ True) ∧
                          3 = (3 : Nat) ∧ Q (SV.p (PV.c (CV.bool true))) [])))) := by kernel_rfl

end Go.Proofs.Ytpkmppfijhhpbaa.Ch
