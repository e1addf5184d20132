/- Statements over the abstract machine, reckoned out (chapter CA): printed by a program of this session. No condition. -/
import Derived.Test.YtpkmppfijhhpbaaCA
namespace Go.Proofs.Ytpkmppfijhhpbaa.Ch
open Go Go.Proofs Go.Proofs.Ytpkmppfijhhpbaa.Sx
set_option linter.unusedVariables false
theorem vc_new (Q : SV → List HB → Prop) :
    (body Try.prog (gam []) noLam Try.f7 [] [] Q) =
    (Q (SV.p (PV.c (CV.ptr 0 0))) [HB.cells 50 [CV.nils]]) := by kernel_rfl

theorem vc_make (xs : List V) (ys : List V) (Q : SV → List HB → Prop) :
    (body Try.prog (gam []) noLam Try.f9 [PV.c (CV.ptr 0 0), PV.c (CV.row tV ys)] (memH xs) Q) =
    (ys.length ≤ maxI →
  xs.length ≤ maxI →
    bif decide ((↑ys.length : Int) > IntKind.i64.wrap (65536 - (↑xs.length : Int))) then
      Q (SV.tup [PV.c (CV.int IntKind.i64 0), PV.c (CV.int IntKind.i64 14)])
        [HB.cells 50 [CV.view tV 1 0 xs.length], HB.row 41 tV xs]
    else
      xs.length ≤ maxI →
        0 + xs.length ≤ xs.length ∧
          (vw xs 0 xs.length ++ ys).length * 48 ≤ 140737488355328 ∧
            Q
              (SV.tup
                [PV.c (CV.int IntKind.i64 (IntKind.i64.wrap ((↑xs.length : Int) + 1))), PV.c (CV.int IntKind.i64 0)])
              [HB.cells 50 [CV.view tV 1 0 (vw xs 0 xs.length ++ ys).length], HB.row 41 tV (vw xs 0 xs.length ++ ys)]) := by kernel_rfl

theorem vc_len (xs : List V) (Q : SV → List HB → Prop) :
    (body Try.prog (gam []) noLam Try.f15 [PV.c (CV.ptr 0 0)] (memH xs) Q) =
    (xs.length ≤ maxI →
  Q (SV.p (PV.c (CV.int IntKind.i64 (↑xs.length : Int)))) [HB.cells 50 [CV.view tV 1 0 xs.length], HB.row 41 tV xs]) := by kernel_rfl

theorem vc_row (xs : List V) (at_ : Int) (n : Int) (Q : SV → List HB → Prop) :
    (body Try.prog (gam []) noLam Try.f16 [PV.c (CV.ptr 0 0), ti at_, ti n] (memH xs) Q) =
    (bif
    decide (n < 0) || decide (at_ < 1) || decide (n > (↑xs.length : Int)) ||
      decide (IntKind.i64.wrap (at_ - 1) > IntKind.i64.wrap ((↑xs.length : Int) - n)) then
  Q (SV.tup [PV.c CV.nils, PV.c (CV.int IntKind.i64 1)]) [HB.cells 50 [CV.view tV 1 0 xs.length], HB.row 41 tV xs]
else
  0 ≤ IntKind.i64.wrap (at_ - 1) ∧
    IntKind.i64.wrap (at_ - 1) ≤ IntKind.i64.wrap (IntKind.i64.wrap (at_ - 1) + n) ∧
      IntKind.i64.wrap (IntKind.i64.wrap (at_ - 1) + n) ≤ (↑xs.length : Int) ∧
        Q
          (SV.tup
            [PV.c
                (CV.view tV 1 (0 + loN (some (IntKind.i64.wrap (at_ - 1))))
                  (hiN xs.length (some (IntKind.i64.wrap (IntKind.i64.wrap (at_ - 1) + n))) -
                    loN (some (IntKind.i64.wrap (at_ - 1))))),
              PV.c (CV.int IntKind.i64 0)])
          [HB.cells 50 [CV.view tV 1 0 xs.length], HB.row 41 tV xs]) := by kernel_rfl

theorem vc_clone (xs : List V) (Q : SV → List HB → Prop) :
    (body Try.prog (gam []) noLam Try.f17 [PV.c (CV.row tV xs)] [] Q) =
    (∀ (b : Bool),
  (b = true → xs = []) →
    bif b then Q (SV.p (PV.c CV.nils)) []
    else
      0 ≤ 0 ∧
        (vw [] 0 0 ++ xs).length * 48 ≤ 140737488355328 ∧
          Q
            (SV.p
              (PV.c
                (CV.view
                  ((Ty.int IntKind.i64).prod
                    ((Ty.int IntKind.i64).prod ((Ty.int IntKind.i64).prod ((Ty.int IntKind.i64).prod Ty.str))))
                  0 0 (vw [] 0 0 ++ xs).length)))
            [HB.row 41
                ((Ty.int IntKind.i64).prod
                  ((Ty.int IntKind.i64).prod ((Ty.int IntKind.i64).prod ((Ty.int IntKind.i64).prod Ty.str))))
                (vw [] 0 0 ++ xs)]) := by kernel_rfl

theorem vc_get (xs : List V) (at_ : Int) (n : Int) (Q : SV → List HB → Prop) :
    (body Try.prog (gam [(16, [], row_t), (17, [], clone_t)]) noLam Try.f11 [PV.c (CV.ptr 0 0), ti at_, ti n] (memH xs) Q) =
    ((xs.length = xs.length ∧ xs.length ≤ 65536 ∧ i64 at_ ∧ i64 n) ∧
  (has xs.length at_ n = false →
      0 ≤ 1000000 ∧
        Q (SV.tup [PV.c (CV.view tV 2 0 0), PV.c (CV.int IntKind.i64 1)])
          [HB.cells 50 [CV.view tV 1 0 xs.length], HB.row 41 tV xs, HB.row 41 tV []]) ∧
    (has xs.length at_ n = true →
      Int.toNat (at_ - 1) + n.toNat ≤ xs.length ∧
        (vw xs (Int.toNat (at_ - 1)) n.toNat).length ≤ 1000000 ∧
          Q (SV.tup [PV.c (CV.view tV 2 0 (vw xs (Int.toNat (at_ - 1)) n.toNat).length), PV.c (CV.int IntKind.i64 0)])
            [HB.cells 50 [CV.view tV 1 0 xs.length], HB.row 41 tV xs,
              HB.row 41 tV (vw xs (Int.toNat (at_ - 1)) n.toNat)])) := by kernel_rfl

theorem vc_set (xs : List V) (ys : List V) (at_ : Int) (Q : SV → List HB → Prop) :
    (body Try.prog (gam [(16, [], row_t), (17, [], clone_t)]) noLam Try.f14 [PV.c (CV.ptr 0 0), ti at_, PV.c (CV.row tV ys)]
  (memH xs) Q) =
    (ys.length ≤ maxI →
  (xs.length = xs.length ∧ xs.length ≤ 65536 ∧ i64 at_ ∧ i64 (↑ys.length : Int)) ∧
    (has xs.length at_ (↑ys.length : Int) = false →
        Q (SV.p (PV.c (CV.int IntKind.i64 1))) [HB.cells 50 [CV.view tV 1 0 xs.length], HB.row 41 tV xs]) ∧
      (has xs.length at_ (↑ys.length : Int) = true →
        Int.toNat (at_ - 1) + (↑ys.length : Int).toNat ≤ xs.length ∧
          Q (SV.p (PV.c (CV.int IntKind.i64 0)))
            [HB.cells 50 [CV.view tV 1 0 xs.length],
              HB.row 41 tV (splice xs (Int.toNat (at_ - 1)) (List.take (min ys.length (↑ys.length : Int).toNat) ys))])) := by kernel_rfl

end Go.Proofs.Ytpkmppfijhhpbaa.Ch
