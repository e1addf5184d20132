/- Statements over the abstract machine, reckoned out (chapter CJ): printed by a program of this session. No condition. -/
import Derived.Test.YtpkmppfijhhpbaaCJ
namespace Go.Proofs.Ytpkmppfijhhpbaa.Ch
open Go Go.Proofs Go.Proofs.Ytpkmppfijhhpbaa.Sx
set_option linter.unusedVariables false
theorem vc_make0 (ys : List V) (Q : SV → List HB → Prop) :
    (body Try.prog (gam []) noLam Try.f9 [PV.c CV.nilp, PV.c (CV.row tV ys)] [] Q) =
    (Q (SV.tup [PV.c (CV.int IntKind.i64 (0 : Int)), PV.c (CV.int IntKind.i64 (2 : Int))]) []) := by kernel_rfl

theorem vc_len0 (Q : SV → List HB → Prop) :
    (body Try.prog (gam []) noLam Try.f15 [PV.c CV.nilp] [] Q) =
    (Q (SV.p (PV.c (CV.int IntKind.i64 (0 : Int)))) []) := by kernel_rfl

theorem vc_row0 (at_ : Int) (n : Int) (Q : SV → List HB → Prop) :
    (body Try.prog (gam []) noLam Try.f16 [PV.c CV.nilp, ti at_, ti n] [] Q) =
    (Q (SV.tup [PV.c CV.nils, PV.c (CV.int IntKind.i64 (2 : Int))]) []) := by kernel_rfl

theorem vc_get0 (at_ : Int) (n : Int) (Q : SV → List HB → Prop) :
    (body Try.prog (gam g0) noLam Try.f11 [PV.c CV.nilp, ti at_, ti n] [] Q) =
    ((0 : Nat) ≤ (1000000 : Nat) ∧
  Q (SV.tup [PV.c (CV.view tV (0) (0) (0)), PV.c (CV.int IntKind.i64 (2 : Int))])
    [HB.row (41) tV []]) := by kernel_rfl

theorem vc_set0 (ys : List V) (at_ : Int) (Q : SV → List HB → Prop) :
    (body Try.prog (gam g0) noLam Try.f14 [PV.c CV.nilp, ti at_, PV.c (CV.row tV ys)] [] Q) =
    (ys.length ≤ maxI → Q (SV.p (PV.c (CV.int IntKind.i64 (2 : Int)))) []) := by kernel_rfl

theorem vc_full_l (xs : List V) (zs : List V) (i : Nat) (K : SS → Prop) (Q : Exit → SS → Prop) :
    (sx Try.prog (gam gFull) noLam (lp Try.f5 (0 : Nat)) (0 : Nat) (stF xs zs i)
  (thenQ (cq (0 : Nat) [(4 : Nat), (5 : Nat), (6 : Nat)] K) (cQE (0 : Nat) [] [(2 : Nat)] Q))) =
    (bif decide ((↑i : Int) < (300 : Int)) then
  xs.length = xs.length ∧
    0 + zs.length ≤ zs.length ∧
      (xs.length = xs.length ∧ xs.length ≤ (65536 : Nat)) ∧
        ((65536 : Nat) < xs.length + (vw zs (0) zs.length).length →
            zs.length ≤ maxI →
              bif decide (IntKind.i64.wrap ((↑xs.length : Int) + (↑zs.length : Int)) > (65536 : Int)) then
                0 + zs.length ≤ zs.length ∧
                  xs.length = xs.length ∧
                    bif
                        true && (↑xs.length : Int) == (↑xs.length : Int) && (2 : Int) == (2 : Int) &&
                          (2 : Int) == (2 : Int) then
                      Q Exit.ret { nt := 105, fr := [(2, SV.p (PV.c (CV.bool true)))], hp := [] : SS }
                    else
                      Q Exit.ret { nt := 105, fr := [(2, SV.p (PV.c (CV.bool false)))], hp := [] : SS }
              else
                bif (0 : Int) != IntKind.i64.wrap ((↑xs.length : Int) + (1 : Int)) || (14 : Int) != (0 : Int) then
                  Q Exit.ret { nt := 105, fr := [(2, SV.p (PV.c (CV.bool false)))], hp := [] : SS }
                else
                  xs.length = xs.length ∧
                    bif false || (↑xs.length : Int) != IntKind.i64.wrap ((↑xs.length : Int) + (↑zs.length : Int)) then
                      Q Exit.ret { nt := 105, fr := [(2, SV.p (PV.c (CV.bool false)))], hp := [] : SS }
                    else
                      K
                        { nt := 105,
                          fr :=
                            [(4, SV.p (PV.c (CV.ptr (0) (0)))),
                              (5, SV.p (PV.c (CV.view tV (2) (0) zs.length))),
                              (6,
                                SV.p (PV.c (CV.int IntKind.i64 (IntKind.i64.wrap ((↑i : Int) + (1 : Int))))))],
                          hp :=
                            [HB.cells (50) [CV.view tV (1) (0) xs.length],
                              HB.row (41) tV xs, HB.row (41) tV zs] :
                          SS }) ∧
          (xs.length + (vw zs (0) zs.length).length ≤ (65536 : Nat) →
            zs.length ≤ maxI →
              bif decide (IntKind.i64.wrap ((↑xs.length : Int) + (↑zs.length : Int)) > (65536 : Int)) then
                0 + zs.length ≤ zs.length ∧
                  Q Exit.ret { nt := 105, fr := [(2, SV.p (PV.c (CV.bool false)))], hp := [] : SS }
              else
                bif
                    (↑xs.length : Int) + (1 : Int) != IntKind.i64.wrap ((↑xs.length : Int) + (1 : Int)) ||
                      (0 : Int) != (0 : Int) then
                  Q Exit.ret { nt := 105, fr := [(2, SV.p (PV.c (CV.bool false)))], hp := [] : SS }
                else
                  (xs ++ vw zs (0) zs.length).length = (xs ++ vw zs (0) zs.length).length ∧
                    bif
                        false ||
                          (↑(xs ++ vw zs (0) zs.length).length : Int) !=
                            IntKind.i64.wrap ((↑xs.length : Int) + (↑zs.length : Int)) then
                      Q Exit.ret { nt := 105, fr := [(2, SV.p (PV.c (CV.bool false)))], hp := [] : SS }
                    else
                      K
                        { nt := 105,
                          fr :=
                            [(4, SV.p (PV.c (CV.ptr (0) (0)))),
                              (5, SV.p (PV.c (CV.view tV (2) (0) zs.length))),
                              (6,
                                SV.p (PV.c (CV.int IntKind.i64 (IntKind.i64.wrap ((↑i : Int) + (1 : Int))))))],
                          hp :=
                            [HB.cells (50)
                                [CV.view tV (1) (0) (xs ++ vw zs (0) zs.length).length],
                              HB.row (41) tV (xs ++ vw zs (0) zs.length), HB.row (41) tV zs] :
                          SS })
else Q (Exit.exit (0)) { nt := 105, fr := [], hp := [] : SS }) := by kernel_rfl

theorem vc_full (n : Int) (Q : SV → List HB → Prop) :
    (body Try.prog (gam gFull) (lam [((0 : Nat), full_l)]) Try.f5 [ti n] [] Q) =
    ((16384 : Int) ≠ (0 : Int) ∧
  (0 : Int) ≤ IntKind.i64.wrap ((1 : Int) + IntKind.i64.wrap ((IntKind.u64.wrap n).tmod (16384 : Int))) ∧
    IntKind.i64.wrap ((1 : Int) + IntKind.i64.wrap ((IntKind.u64.wrap n).tmod (16384 : Int))) ≤
        IntKind.i64.wrap ((1 : Int) + IntKind.i64.wrap ((IntKind.u64.wrap n).tmod (16384 : Int))) ∧
      (↑(48 : Nat) : Int) * IntKind.i64.wrap ((1 : Int) + IntKind.i64.wrap ((IntKind.u64.wrap n).tmod (16384 : Int))) ≤
          (281474976710656 : Int) ∧
        bif
            decide
              (IntKind.i64.wrap ((1 : Int) + IntKind.i64.wrap ((IntKind.u64.wrap n).tmod (16384 : Int))) <
                (1024 : Int)) then
          (0 : Int) ≤
              IntKind.i64.wrap
                ((65536 : Int) -
                  IntKind.i64.wrap ((1 : Int) + IntKind.i64.wrap ((IntKind.u64.wrap n).tmod (16384 : Int)))) ∧
            IntKind.i64.wrap
                  ((65536 : Int) -
                    IntKind.i64.wrap ((1 : Int) + IntKind.i64.wrap ((IntKind.u64.wrap n).tmod (16384 : Int)))) ≤
                IntKind.i64.wrap
                  ((65536 : Int) -
                    IntKind.i64.wrap ((1 : Int) + IntKind.i64.wrap ((IntKind.u64.wrap n).tmod (16384 : Int)))) ∧
              (↑(48 : Nat) : Int) *
                    IntKind.i64.wrap
                      ((65536 : Int) -
                        IntKind.i64.wrap ((1 : Int) + IntKind.i64.wrap ((IntKind.u64.wrap n).tmod (16384 : Int)))) ≤
                  (281474976710656 : Int) ∧
                ∃ (x : List V),
                  { nt := 105,
                        fr :=
                          [(4, SV.p (PV.c (CV.ptr (0) (0)))),
                            (5,
                              SV.p
                                (PV.c
                                  (CV.view
                                    ((Ty.int IntKind.i64).prod
                                      ((Ty.int IntKind.i64).prod
                                        ((Ty.int IntKind.i64).prod ((Ty.int IntKind.i64).prod Ty.str))))
                                    (2) (0)
                                    (IntKind.i64.wrap
                                        ((65536 : Int) -
                                          IntKind.i64.wrap
                                            ((1 : Int) +
                                              IntKind.i64.wrap ((IntKind.u64.wrap n).tmod (16384 : Int))))).toNat))),
                            (6, SV.p (PV.c (CV.int IntKind.i64 (0 : Int))))],
                        hp :=
                          [HB.cells (50) [CV.view tV (1) (0) (0)],
                            HB.row (41) tV [],
                            HB.row (41)
                              ((Ty.int IntKind.i64).prod
                                ((Ty.int IntKind.i64).prod
                                  ((Ty.int IntKind.i64).prod ((Ty.int IntKind.i64).prod Ty.str))))
                              (List.replicate
                                (IntKind.i64.wrap
                                    ((65536 : Int) -
                                      IntKind.i64.wrap
                                        ((1 : Int) + IntKind.i64.wrap ((IntKind.u64.wrap n).tmod (16384 : Int))))).toNat
                                ((0 : Int), (0 : Int), (0 : Int), (0 : Int), { data := #[] : ByteArray }))] :
                        SS } =
                      { nt := 105,
                        fr :=
                          [(4, SV.p (PV.c (CV.ptr (0) (0)))),
                            (5, SV.p (PV.c (CV.view tV (2) (0) x.length))),
                            (6, SV.p (PV.c (CV.int IntKind.i64 (↑(0 : Nat) : Int))))],
                        hp :=
                          [HB.cells (50) [CV.view tV (1) (0) (0)],
                            HB.row (41) tV [], HB.row (41) tV x] :
                        SS } ∧
                    ((1024 : Nat) ≤ x.length ∧ x.length ≤ (65536 : Nat)) ∧ Q (SV.p (PV.c (CV.bool true))) []
        else
          ∃ (x : List V),
            { nt := 105,
                  fr :=
                    [(4, SV.p (PV.c (CV.ptr (0) (0)))),
                      (5,
                        SV.p
                          (PV.c
                            (CV.view
                              ((Ty.int IntKind.i64).prod
                                ((Ty.int IntKind.i64).prod
                                  ((Ty.int IntKind.i64).prod ((Ty.int IntKind.i64).prod Ty.str))))
                              (2) (0)
                              (IntKind.i64.wrap
                                  ((1 : Int) + IntKind.i64.wrap ((IntKind.u64.wrap n).tmod (16384 : Int)))).toNat))),
                      (6, SV.p (PV.c (CV.int IntKind.i64 (0 : Int))))],
                  hp :=
                    [HB.cells (50) [CV.view tV (1) (0) (0)], HB.row (41) tV [],
                      HB.row (41)
                        ((Ty.int IntKind.i64).prod
                          ((Ty.int IntKind.i64).prod ((Ty.int IntKind.i64).prod ((Ty.int IntKind.i64).prod Ty.str))))
                        (List.replicate
                          (IntKind.i64.wrap
                              ((1 : Int) + IntKind.i64.wrap ((IntKind.u64.wrap n).tmod (16384 : Int)))).toNat
                          ((0 : Int), (0 : Int), (0 : Int), (0 : Int), { data := #[] : ByteArray }))] :
                  SS } =
                { nt := 105,
                  fr :=
                    [(4, SV.p (PV.c (CV.ptr (0) (0)))),
                      (5, SV.p (PV.c (CV.view tV (2) (0) x.length))),
                      (6, SV.p (PV.c (CV.int IntKind.i64 (↑(0 : Nat) : Int))))],
                  hp :=
                    [HB.cells (50) [CV.view tV (1) (0) (0)], HB.row (41) tV [],
                      HB.row (41) tV x] :
                  SS } ∧
              ((1024 : Nat) ≤ x.length ∧ x.length ≤ (65536 : Nat)) ∧ Q (SV.p (PV.c (CV.bool true))) []) := by kernel_rfl

end Go.Proofs.Ytpkmppfijhhpbaa.Ch
