/- Statements over the abstract machine, reckoned out (chapter CH): printed by a program of this session. No condition. -/
import Derived.Test.YtpkmppfijhhpbaaCH
namespace Go.Proofs.Ytpkmppfijhhpbaa.Ch
open Go Go.Proofs Go.Proofs.Ytpkmppfijhhpbaa.Sx
set_option linter.unusedVariables false
theorem vc_ap (rows : List (List V)) (which : Int) (list : List V) (Q : SV → List HB → Prop) :
    (body Try.prog (gam gLaw) (lam [((0 : Nat), ap0_l), ((2 : Nat), ap2_l)]) Try.f4
  [PV.c (CV.row tR rows), ti which, PV.c (CV.row tV list)] [] Q) =
    (rows.length ≤ maxI →
  bif decide ((↑rows.length : Int) > (40 : Int)) then Q (SV.p (PV.c (CV.bool true))) []
  else
    bif false || (decide ((20 : Nat) < list.length) || greatV list) then Q (SV.p (PV.c (CV.bool true))) []
    else
      rows.length ≤ maxI →
        (0 : Int) ≤ (↑rows.length : Int) ∧
          (↑rows.length : Int) ≤ (↑rows.length : Int) ∧
            (↑(8 : Nat) : Int) * (↑rows.length : Int) ≤ (281474976710656 : Int) ∧
              ∃ (x : ApD),
                { nt := 181,
                      fr :=
                        [(0, SV.p (PV.c (CV.row tR rows))), (1, SV.p (PV.c (CV.int IntKind.i64 which))),
                          (2, SV.p (PV.c (CV.row tV list))),
                          (7, SV.p (PV.c (CV.ptr (0) (0)))),
                          (8,
                            SV.p
                              (PV.c (CV.view (Ty.int IntKind.i64) (2) (0) (↑rows.length : Int).toNat))),
                          (9, SV.p (PV.c (CV.int IntKind.i64 (0 : Int))))],
                      hp :=
                        [HB.cells (50) [CV.view tV (1) (0) (0)],
                          HB.row (41) tV [],
                          HB.row (3) (Ty.int IntKind.i64)
                            (List.replicate (↑rows.length : Int).toNat (0 : Int))] :
                      SS } =
                    { nt := 181,
                      fr :=
                        [(0, SV.p (PV.c (CV.row tR x.rows))),
                          (1, SV.p (PV.c (CV.int IntKind.i64 x.which))),
                          (2, SV.p (PV.c (CV.row tV x.list))),
                          (7, SV.p (PV.c (CV.ptr (0) (0)))),
                          (8,
                            SV.p
                              (PV.c
                                (CV.view tI (2) (0) (List.replicate x.rows.length (0 : Int)).length))),
                          (9, SV.p (PV.c (CV.int IntKind.i64 (↑(0 : Nat) : Int))))],
                      hp :=
                        [HB.cells (50) [CV.view tV (1) (0) (0)],
                          HB.row (41) tV [], HB.row (3) tI (List.replicate x.rows.length (0 : Int))] :
                      SS } ∧
                  x.rows.length ≤ (40 : Nat) ∧
                    Q (SV.p (PV.c (CV.bool true))) [] ∧
                      ((∀ (r : List V), r ∈ x.rows → r.length ≤ (20 : Nat)) →
                        x.rows.length ≤ maxI →
                          bif (↑x.rows.length : Int) == (0 : Int) then
                            x.rows.flatten.length = x.rows.flatten.length ∧
                              Q (SV.p (PV.c (CV.bool ((↑x.rows.flatten.length : Int) == (0 : Int))))) []
                          else
                            x.rows.length ≤ maxI →
                              IntKind.u64.wrap (↑x.rows.length : Int) ≠ (0 : Int) ∧
                                (x.list.length ≤ maxI →
                                  (0 : Int) ≤
                                      IntKind.i64.wrap
                                        ((IntKind.u64.wrap x.which).tmod (IntKind.u64.wrap (↑x.rows.length : Int))) ∧
                                    IntKind.i64.wrap
                                          ((IntKind.u64.wrap x.which).tmod (IntKind.u64.wrap (↑x.rows.length : Int))) <
                                        (↑x.rows.length : Int) ∧
                                      (IntKind.i64.wrap
                                              ((IntKind.u64.wrap x.which).tmod
                                                (IntKind.u64.wrap (↑x.rows.length : Int)))).toNat <
                                          x.rows.length ∧
                                        (List.length
                                              (x.rows.getD
                                                (IntKind.i64.wrap
                                                    ((IntKind.u64.wrap x.which).tmod
                                                      (IntKind.u64.wrap (↑x.rows.length : Int)))).toNat
                                                tR.dft) ≤
                                            maxI →
                                          bif
                                              decide
                                                ((↑x.list.length : Int) >
                                                  (↑(List.length
                                                        (x.rows.getD
                                                          (IntKind.i64.wrap
                                                              ((IntKind.u64.wrap x.which).tmod
                                                                (IntKind.u64.wrap (↑x.rows.length : Int)))).toNat
                                                          tR.dft)) :
                                                    Int)) then
                                            Q (SV.p (PV.c (CV.bool true))) []
                                          else
                                            (0 : Int) ≤
                                                IntKind.i64.wrap
                                                  ((IntKind.u64.wrap x.which).tmod
                                                    (IntKind.u64.wrap (↑x.rows.length : Int))) ∧
                                              IntKind.i64.wrap
                                                    ((IntKind.u64.wrap x.which).tmod
                                                      (IntKind.u64.wrap (↑x.rows.length : Int))) <
                                                  (↑(atsOf x.rows).length : Int) ∧
                                                0 +
                                                      (IntKind.i64.wrap
                                                          ((IntKind.u64.wrap x.which).tmod
                                                            (IntKind.u64.wrap (↑x.rows.length : Int)))).toNat <
                                                    (atsOf x.rows).length ∧
                                                  (x.rows.flatten.length = x.rows.flatten.length ∧
                                                      x.rows.flatten.length ≤ (65536 : Nat) ∧
                                                        i64
                                                          ((atsOf x.rows).getD
                                                            (0 +
                                                              (IntKind.i64.wrap
                                                                  ((IntKind.u64.wrap x.which).tmod
                                                                    (IntKind.u64.wrap (↑x.rows.length : Int)))).toNat)
                                                            tI.dft)) ∧
                                                    (has x.rows.flatten.length
                                                            ((atsOf x.rows).getD
                                                              (0 +
                                                                (IntKind.i64.wrap
                                                                    ((IntKind.u64.wrap x.which).tmod
                                                                      (IntKind.u64.wrap (↑x.rows.length : Int)))).toNat)
                                                              tI.dft)
                                                            (↑x.list.length : Int) =
                                                          false →
                                                        Q (SV.p (PV.c (CV.bool false))) []) ∧
                                                      (has x.rows.flatten.length
                                                            ((atsOf x.rows).getD
                                                              (0 +
                                                                (IntKind.i64.wrap
                                                                    ((IntKind.u64.wrap x.which).tmod
                                                                      (IntKind.u64.wrap (↑x.rows.length : Int)))).toNat)
                                                              tI.dft)
                                                            (↑x.list.length : Int) =
                                                          true →
                                                        ∃ (x_1 : ApD),
                                                          { nt := 181,
                                                                fr :=
                                                                  [(0, SV.p (PV.c (CV.row tR x.rows))),
                                                                    (2, SV.p (PV.c (CV.row tV x.list))),
                                                                    (7,
                                                                      SV.p (PV.c (CV.ptr (0) (0)))),
                                                                    (8,
                                                                      SV.p
                                                                        (PV.c
                                                                          (CV.view tI (2) (0)
                                                                            (atsOf x.rows).length))),
                                                                    (12,
                                                                      SV.p
                                                                        (PV.c
                                                                          (CV.int IntKind.i64
                                                                            (IntKind.i64.wrap
                                                                              ((IntKind.u64.wrap x.which).tmod
                                                                                (IntKind.u64.wrap
                                                                                  (↑x.rows.length : Int))))))),
                                                                    (13,
                                                                      SV.p (PV.c (CV.int IntKind.i64 (0 : Int))))],
                                                                hp :=
                                                                  [HB.cells (50)
                                                                      [CV.view tV (1) (0)
                                                                          (splice x.rows.flatten
                                                                              (Int.toNat
                                                                                ((atsOf x.rows).getD
                                                                                    (0 +
                                                                                      (IntKind.i64.wrap
                                                                                          ((IntKind.u64.wrap
                                                                                                x.which).tmod
                                                                                            (IntKind.u64.wrap
                                                                                              (↑x.rows.length :
                                                                                                Int)))).toNat)
                                                                                    tI.dft -
                                                                                  (1 : (AS.int IntKind.i64).T)))
                                                                              x.list).length],
                                                                    HB.row (41) tV
                                                                      (splice x.rows.flatten
                                                                        (Int.toNat
                                                                          ((atsOf x.rows).getD
                                                                              (0 +
                                                                                (IntKind.i64.wrap
                                                                                    ((IntKind.u64.wrap x.which).tmod
                                                                                      (IntKind.u64.wrap
                                                                                        (↑x.rows.length : Int)))).toNat)
                                                                              tI.dft -
                                                                            (1 : (AS.int IntKind.i64).T)))
                                                                        x.list),
                                                                    HB.row (3) tI (atsOf x.rows)] :
                                                                SS } =
                                                              { nt := 181,
                                                                fr :=
                                                                  [(0, SV.p (PV.c (CV.row tR x_1.rows))),
                                                                    (2, SV.p (PV.c (CV.row tV x_1.list))),
                                                                    (7,
                                                                      SV.p (PV.c (CV.ptr (0) (0)))),
                                                                    (8,
                                                                      SV.p
                                                                        (PV.c
                                                                          (CV.view tI (2) (0)
                                                                            (atsOf x_1.rows).length))),
                                                                    (12,
                                                                      SV.p (PV.c (CV.int IntKind.i64 (↑x_1.k : Int)))),
                                                                    (13,
                                                                      SV.p
                                                                        (PV.c
                                                                          (CV.int IntKind.i64 (↑(0 : Nat) : Int))))],
                                                                hp :=
                                                                  [HB.cells (50)
                                                                      [CV.view tV (1) (0)
                                                                          (splice x_1.rows.flatten
                                                                              (offOf x_1.rows x_1.k) x_1.list).length],
                                                                    HB.row (41) tV
                                                                      (splice x_1.rows.flatten (offOf x_1.rows x_1.k)
                                                                        x_1.list),
                                                                    HB.row (3) tI (atsOf x_1.rows)] :
                                                                SS } ∧
                                                            ApOk x_1 ∧ Q (SV.p (PV.c (CV.bool true))) []))))) := by kernel_rfl

end Go.Proofs.Ytpkmppfijhhpbaa.Ch
