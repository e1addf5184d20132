/- Statements over the abstract machine, reckoned out (chapter CG): printed by a program of this session. No condition. -/
import Derived.Test.YtpkmppfijhhpbaaCG
namespace Go.Proofs.Ytpkmppfijhhpbaa.Ch
open Go Go.Proofs Go.Proofs.Ytpkmppfijhhpbaa.Sx
set_option linter.unusedVariables false
theorem vc_ap0 (d : ApD) (xs : List V) (ats : List Int) (i : Nat) (K : SS → Prop) (Q : Exit → SS → Prop) :
    (sx Try.prog (gam gLaw) noLam (lp Try.f4 (0 : Nat)) (0 : Nat) (stA d xs ats i)
  (thenQ (cq (0 : Nat) [(0 : Nat), (1 : Nat), (2 : Nat), (7 : Nat), (8 : Nat), (9 : Nat)] K)
    (cQE (0 : Nat) [(0 : Nat), (1 : Nat), (2 : Nat), (7 : Nat), (8 : Nat)] [(6 : Nat)] Q))) =
    (d.rows.length ≤ maxI →
  bif decide ((↑i : Int) < (↑d.rows.length : Int)) then
    (0 : Int) ≤ (↑i : Int) ∧
      (↑i : Int) < (↑d.rows.length : Int) ∧
        (↑i : Int).toNat < d.rows.length ∧
          bif
              decide ((20 : Nat) < List.length (d.rows.getD (↑i : Int).toNat tR.dft)) ||
                greatV (d.rows.getD (↑i : Int).toNat tR.dft) then
            Q Exit.ret { nt := 181, fr := [(6, SV.p (PV.c (CV.bool true)))], hp := [] : SS }
          else
            (0 : Int) ≤ (↑i : Int) ∧
              (↑i : Int) < (↑d.rows.length : Int) ∧
                (↑i : Int).toNat < d.rows.length ∧
                  (xs.length = xs.length ∧ xs.length ≤ (65536 : Nat)) ∧
                    ((65536 : Nat) < xs.length + List.length (d.rows.getD (↑i : Int).toNat tR.dft) →
                        (decide ((↑i : Int) > (0 : Int)) = true →
                            (0 : Int) ≤ IntKind.i64.wrap ((↑i : Int) - (1 : Int)) ∧
                              IntKind.i64.wrap ((↑i : Int) - (1 : Int)) < (↑ats.length : Int) ∧ True) ∧
                          (decide ((↑i : Int) > (0 : Int)) = true →
                              0 + (IntKind.i64.wrap ((↑i : Int) - (1 : Int))).toNat < ats.length ∧ True) ∧
                            (decide ((↑i : Int) > (0 : Int)) = true →
                                (0 : Int) ≤ IntKind.i64.wrap ((↑i : Int) - (1 : Int)) ∧
                                  IntKind.i64.wrap ((↑i : Int) - (1 : Int)) < (↑d.rows.length : Int) ∧ True) ∧
                              (decide ((↑i : Int) > (0 : Int)) = true →
                                  (IntKind.i64.wrap ((↑i : Int) - (1 : Int))).toNat < d.rows.length ∧ True) ∧
                                Q Exit.ret
                                  { nt := 181, fr := [(6, SV.p (PV.c (CV.bool false)))], hp := [] :
                                    SS }) ∧
                      (xs.length + List.length (d.rows.getD (↑i : Int).toNat tR.dft) ≤ (65536 : Nat) →
                        (decide ((↑i : Int) > (0 : Int)) = true →
                            (0 : Int) ≤ IntKind.i64.wrap ((↑i : Int) - (1 : Int)) ∧
                              IntKind.i64.wrap ((↑i : Int) - (1 : Int)) < (↑ats.length : Int) ∧ True) ∧
                          (decide ((↑i : Int) > (0 : Int)) = true →
                              0 + (IntKind.i64.wrap ((↑i : Int) - (1 : Int))).toNat < ats.length ∧ True) ∧
                            (decide ((↑i : Int) > (0 : Int)) = true →
                                (0 : Int) ≤ IntKind.i64.wrap ((↑i : Int) - (1 : Int)) ∧
                                  IntKind.i64.wrap ((↑i : Int) - (1 : Int)) < (↑d.rows.length : Int) ∧ True) ∧
                              (decide ((↑i : Int) > (0 : Int)) = true →
                                  (IntKind.i64.wrap ((↑i : Int) - (1 : Int))).toNat < d.rows.length ∧ True) ∧
                                bif
                                    (0 : Int) != (0 : Int) ||
                                      decide ((↑i : Int) > (0 : Int)) &&
                                        (↑xs.length : Int) + (1 : Int) !=
                                          IntKind.i64.wrap
                                            (ats.getD (0 + (IntKind.i64.wrap ((↑i : Int) - (1 : Int))).toNat)
                                                tI.dft +
                                              (↑(List.length
                                                    (d.rows.getD (IntKind.i64.wrap ((↑i : Int) - (1 : Int))).toNat
                                                      tR.dft)) :
                                                Int)) then
                                  Q Exit.ret
                                    { nt := 181, fr := [(6, SV.p (PV.c (CV.bool false)))], hp := [] :
                                      SS }
                                else
                                  (0 : Int) ≤ (↑i : Int) ∧
                                    (↑i : Int) < (↑ats.length : Int) ∧
                                      0 + (↑i : Int).toNat < ats.length ∧
                                        K
                                          { nt := 181,
                                            fr :=
                                              [(0, SV.p (PV.c (CV.row tR d.rows))),
                                                (1, SV.p (PV.c (CV.int IntKind.i64 d.which))),
                                                (2, SV.p (PV.c (CV.row tV d.list))),
                                                (7, SV.p (PV.c (CV.ptr (0) (0)))),
                                                (8,
                                                  SV.p (PV.c (CV.view tI (2) (0) ats.length))),
                                                (9,
                                                  SV.p
                                                    (PV.c
                                                      (CV.int IntKind.i64
                                                        (IntKind.i64.wrap ((↑i : Int) + (1 : Int))))))],
                                            hp :=
                                              [HB.cells (50)
                                                  [CV.view tV (1) (0)
                                                      (xs ++ d.rows.getD (↑i : Int).toNat tR.dft).length],
                                                HB.row (41) tV (xs ++ d.rows.getD (↑i : Int).toNat tR.dft),
                                                HB.row (3) tI
                                                  (ats.set (0 + (↑i : Int).toNat)
                                                    ((↑xs.length : Int) + (1 : Int)))] :
                                            SS })
  else
    Q (Exit.exit (0))
      { nt := 181,
        fr :=
          [(0, SV.p (PV.c (CV.row tR d.rows))), (1, SV.p (PV.c (CV.int IntKind.i64 d.which))),
            (2, SV.p (PV.c (CV.row tV d.list))), (7, SV.p (PV.c (CV.ptr (0) (0)))),
            (8, SV.p (PV.c (CV.view tI (2) (0) ats.length)))],
        hp :=
          [HB.cells (50) [CV.view tV (1) (0) xs.length], HB.row (41) tV xs,
            HB.row (3) tI ats] :
        SS }) := by kernel_rfl

theorem vc_ap2 (d : ApD) (xs : List V) (ats : List Int) (i : Nat) (K : SS → Prop) (Q : Exit → SS → Prop) :
    (sx Try.prog (gam gLaw) noLam (lp Try.f4 (1 : Nat)) (2 : Nat) (stC d xs ats i)
  (thenQ (cq (0 : Nat) [(0 : Nat), (2 : Nat), (7 : Nat), (8 : Nat), (12 : Nat), (13 : Nat)] K)
    (cQE (0 : Nat) [] [(6 : Nat)] Q))) =
    (d.rows.length ≤ maxI →
  bif decide ((↑i : Int) < (↑d.rows.length : Int)) then
    (0 : Int) ≤ (↑i : Int) ∧
      (↑i : Int) < (↑ats.length : Int) ∧
        (0 : Int) ≤ (↑i : Int) ∧
          (↑i : Int) < (↑d.rows.length : Int) ∧
            (↑i : Int).toNat < d.rows.length ∧
              (List.length (d.rows.getD (↑i : Int).toNat tR.dft) ≤ maxI →
                0 + (↑i : Int).toNat < ats.length ∧
                  (xs.length = xs.length ∧
                      xs.length ≤ (65536 : Nat) ∧
                        i64 (ats.getD (0 + (↑i : Int).toNat) tI.dft) ∧
                          i64 (↑(List.length (d.rows.getD (↑i : Int).toNat tR.dft)) : Int)) ∧
                    (has xs.length (ats.getD (0 + (↑i : Int).toNat) tI.dft)
                            (↑(List.length (d.rows.getD (↑i : Int).toNat tR.dft)) : Int) =
                          false →
                        Q Exit.ret
                          { nt := 181, fr := [(6, SV.p (PV.c (CV.bool false)))], hp := [] : SS }) ∧
                      (has xs.length (ats.getD (0 + (↑i : Int).toNat) tI.dft)
                            (↑(List.length (d.rows.getD (↑i : Int).toNat tR.dft)) : Int) =
                          true →
                        (0 : Int) ≤ (↑i : Int) ∧
                          (↑i : Int) < (↑d.rows.length : Int) ∧
                            (↑i : Int).toNat < d.rows.length ∧
                              bif (↑i : Int) == (↑d.k : Int) then
                                (0 : Int) ≤ (↑i : Int) ∧
                                  (↑i : Int) < (↑d.rows.length : Int) ∧
                                    (↑i : Int).toNat < d.rows.length ∧
                                      (d.list.length ≤ maxI →
                                        (0 : Int) ≤ (↑d.list.length : Int) ∧
                                          (↑d.list.length : Int) ≤
                                              (↑(List.length (d.rows.getD (↑i : Int).toNat tR.dft)) : Int) ∧
                                            (0 : Nat) ≤ (0 : Nat) ∧
                                              (vw [] (0 : Nat) (0 : Nat) ++ d.list).length * (48 : Nat) ≤
                                                  (140737488355328 : Nat) ∧
                                                0 + (vw [] (0 : Nat) (0 : Nat) ++ d.list).length ≤
                                                    (vw [] (0 : Nat) (0 : Nat) ++ d.list).length ∧
                                                  (vw (vw [] (0 : Nat) (0 : Nat) ++ d.list) (0)
                                                              (vw [] (0 : Nat) (0 : Nat) ++ d.list).length ++
                                                            cutL (d.rows.getD (↑i : Int).toNat tR.dft)
                                                              (some (↑d.list.length : Int)) none).length *
                                                        (48 : Nat) ≤
                                                      (140737488355328 : Nat) ∧
                                                    0 +
                                                          (vw xs
                                                              (Int.toNat
                                                                (ats.getD (0 + (↑i : Int).toNat) tI.dft -
                                                                  (1 : (AS.int IntKind.i64).T)))
                                                              (↑(List.length (d.rows.getD (↑i : Int).toNat tR.dft)) :
                                                                  Int).toNat).length ≤
                                                        (vw xs
                                                            (Int.toNat
                                                              (ats.getD (0 + (↑i : Int).toNat) tI.dft -
                                                                (1 : (AS.int IntKind.i64).T)))
                                                            (↑(List.length (d.rows.getD (↑i : Int).toNat tR.dft)) :
                                                                Int).toNat).length ∧
                                                      0 +
                                                            (vw (vw [] (0 : Nat) (0 : Nat) ++ d.list) (0)
                                                                  (vw [] (0 : Nat) (0 : Nat) ++ d.list).length ++
                                                                cutL (d.rows.getD (↑i : Int).toNat tR.dft)
                                                                  (some (↑d.list.length : Int)) none).length ≤
                                                          (vw (vw [] (0 : Nat) (0 : Nat) ++ d.list) (0)
                                                                (vw [] (0 : Nat) (0 : Nat) ++ d.list).length ++
                                                              cutL (d.rows.getD (↑i : Int).toNat tR.dft)
                                                                (some (↑d.list.length : Int)) none).length ∧
                                                        bif
                                                            !decide
                                                                (vw
                                                                    (vw xs
                                                                      (Int.toNat
                                                                        (ats.getD (0 + (↑i : Int).toNat)
                                                                            tI.dft -
                                                                          (1 : (AS.int IntKind.i64).T)))
                                                                      (↑(List.length
                                                                              (d.rows.getD (↑i : Int).toNat tR.dft)) :
                                                                          Int).toNat)
                                                                    (0)
                                                                    (vw xs
                                                                        (Int.toNat
                                                                          (ats.getD (0 + (↑i : Int).toNat)
                                                                              tI.dft -
                                                                            (1 : (AS.int IntKind.i64).T)))
                                                                        (↑(List.length
                                                                                (d.rows.getD (↑i : Int).toNat tR.dft)) :
                                                                            Int).toNat).length =
                                                                  vw
                                                                    (vw (vw [] (0 : Nat) (0 : Nat) ++ d.list)
                                                                        (0)
                                                                        (vw [] (0 : Nat) (0 : Nat) ++ d.list).length ++
                                                                      cutL (d.rows.getD (↑i : Int).toNat tR.dft)
                                                                        (some (↑d.list.length : Int)) none)
                                                                    (0)
                                                                    (vw (vw [] (0 : Nat) (0 : Nat) ++ d.list)
                                                                          (0)
                                                                          (vw [] (0 : Nat) (0 : Nat) ++
                                                                              d.list).length ++
                                                                        cutL (d.rows.getD (↑i : Int).toNat tR.dft)
                                                                          (some (↑d.list.length : Int))
                                                                          none).length) then
                                                          Q Exit.ret
                                                            { nt := 181,
                                                              fr := [(6, SV.p (PV.c (CV.bool false)))],
                                                              hp := [] : SS }
                                                        else
                                                          (vw xs
                                                                  (Int.toNat
                                                                    (ats.getD (0 + (↑i : Int).toNat) tI.dft -
                                                                      (1 : (AS.int IntKind.i64).T)))
                                                                  (↑(List.length
                                                                          (d.rows.getD (↑i : Int).toNat tR.dft)) :
                                                                      Int).toNat).length ≤
                                                              maxI →
                                                            bif
                                                                decide
                                                                  ((↑(vw xs
                                                                            (Int.toNat
                                                                              (ats.getD (0 + (↑i : Int).toNat)
                                                                                  tI.dft -
                                                                                (1 : (AS.int IntKind.i64).T)))
                                                                            (↑(List.length
                                                                                    (d.rows.getD (↑i : Int).toNat
                                                                                      tR.dft)) :
                                                                                Int).toNat).length :
                                                                      Int) >
                                                                    (0 : Int)) then
                                                              (0 : Int) ≤ (0 : Int) ∧
                                                                (0 : Int) <
                                                                    (↑(vw xs
                                                                            (Int.toNat
                                                                              (ats.getD (0 + (↑i : Int).toNat)
                                                                                  tI.dft -
                                                                                (1 : (AS.int IntKind.i64).T)))
                                                                            (↑(List.length
                                                                                    (d.rows.getD (↑i : Int).toNat
                                                                                      tR.dft)) :
                                                                                Int).toNat).length :
                                                                      Int) ∧
                                                                  (0 : Nat) <
                                                                      (vw xs
                                                                          (Int.toNat
                                                                            (ats.getD (0 + (↑i : Int).toNat)
                                                                                tI.dft -
                                                                              (1 : (AS.int IntKind.i64).T)))
                                                                          (↑(List.length
                                                                                  (d.rows.getD (↑i : Int).toNat
                                                                                    tR.dft)) :
                                                                              Int).toNat).length ∧
                                                                    (0 : Int) ≤ (↑i : Int) ∧
                                                                      (↑i : Int) < (↑ats.length : Int) ∧
                                                                        (0 : Int) ≤ (↑i : Int) ∧
                                                                          (↑i : Int) < (↑d.rows.length : Int) ∧
                                                                            (↑i : Int).toNat < d.rows.length ∧
                                                                              (List.length
                                                                                    (d.rows.getD (↑i : Int).toNat
                                                                                      tR.dft) ≤
                                                                                  maxI →
                                                                                0 + (↑i : Int).toNat <
                                                                                    ats.length ∧
                                                                                  (xs.length = xs.length ∧
                                                                                      xs.length ≤ (65536 : Nat) ∧
                                                                                        i64
                                                                                            (ats.getD
                                                                                              (0 +
                                                                                                (↑i : Int).toNat)
                                                                                              tI.dft) ∧
                                                                                          i64
                                                                                            (↑(List.length
                                                                                                  (d.rows.getD
                                                                                                    (↑i : Int).toNat
                                                                                                    tR.dft)) :
                                                                                              Int)) ∧
                                                                                    (has xs.length
                                                                                            (ats.getD
                                                                                              (0 +
                                                                                                (↑i : Int).toNat)
                                                                                              tI.dft)
                                                                                            (↑(List.length
                                                                                                  (d.rows.getD
                                                                                                    (↑i : Int).toNat
                                                                                                    tR.dft)) :
                                                                                              Int) =
                                                                                          false →
                                                                                        Q Exit.ret
                                                                                          { nt := 181,
                                                                                            fr :=
                                                                                              [(6,
                                                                                                  SV.p
                                                                                                    (PV.c
                                                                                                      (CV.bool
                                                                                                        false)))],
                                                                                            hp := [] : SS }) ∧
                                                                                      (has xs.length
                                                                                            (ats.getD
                                                                                              (0 +
                                                                                                (↑i : Int).toNat)
                                                                                              tI.dft)
                                                                                            (↑(List.length
                                                                                                  (d.rows.getD
                                                                                                    (↑i : Int).toNat
                                                                                                    tR.dft)) :
                                                                                              Int) =
                                                                                          true →
                                                                                        0 +
                                                                                              (vw xs
                                                                                                  (Int.toNat
                                                                                                    (ats.getD
                                                                                                        (0 +
                                                                                                          (↑i :
                                                                                                              Int).toNat)
                                                                                                        tI.dft -
                                                                                                      (1 :
                                                                                                        (AS.int
                                                                                                            IntKind.i64).T)))
                                                                                                  (↑(List.length
                                                                                                          (d.rows.getD
                                                                                                            (↑i :
                                                                                                                Int).toNat
                                                                                                            tR.dft)) :
                                                                                                      Int).toNat).length ≤
                                                                                            (vw xs
                                                                                                (Int.toNat
                                                                                                  (ats.getD
                                                                                                      (0 +
                                                                                                        (↑i :
                                                                                                            Int).toNat)
                                                                                                      tI.dft -
                                                                                                    (1 :
                                                                                                      (AS.int
                                                                                                          IntKind.i64).T)))
                                                                                                (↑(List.length
                                                                                                        (d.rows.getD
                                                                                                          (↑i :
                                                                                                              Int).toNat
                                                                                                          tR.dft)) :
                                                                                                    Int).toNat).length ∧
                                                                                          0 +
                                                                                                (vw
                                                                                                      (vw [] (0 : Nat)
                                                                                                          (0 : Nat) ++
                                                                                                        d.list)
                                                                                                      (0)
                                                                                                      (vw [] (0 : Nat)
                                                                                                            (0 : Nat) ++
                                                                                                          d.list).length ++
                                                                                                    cutL
                                                                                                      (d.rows.getD
                                                                                                        (↑i : Int).toNat
                                                                                                        tR.dft)
                                                                                                      (some
                                                                                                        (↑d.list.length :
                                                                                                          Int))
                                                                                                      none).length ≤
                                                                                              (vw
                                                                                                    (vw [] (0 : Nat)
                                                                                                        (0 : Nat) ++
                                                                                                      d.list)
                                                                                                    (0)
                                                                                                    (vw [] (0 : Nat)
                                                                                                          (0 : Nat) ++
                                                                                                        d.list).length ++
                                                                                                  cutL
                                                                                                    (d.rows.getD
                                                                                                      (↑i : Int).toNat
                                                                                                      tR.dft)
                                                                                                    (some
                                                                                                      (↑d.list.length :
                                                                                                        Int))
                                                                                                    none).length ∧
                                                                                            bif
                                                                                                false ||
                                                                                                  !decide
                                                                                                      (vw
                                                                                                          (vw xs
                                                                                                            (Int.toNat
                                                                                                              (ats.getD
                                                                                                                  (nat_lit
                                                                                                                      0 +
                                                                                                                    (↑i :
                                                                                                                        Int).toNat)
                                                                                                                  tI.dft -
                                                                                                                (1 :
                                                                                                                  (AS.int
                                                                                                                      IntKind.i64).T)))
                                                                                                            (↑(List.length
                                                                                                                    (d.rows.getD
                                                                                                                      (↑i :
                                                                                                                          Int).toNat
                                                                                                                      tR.dft)) :
                                                                                                                Int).toNat)
                                                                                                          (0)
                                                                                                          (vw xs
                                                                                                              (Int.toNat
                                                                                                                (ats.getD
                                                                                                                    (nat_lit
                                                                                                                        0 +
                                                                                                                      (↑i :
                                                                                                                          Int).toNat)
                                                                                                                    tI.dft -
                                                                                                                  (1 :
                                                                                                                    (AS.int
                                                                                                                        IntKind.i64).T)))
                                                                                                              (↑(List.length
                                                                                                                      (d.rows.getD
                                                                                                                        (↑i :
                                                                                                                            Int).toNat
                                                                                                                        tR.dft)) :
                                                                                                                  Int).toNat).length =
                                                                                                        vw
                                                                                                          (vw
                                                                                                              (vw []
                                                                                                                  (0 :
                                                                                                                    Nat)
                                                                                                                  (0 :
                                                                                                                    Nat) ++
                                                                                                                d.list)
                                                                                                              (nat_lit
                                                                                                                0)
                                                                                                              (vw []
                                                                                                                    (0 :
                                                                                                                      Nat)
                                                                                                                    (0 :
                                                                                                                      Nat) ++
                                                                                                                  d.list).length ++
                                                                                                            cutL
                                                                                                              (d.rows.getD
                                                                                                                (↑i :
                                                                                                                    Int).toNat
                                                                                                                tR.dft)
                                                                                                              (some
                                                                                                                (↑d.list.length :
                                                                                                                  Int))
                                                                                                              none)
                                                                                                          (0)
                                                                                                          (vw
                                                                                                                (vw []
                                                                                                                    (0 :
                                                                                                                      Nat)
                                                                                                                    (0 :
                                                                                                                      Nat) ++
                                                                                                                  d.list)
                                                                                                                (nat_lit
                                                                                                                  0)
                                                                                                                (vw []
                                                                                                                      (0 :
                                                                                                                        Nat)
                                                                                                                      (0 :
                                                                                                                        Nat) ++
                                                                                                                    d.list).length ++
                                                                                                              cutL
                                                                                                                (d.rows.getD
                                                                                                                  (↑i :
                                                                                                                      Int).toNat
                                                                                                                  tR.dft)
                                                                                                                (some
                                                                                                                  (↑d.list.length :
                                                                                                                    Int))
                                                                                                                none).length) then
                                                                                              Q Exit.ret
                                                                                                { nt := 181,
                                                                                                  fr :=
                                                                                                    [(6,
                                                                                                        SV.p
                                                                                                          (PV.c
                                                                                                            (CV.bool
                                                                                                              false)))],
                                                                                                  hp := [] : SS }
                                                                                            else
                                                                                              K
                                                                                                { nt := 181,
                                                                                                  fr :=
                                                                                                    [(0,
                                                                                                        SV.p
                                                                                                          (PV.c
                                                                                                            (CV.row tR
                                                                                                              d.rows))),
                                                                                                      (2,
                                                                                                        SV.p
                                                                                                          (PV.c
                                                                                                            (CV.row tV
                                                                                                              d.list))),
                                                                                                      (7,
                                                                                                        SV.p
                                                                                                          (PV.c
                                                                                                            (CV.ptr
                                                                                                              (nat_lit
                                                                                                                0)
                                                                                                              (nat_lit
                                                                                                                0)))),
                                                                                                      (8,
                                                                                                        SV.p
                                                                                                          (PV.c
                                                                                                            (CV.view tI
                                                                                                              (nat_lit
                                                                                                                2)
                                                                                                              (nat_lit
                                                                                                                0)
                                                                                                              ats.length))),
                                                                                                      (12,
                                                                                                        SV.p
                                                                                                          (PV.c
                                                                                                            (CV.int
                                                                                                              IntKind.i64
                                                                                                              (↑d.k :
                                                                                                                Int)))),
                                                                                                      (13,
                                                                                                        SV.p
                                                                                                          (PV.c
                                                                                                            (CV.int
                                                                                                              IntKind.i64
                                                                                                              (IntKind.i64.wrap
                                                                                                                ((↑i :
                                                                                                                    Int) +
                                                                                                                  (1 :
                                                                                                                    Int))))))],
                                                                                                  hp :=
                                                                                                    [HB.cells
                                                                                                        (50)
                                                                                                        [CV.view tV
                                                                                                            (1)
                                                                                                            (0)
                                                                                                            xs.length],
                                                                                                      HB.row
                                                                                                        (41) tV
                                                                                                        xs,
                                                                                                      HB.row (3)
                                                                                                        tI ats] :
                                                                                                  SS }))
                                                            else
                                                              (0 : Int) ≤ (↑i : Int) ∧
                                                                (↑i : Int) < (↑ats.length : Int) ∧
                                                                  (0 : Int) ≤ (↑i : Int) ∧
                                                                    (↑i : Int) < (↑d.rows.length : Int) ∧
                                                                      (↑i : Int).toNat < d.rows.length ∧
                                                                        (List.length
                                                                              (d.rows.getD (↑i : Int).toNat tR.dft) ≤
                                                                            maxI →
                                                                          0 + (↑i : Int).toNat < ats.length ∧
                                                                            (xs.length = xs.length ∧
                                                                                xs.length ≤ (65536 : Nat) ∧
                                                                                  i64
                                                                                      (ats.getD
                                                                                        (0 + (↑i : Int).toNat)
                                                                                        tI.dft) ∧
                                                                                    i64
                                                                                      (↑(List.length
                                                                                            (d.rows.getD
                                                                                              (↑i : Int).toNat
                                                                                              tR.dft)) :
                                                                                        Int)) ∧
                                                                              (has xs.length
                                                                                      (ats.getD
                                                                                        (0 + (↑i : Int).toNat)
                                                                                        tI.dft)
                                                                                      (↑(List.length
                                                                                            (d.rows.getD
                                                                                              (↑i : Int).toNat
                                                                                              tR.dft)) :
                                                                                        Int) =
                                                                                    false →
                                                                                  Q Exit.ret
                                                                                    { nt := 181,
                                                                                      fr :=
                                                                                        [(6,
                                                                                            SV.p
                                                                                              (PV.c (CV.bool false)))],
                                                                                      hp := [] : SS }) ∧
                                                                                (has xs.length
                                                                                      (ats.getD
                                                                                        (0 + (↑i : Int).toNat)
                                                                                        tI.dft)
                                                                                      (↑(List.length
                                                                                            (d.rows.getD
                                                                                              (↑i : Int).toNat
                                                                                              tR.dft)) :
                                                                                        Int) =
                                                                                    true →
                                                                                  0 +
                                                                                        (vw xs
                                                                                            (Int.toNat
                                                                                              (ats.getD
                                                                                                  (0 +
                                                                                                    (↑i : Int).toNat)
                                                                                                  tI.dft -
                                                                                                (1 :
                                                                                                  (AS.int
                                                                                                      IntKind.i64).T)))
                                                                                            (↑(List.length
                                                                                                    (d.rows.getD
                                                                                                      (↑i : Int).toNat
                                                                                                      tR.dft)) :
                                                                                                Int).toNat).length ≤
                                                                                      (vw xs
                                                                                          (Int.toNat
                                                                                            (ats.getD
                                                                                                (0 +
                                                                                                  (↑i : Int).toNat)
                                                                                                tI.dft -
                                                                                              (1 :
                                                                                                (AS.int
                                                                                                    IntKind.i64).T)))
                                                                                          (↑(List.length
                                                                                                  (d.rows.getD
                                                                                                    (↑i : Int).toNat
                                                                                                    tR.dft)) :
                                                                                              Int).toNat).length ∧
                                                                                    0 +
                                                                                          (vw
                                                                                                (vw [] (0 : Nat)
                                                                                                    (0 : Nat) ++
                                                                                                  d.list)
                                                                                                (0)
                                                                                                (vw [] (0 : Nat)
                                                                                                      (0 : Nat) ++
                                                                                                    d.list).length ++
                                                                                              cutL
                                                                                                (d.rows.getD
                                                                                                  (↑i : Int).toNat
                                                                                                  tR.dft)
                                                                                                (some
                                                                                                  (↑d.list.length :
                                                                                                    Int))
                                                                                                none).length ≤
                                                                                        (vw
                                                                                              (vw [] (0 : Nat)
                                                                                                  (0 : Nat) ++
                                                                                                d.list)
                                                                                              (0)
                                                                                              (vw [] (0 : Nat)
                                                                                                    (0 : Nat) ++
                                                                                                  d.list).length ++
                                                                                            cutL
                                                                                              (d.rows.getD
                                                                                                (↑i : Int).toNat tR.dft)
                                                                                              (some
                                                                                                (↑d.list.length : Int))
                                                                                              none).length ∧
                                                                                      bif
                                                                                          false ||
                                                                                            !decide
                                                                                                (vw
                                                                                                    (vw xs
                                                                                                      (Int.toNat
                                                                                                        (ats.getD
                                                                                                            (0 +
                                                                                                              (↑i :
                                                                                                                  Int).toNat)
                                                                                                            tI.dft -
                                                                                                          (1 :
                                                                                                            (AS.int
                                                                                                                IntKind.i64).T)))
                                                                                                      (↑(List.length
                                                                                                              (d.rows.getD
                                                                                                                (↑i :
                                                                                                                    Int).toNat
                                                                                                                tR.dft)) :
                                                                                                          Int).toNat)
                                                                                                    (0)
                                                                                                    (vw xs
                                                                                                        (Int.toNat
                                                                                                          (ats.getD
                                                                                                              (nat_lit
                                                                                                                  0 +
                                                                                                                (↑i :
                                                                                                                    Int).toNat)
                                                                                                              tI.dft -
                                                                                                            (1 :
                                                                                                              (AS.int
                                                                                                                  IntKind.i64).T)))
                                                                                                        (↑(List.length
                                                                                                                (d.rows.getD
                                                                                                                  (↑i :
                                                                                                                      Int).toNat
                                                                                                                  tR.dft)) :
                                                                                                            Int).toNat).length =
                                                                                                  vw
                                                                                                    (vw
                                                                                                        (vw [] (0 : Nat)
                                                                                                            (0 : Nat) ++
                                                                                                          d.list)
                                                                                                        (0)
                                                                                                        (vw [] (0 : Nat)
                                                                                                              (0 :
                                                                                                                Nat) ++
                                                                                                            d.list).length ++
                                                                                                      cutL
                                                                                                        (d.rows.getD
                                                                                                          (↑i :
                                                                                                              Int).toNat
                                                                                                          tR.dft)
                                                                                                        (some
                                                                                                          (↑d.list.length :
                                                                                                            Int))
                                                                                                        none)
                                                                                                    (0)
                                                                                                    (vw
                                                                                                          (vw []
                                                                                                              (0 : Nat)
                                                                                                              (0 :
                                                                                                                Nat) ++
                                                                                                            d.list)
                                                                                                          (0)
                                                                                                          (vw []
                                                                                                                (0 :
                                                                                                                  Nat)
                                                                                                                (0 :
                                                                                                                  Nat) ++
                                                                                                              d.list).length ++
                                                                                                        cutL
                                                                                                          (d.rows.getD
                                                                                                            (↑i :
                                                                                                                Int).toNat
                                                                                                            tR.dft)
                                                                                                          (some
                                                                                                            (↑d.list.length :
                                                                                                              Int))
                                                                                                          none).length) then
                                                                                        Q Exit.ret
                                                                                          { nt := 181,
                                                                                            fr :=
                                                                                              [(6,
                                                                                                  SV.p
                                                                                                    (PV.c
                                                                                                      (CV.bool
                                                                                                        false)))],
                                                                                            hp := [] : SS }
                                                                                      else
                                                                                        K
                                                                                          { nt := 181,
                                                                                            fr :=
                                                                                              [(0,
                                                                                                  SV.p
                                                                                                    (PV.c
                                                                                                      (CV.row tR
                                                                                                        d.rows))),
                                                                                                (2,
                                                                                                  SV.p
                                                                                                    (PV.c
                                                                                                      (CV.row tV
                                                                                                        d.list))),
                                                                                                (7,
                                                                                                  SV.p
                                                                                                    (PV.c
                                                                                                      (CV.ptr
                                                                                                        (0)
                                                                                                        (0)))),
                                                                                                (8,
                                                                                                  SV.p
                                                                                                    (PV.c
                                                                                                      (CV.view tI
                                                                                                        (2)
                                                                                                        (0)
                                                                                                        ats.length))),
                                                                                                (12,
                                                                                                  SV.p
                                                                                                    (PV.c
                                                                                                      (CV.int
                                                                                                        IntKind.i64
                                                                                                        (↑d.k : Int)))),
                                                                                                (13,
                                                                                                  SV.p
                                                                                                    (PV.c
                                                                                                      (CV.int
                                                                                                        IntKind.i64
                                                                                                        (IntKind.i64.wrap
                                                                                                          ((↑i : Int) +
                                                                                                            (1 :
                                                                                                              Int))))))],
                                                                                            hp :=
                                                                                              [HB.cells (50)
                                                                                                  [CV.view tV
                                                                                                      (1)
                                                                                                      (0)
                                                                                                      xs.length],
                                                                                                HB.row (41) tV
                                                                                                  xs,
                                                                                                HB.row (3) tI
                                                                                                  ats] :
                                                                                            SS })))
                              else
                                0 +
                                      (vw xs
                                          (Int.toNat
                                            (ats.getD (0 + (↑i : Int).toNat) tI.dft -
                                              (1 : (AS.int IntKind.i64).T)))
                                          (↑(List.length (d.rows.getD (↑i : Int).toNat tR.dft)) : Int).toNat).length ≤
                                    (vw xs
                                        (Int.toNat
                                          (ats.getD (0 + (↑i : Int).toNat) tI.dft -
                                            (1 : (AS.int IntKind.i64).T)))
                                        (↑(List.length (d.rows.getD (↑i : Int).toNat tR.dft)) : Int).toNat).length ∧
                                  bif
                                      !decide
                                          (vw
                                              (vw xs
                                                (Int.toNat
                                                  (ats.getD (0 + (↑i : Int).toNat) tI.dft -
                                                    (1 : (AS.int IntKind.i64).T)))
                                                (↑(List.length (d.rows.getD (↑i : Int).toNat tR.dft)) : Int).toNat)
                                              (0)
                                              (vw xs
                                                  (Int.toNat
                                                    (ats.getD (0 + (↑i : Int).toNat) tI.dft -
                                                      (1 : (AS.int IntKind.i64).T)))
                                                  (↑(List.length (d.rows.getD (↑i : Int).toNat tR.dft)) :
                                                      Int).toNat).length =
                                            d.rows.getD (↑i : Int).toNat tR.dft) then
                                    Q Exit.ret
                                      { nt := 181, fr := [(6, SV.p (PV.c (CV.bool false)))], hp := [] :
                                        SS }
                                  else
                                    (vw xs
                                            (Int.toNat
                                              (ats.getD (0 + (↑i : Int).toNat) tI.dft -
                                                (1 : (AS.int IntKind.i64).T)))
                                            (↑(List.length (d.rows.getD (↑i : Int).toNat tR.dft)) : Int).toNat).length ≤
                                        maxI →
                                      bif
                                          decide
                                            ((↑(vw xs
                                                      (Int.toNat
                                                        (ats.getD (0 + (↑i : Int).toNat) tI.dft -
                                                          (1 : (AS.int IntKind.i64).T)))
                                                      (↑(List.length (d.rows.getD (↑i : Int).toNat tR.dft)) :
                                                          Int).toNat).length :
                                                Int) >
                                              (0 : Int)) then
                                        (0 : Int) ≤ (0 : Int) ∧
                                          (0 : Int) <
                                              (↑(vw xs
                                                      (Int.toNat
                                                        (ats.getD (0 + (↑i : Int).toNat) tI.dft -
                                                          (1 : (AS.int IntKind.i64).T)))
                                                      (↑(List.length (d.rows.getD (↑i : Int).toNat tR.dft)) :
                                                          Int).toNat).length :
                                                Int) ∧
                                            (0 : Nat) <
                                                (vw xs
                                                    (Int.toNat
                                                      (ats.getD (0 + (↑i : Int).toNat) tI.dft -
                                                        (1 : (AS.int IntKind.i64).T)))
                                                    (↑(List.length (d.rows.getD (↑i : Int).toNat tR.dft)) :
                                                        Int).toNat).length ∧
                                              (0 : Int) ≤ (↑i : Int) ∧
                                                (↑i : Int) < (↑ats.length : Int) ∧
                                                  (0 : Int) ≤ (↑i : Int) ∧
                                                    (↑i : Int) < (↑d.rows.length : Int) ∧
                                                      (↑i : Int).toNat < d.rows.length ∧
                                                        (List.length (d.rows.getD (↑i : Int).toNat tR.dft) ≤ maxI →
                                                          0 + (↑i : Int).toNat < ats.length ∧
                                                            (xs.length = xs.length ∧
                                                                xs.length ≤ (65536 : Nat) ∧
                                                                  i64 (ats.getD (0 + (↑i : Int).toNat) tI.dft) ∧
                                                                    i64
                                                                      (↑(List.length
                                                                            (d.rows.getD (↑i : Int).toNat tR.dft)) :
                                                                        Int)) ∧
                                                              (has xs.length
                                                                      (ats.getD (0 + (↑i : Int).toNat) tI.dft)
                                                                      (↑(List.length
                                                                            (d.rows.getD (↑i : Int).toNat tR.dft)) :
                                                                        Int) =
                                                                    false →
                                                                  Q Exit.ret
                                                                    { nt := 181,
                                                                      fr := [(6, SV.p (PV.c (CV.bool false)))],
                                                                      hp := [] : SS }) ∧
                                                                (has xs.length
                                                                      (ats.getD (0 + (↑i : Int).toNat) tI.dft)
                                                                      (↑(List.length
                                                                            (d.rows.getD (↑i : Int).toNat tR.dft)) :
                                                                        Int) =
                                                                    true →
                                                                  0 +
                                                                        (vw xs
                                                                            (Int.toNat
                                                                              (ats.getD (0 + (↑i : Int).toNat)
                                                                                  tI.dft -
                                                                                (1 : (AS.int IntKind.i64).T)))
                                                                            (↑(List.length
                                                                                    (d.rows.getD (↑i : Int).toNat
                                                                                      tR.dft)) :
                                                                                Int).toNat).length ≤
                                                                      (vw xs
                                                                          (Int.toNat
                                                                            (ats.getD (0 + (↑i : Int).toNat)
                                                                                tI.dft -
                                                                              (1 : (AS.int IntKind.i64).T)))
                                                                          (↑(List.length
                                                                                  (d.rows.getD (↑i : Int).toNat
                                                                                    tR.dft)) :
                                                                              Int).toNat).length ∧
                                                                    bif
                                                                        false ||
                                                                          !decide
                                                                              (vw
                                                                                  (vw xs
                                                                                    (Int.toNat
                                                                                      (ats.getD
                                                                                          (0 + (↑i : Int).toNat)
                                                                                          tI.dft -
                                                                                        (1 : (AS.int IntKind.i64).T)))
                                                                                    (↑(List.length
                                                                                            (d.rows.getD
                                                                                              (↑i : Int).toNat
                                                                                              tR.dft)) :
                                                                                        Int).toNat)
                                                                                  (0)
                                                                                  (vw xs
                                                                                      (Int.toNat
                                                                                        (ats.getD
                                                                                            (0 +
                                                                                              (↑i : Int).toNat)
                                                                                            tI.dft -
                                                                                          (1 : (AS.int IntKind.i64).T)))
                                                                                      (↑(List.length
                                                                                              (d.rows.getD
                                                                                                (↑i : Int).toNat
                                                                                                tR.dft)) :
                                                                                          Int).toNat).length =
                                                                                d.rows.getD (↑i : Int).toNat
                                                                                  tR.dft) then
                                                                      Q Exit.ret
                                                                        { nt := 181,
                                                                          fr :=
                                                                            [(6, SV.p (PV.c (CV.bool false)))],
                                                                          hp := [] : SS }
                                                                    else
                                                                      K
                                                                        { nt := 181,
                                                                          fr :=
                                                                            [(0,
                                                                                SV.p (PV.c (CV.row tR d.rows))),
                                                                              (2,
                                                                                SV.p (PV.c (CV.row tV d.list))),
                                                                              (7,
                                                                                SV.p
                                                                                  (PV.c
                                                                                    (CV.ptr (0) (0)))),
                                                                              (8,
                                                                                SV.p
                                                                                  (PV.c
                                                                                    (CV.view tI (2) (0)
                                                                                      ats.length))),
                                                                              (12,
                                                                                SV.p
                                                                                  (PV.c
                                                                                    (CV.int IntKind.i64 (↑d.k : Int)))),
                                                                              (13,
                                                                                SV.p
                                                                                  (PV.c
                                                                                    (CV.int IntKind.i64
                                                                                      (IntKind.i64.wrap
                                                                                        ((↑i : Int) + (1 : Int))))))],
                                                                          hp :=
                                                                            [HB.cells (50)
                                                                                [CV.view tV (1) (0)
                                                                                    xs.length],
                                                                              HB.row (41) tV xs,
                                                                              HB.row (3) tI ats] :
                                                                          SS }))
                                      else
                                        (0 : Int) ≤ (↑i : Int) ∧
                                          (↑i : Int) < (↑ats.length : Int) ∧
                                            (0 : Int) ≤ (↑i : Int) ∧
                                              (↑i : Int) < (↑d.rows.length : Int) ∧
                                                (↑i : Int).toNat < d.rows.length ∧
                                                  (List.length (d.rows.getD (↑i : Int).toNat tR.dft) ≤ maxI →
                                                    0 + (↑i : Int).toNat < ats.length ∧
                                                      (xs.length = xs.length ∧
                                                          xs.length ≤ (65536 : Nat) ∧
                                                            i64 (ats.getD (0 + (↑i : Int).toNat) tI.dft) ∧
                                                              i64
                                                                (↑(List.length (d.rows.getD (↑i : Int).toNat tR.dft)) :
                                                                  Int)) ∧
                                                        (has xs.length (ats.getD (0 + (↑i : Int).toNat) tI.dft)
                                                                (↑(List.length (d.rows.getD (↑i : Int).toNat tR.dft)) :
                                                                  Int) =
                                                              false →
                                                            Q Exit.ret
                                                              { nt := 181,
                                                                fr := [(6, SV.p (PV.c (CV.bool false)))],
                                                                hp := [] : SS }) ∧
                                                          (has xs.length
                                                                (ats.getD (0 + (↑i : Int).toNat) tI.dft)
                                                                (↑(List.length (d.rows.getD (↑i : Int).toNat tR.dft)) :
                                                                  Int) =
                                                              true →
                                                            0 +
                                                                  (vw xs
                                                                      (Int.toNat
                                                                        (ats.getD (0 + (↑i : Int).toNat)
                                                                            tI.dft -
                                                                          (1 : (AS.int IntKind.i64).T)))
                                                                      (↑(List.length
                                                                              (d.rows.getD (↑i : Int).toNat tR.dft)) :
                                                                          Int).toNat).length ≤
                                                                (vw xs
                                                                    (Int.toNat
                                                                      (ats.getD (0 + (↑i : Int).toNat) tI.dft -
                                                                        (1 : (AS.int IntKind.i64).T)))
                                                                    (↑(List.length
                                                                            (d.rows.getD (↑i : Int).toNat tR.dft)) :
                                                                        Int).toNat).length ∧
                                                              bif
                                                                  false ||
                                                                    !decide
                                                                        (vw
                                                                            (vw xs
                                                                              (Int.toNat
                                                                                (ats.getD (0 + (↑i : Int).toNat)
                                                                                    tI.dft -
                                                                                  (1 : (AS.int IntKind.i64).T)))
                                                                              (↑(List.length
                                                                                      (d.rows.getD (↑i : Int).toNat
                                                                                        tR.dft)) :
                                                                                  Int).toNat)
                                                                            (0)
                                                                            (vw xs
                                                                                (Int.toNat
                                                                                  (ats.getD
                                                                                      (0 + (↑i : Int).toNat)
                                                                                      tI.dft -
                                                                                    (1 : (AS.int IntKind.i64).T)))
                                                                                (↑(List.length
                                                                                        (d.rows.getD (↑i : Int).toNat
                                                                                          tR.dft)) :
                                                                                    Int).toNat).length =
                                                                          d.rows.getD (↑i : Int).toNat tR.dft) then
                                                                Q Exit.ret
                                                                  { nt := 181,
                                                                    fr := [(6, SV.p (PV.c (CV.bool false)))],
                                                                    hp := [] : SS }
                                                              else
                                                                K
                                                                  { nt := 181,
                                                                    fr :=
                                                                      [(0, SV.p (PV.c (CV.row tR d.rows))),
                                                                        (2, SV.p (PV.c (CV.row tV d.list))),
                                                                        (7,
                                                                          SV.p (PV.c (CV.ptr (0) (0)))),
                                                                        (8,
                                                                          SV.p
                                                                            (PV.c
                                                                              (CV.view tI (2) (0)
                                                                                ats.length))),
                                                                        (12,
                                                                          SV.p
                                                                            (PV.c (CV.int IntKind.i64 (↑d.k : Int)))),
                                                                        (13,
                                                                          SV.p
                                                                            (PV.c
                                                                              (CV.int IntKind.i64
                                                                                (IntKind.i64.wrap
                                                                                  ((↑i : Int) + (1 : Int))))))],
                                                                    hp :=
                                                                      [HB.cells (50)
                                                                          [CV.view tV (1) (0)
                                                                              xs.length],
                                                                        HB.row (41) tV xs,
                                                                        HB.row (3) tI ats] :
                                                                    SS }))))
  else Q (Exit.exit (2)) { nt := 181, fr := [], hp := [] : SS }) := by kernel_rfl

end Go.Proofs.Ytpkmppfijhhpbaa.Ch
