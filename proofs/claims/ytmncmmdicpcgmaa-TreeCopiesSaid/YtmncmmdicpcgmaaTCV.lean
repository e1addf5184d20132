/- Statements over the abstract machine, reckoned out: printed by a program of this session. No condition. -/
import Derived.Test.YtmncmmdicpcgmaaTC
namespace Go.Proofs.Ytmncmmdicpcgmaa.Ch
open Go Go.Proofs Go.Proofs.Ytmncmmdicpcgmaa.Sx
set_option linter.unusedVariables false
theorem vc_add_l (rows : List Rw) (n : Nd) (c : Int) (d : Int) (i : Nat) (K : SS → Prop) (Q : Exit → SS → Prop) :
    (sx Try.prog (gam gAdd) noLam (lp Try.f21 (0 : Nat)) (1 : Nat) (stAdd rows n c d i)
  (thenQ (cq (2 : Nat) [(2 : Nat), (3 : Nat), (7 : Nat), (44 : Nat), (45 : Nat), (46 : Nat)] K)
    (cQE (2 : Nat) [(2 : Nat), (7 : Nat)] [] Q))) =
    (bif decide ((↑i : Int) < (↑(kidsOf n).length : Int)) then
  (0 : Int) ≤ (↑i : Int) ∧
    (↑i : Int) < (↑(kidsOf n).length : Int) ∧
      0 + (↑i : Int).toNat < (kidsOf n).length ∧
        bif (kidsOf n).getD (0 + (↑i : Int).toNat) tI.dft == (0 : Int) then
          K
            { nt := 96,
              fr :=
                [(2, SV.p (PV.c (CV.ptr (2) (0)))),
                  (3, SV.p (PV.c (CV.ptr (3) (0)))),
                  (7, SV.p (PV.c (CV.ptr (5) (0)))),
                  (44, SV.p (PV.c (CV.view tI (4) (0) (kidsOf n).length))),
                  (45, SV.p (PV.c (CV.int IntKind.i64 (↑(kidsOf n).length : Int)))),
                  (46, SV.p (PV.c (CV.int IntKind.i64 (IntKind.i64.wrap ((↑i : Int) + (1 : Int))))))],
              hp :=
                [HB.cells (59) [CV.view tR (1) (0) rows.length], HB.row (56) tR rows,
                  HB.cells (25) [CV.ptr (0) (0)],
                  HB.cells (39)
                    [CV.int IntKind.i64 n.fst, CV.int IntKind.i64 n.snd.fst.fst, CV.int IntKind.i64 n.snd.fst.snd.fst,
                      CV.int IntKind.i64 n.snd.fst.snd.snd, CV.str n.snd.snd.fst,
                      CV.view tI (4) (0) (kidsOf n).length],
                  HB.row (3) tI (kidsOf n),
                  HB.cells (56)
                    [CV.int IntKind.i64 n.fst, CV.int IntKind.i64 n.snd.fst.fst, CV.int IntKind.i64 n.snd.fst.snd.fst,
                      CV.int IntKind.i64 n.snd.fst.snd.snd, CV.str n.snd.snd.fst,
                      CV.view tI (4) (0) (kidsOf n).length, CV.int IntKind.i64 c,
                      CV.int IntKind.i64 d]] :
              SS }
        else
          (0 : Int) ≤ IntKind.i64.wrap ((kidsOf n).getD (0 + (↑i : Int).toNat) tI.dft - (1 : Int)) ∧
            IntKind.i64.wrap ((kidsOf n).getD (0 + (↑i : Int).toNat) tI.dft - (1 : Int)) <
                (↑rows.length : Int) ∧
              0 + (IntKind.i64.wrap ((kidsOf n).getD (0 + (↑i : Int).toNat) tI.dft - (1 : Int))).toNat <
                  rows.length ∧
                (0 : Int) ≤ IntKind.i64.wrap ((kidsOf n).getD (0 + (↑i : Int).toNat) tI.dft - (1 : Int)) ∧
                  IntKind.i64.wrap ((kidsOf n).getD (0 + (↑i : Int).toNat) tI.dft - (1 : Int)) <
                      (↑rows.length : Int) ∧
                    0 +
                          (IntKind.i64.wrap ((kidsOf n).getD (0 + (↑i : Int).toNat) tI.dft - (1 : Int))).toNat <
                        rows.length ∧
                      K
                        { nt := 96,
                          fr :=
                            [(2, SV.p (PV.c (CV.ptr (2) (0)))),
                              (3, SV.p (PV.c (CV.ptr (3) (0)))),
                              (7, SV.p (PV.c (CV.ptr (5) (0)))),
                              (44, SV.p (PV.c (CV.view tI (4) (0) (kidsOf n).length))),
                              (45, SV.p (PV.c (CV.int IntKind.i64 (↑(kidsOf n).length : Int)))),
                              (46,
                                SV.p (PV.c (CV.int IntKind.i64 (IntKind.i64.wrap ((↑i : Int) + (1 : Int))))))],
                          hp :=
                            [HB.cells (59) [CV.view tR (1) (0) rows.length],
                              HB.row (56) tR rows, HB.cells (25) [CV.ptr (0) (0)],
                              HB.cells (39)
                                [CV.int IntKind.i64 n.fst, CV.int IntKind.i64 n.snd.fst.fst,
                                  CV.int IntKind.i64 n.snd.fst.snd.fst, CV.int IntKind.i64 n.snd.fst.snd.snd,
                                  CV.str n.snd.snd.fst, CV.view tI (4) (0) (kidsOf n).length],
                              HB.row (3) tI (kidsOf n),
                              HB.cells (56)
                                [CV.int IntKind.i64 n.fst, CV.int IntKind.i64 n.snd.fst.fst,
                                  CV.int IntKind.i64 n.snd.fst.snd.fst, CV.int IntKind.i64 n.snd.fst.snd.snd,
                                  CV.str n.snd.snd.fst, CV.view tI (4) (0) (kidsOf n).length,
                                  CV.int IntKind.i64
                                    (mn2
                                      (IntKind.i64.wrap
                                        (c +
                                          (rows.getD
                                                (0 +
                                                  (IntKind.i64.wrap
                                                      ((kidsOf n).getD (0 + (↑i : Int).toNat) tI.dft -
                                                        (1 : Int))).toNat)
                                                tR.dft).snd.fst))
                                      (65537 : Int)),
                                  CV.int IntKind.i64
                                    (mx2 d
                                      (IntKind.i64.wrap
                                        ((rows.getD
                                                (0 +
                                                  (IntKind.i64.wrap
                                                      ((kidsOf n).getD (0 + (↑i : Int).toNat) tI.dft -
                                                        (1 : Int))).toNat)
                                                tR.dft).snd.snd +
                                          (1 : Int))))]] :
                          SS }
else
  Q (Exit.exit (1))
    { nt := 96,
      fr :=
        [(2, SV.p (PV.c (CV.ptr (2) (0)))),
          (7, SV.p (PV.c (CV.ptr (3) (0))))],
      hp :=
        [HB.cells (59) [CV.view tR (1) (0) rows.length], HB.row (56) tR rows,
          HB.cells (25) [CV.ptr (0) (0)],
          HB.cells (56)
            [CV.int IntKind.i64 n.fst, CV.int IntKind.i64 n.snd.fst.fst, CV.int IntKind.i64 n.snd.fst.snd.fst,
              CV.int IntKind.i64 n.snd.fst.snd.snd, CV.str n.snd.snd.fst,
              CV.view tI (4) (0) (kidsOf n).length, CV.int IntKind.i64 c, CV.int IntKind.i64 d],
          HB.row (3) tI (kidsOf n)] :
      SS }) := by kernel_rfl

theorem vc_add (rows : List Rw) (n : Nd) (Q : SV → List HB → Prop) :
    (body Try.prog (gam gAdd) (lam [((1 : Nat), add_l)]) Try.f21 [PV.c (CV.ptr (0 : Nat) (0 : Nat)), PV.agg (toCV tN n)]
  (treeH rows) Q) =
    (bif !kindB n.fst then
  Q (SV.tup [PV.c (CV.int IntKind.i64 (0 : Int)), PV.c (CV.int IntKind.i64 (1 : Int))])
    [HB.cells (59) [CV.view tR (1) (0) rows.length], HB.row (56) tR rows]
else
  rows.length = rows.length ∧
    bif false || List.any n.snd.snd.snd (badB rows.length) then
      Q (SV.tup [PV.c (CV.int IntKind.i64 (0 : Int)), PV.c (CV.int IntKind.i64 (1 : Int))])
        [HB.cells (59) [CV.view tR (1) (0) rows.length], HB.row (56) tR rows]
    else
      rows.length ≤ maxI →
        bif
            decide ((↑rows.length : Int) ≥ (65536 : Int)) ||
              decide ((↑(List.length n.snd.snd.snd) : Int) > (65536 : Int)) then
          Q (SV.tup [PV.c (CV.int IntKind.i64 (0 : Int)), PV.c (CV.int IntKind.i64 (3 : Int))])
            [HB.cells (59) [CV.view tR (1) (0) rows.length], HB.row (56) tR rows]
        else
          List.length n.snd.snd.snd ≤ (100000000 : Nat) ∧
            (List.length n.snd.snd.snd ≤ maxI →
              ∃ (x : List Rw × Nd),
                { nt := 96,
                      fr :=
                        [(2, SV.p (PV.c (CV.ptr (2) (0)))),
                          (3, SV.p (PV.c (CV.ptr (3) (0)))),
                          (7, SV.p (PV.c (CV.ptr (5) (0)))),
                          (44, SV.p (PV.c (CV.view tI (4) (0) (List.length n.snd.snd.snd)))),
                          (45, SV.p (PV.c (CV.int IntKind.i64 (↑(List.length n.snd.snd.snd) : Int)))),
                          (46, SV.p (PV.c (CV.int IntKind.i64 (0 : Int))))],
                      hp :=
                        [HB.cells (59) [CV.view tR (1) (0) rows.length],
                          HB.row (56) tR rows, HB.cells (25) [CV.ptr (0) (0)],
                          HB.cells (39)
                            [CV.int IntKind.i64 n.fst, CV.int IntKind.i64 n.snd.fst.fst,
                              CV.int IntKind.i64 n.snd.fst.snd.fst, CV.int IntKind.i64 n.snd.fst.snd.snd,
                              CV.str n.snd.snd.fst, CV.view tI (4) (0) (List.length n.snd.snd.snd)],
                          HB.row (3) tI n.snd.snd.snd,
                          HB.cells (56)
                            [CV.int IntKind.i64 n.fst, CV.int IntKind.i64 n.snd.fst.fst,
                              CV.int IntKind.i64 n.snd.fst.snd.fst, CV.int IntKind.i64 n.snd.fst.snd.snd,
                              CV.str n.snd.snd.fst, CV.view tI (4) (0) (List.length n.snd.snd.snd),
                              CV.int IntKind.i64 (1 : Int), CV.int IntKind.i64 (1 : Int)]] :
                      SS } =
                    { nt := 96,
                      fr :=
                        [(2, SV.p (PV.c (CV.ptr (2) (0)))),
                          (3, SV.p (PV.c (CV.ptr (3) (0)))),
                          (7, SV.p (PV.c (CV.ptr (5) (0)))),
                          (44, SV.p (PV.c (CV.view tI (4) (0) (kidsOf x.snd).length))),
                          (45, SV.p (PV.c (CV.int IntKind.i64 (↑(kidsOf x.snd).length : Int)))),
                          (46, SV.p (PV.c (CV.int IntKind.i64 (↑(0 : Nat) : Int))))],
                      hp :=
                        [HB.cells (59) [CV.view tR (1) (0) x.fst.length],
                          HB.row (56) tR x.fst, HB.cells (25) [CV.ptr (0) (0)],
                          HB.cells (39)
                            [CV.int IntKind.i64 x.snd.fst, CV.int IntKind.i64 x.snd.snd.fst.fst,
                              CV.int IntKind.i64 x.snd.snd.fst.snd.fst, CV.int IntKind.i64 x.snd.snd.fst.snd.snd,
                              CV.str x.snd.snd.snd.fst, CV.view tI (4) (0) (kidsOf x.snd).length],
                          HB.row (3) tI (kidsOf x.snd),
                          HB.cells (56)
                            [CV.int IntKind.i64 x.snd.fst, CV.int IntKind.i64 x.snd.snd.fst.fst,
                              CV.int IntKind.i64 x.snd.snd.fst.snd.fst, CV.int IntKind.i64 x.snd.snd.fst.snd.snd,
                              CV.str x.snd.snd.snd.fst, CV.view tI (4) (0) (kidsOf x.snd).length,
                              CV.int IntKind.i64 (1 : Int), CV.int IntKind.i64 (1 : Int)]] :
                      SS } ∧
                  ((kidsOf x.snd).length ≤ (65536 : Nat) ∧
                      x.fst.length ≤ (65536 : Nat) ∧ RowsOk x.fst ∧ goodB x.snd x.fst.length = true) ∧
                    0 + (kidsOf x.snd).length ≤ (kidsOf x.snd).length ∧
                      (1 : Nat) ≤
                          [((x.snd.fst, (x.snd.snd.fst.fst, x.snd.snd.fst.snd.fst, x.snd.snd.fst.snd.snd),
                                  x.snd.snd.snd.fst, vw (kidsOf x.snd) (0) (kidsOf x.snd).length),
                                (mkRow x.fst x.snd).snd.fst, (mkRow x.fst x.snd).snd.snd)].length ∧
                        0 + x.fst.length ≤ x.fst.length ∧
                          (vw x.fst (0) x.fst.length ++
                                    vw
                                      [((x.snd.fst, (x.snd.snd.fst.fst, x.snd.snd.fst.snd.fst, x.snd.snd.fst.snd.snd),
                                            x.snd.snd.snd.fst, vw (kidsOf x.snd) (0) (kidsOf x.snd).length),
                                          (mkRow x.fst x.snd).snd.fst, (mkRow x.fst x.snd).snd.snd)]
                                      (0 : Nat) (1 : Nat)).length *
                                (88 : Nat) ≤
                              (140737488355328 : Nat) ∧
                            ((vw x.fst (0) x.fst.length ++
                                    vw
                                      [((x.snd.fst, (x.snd.snd.fst.fst, x.snd.snd.fst.snd.fst, x.snd.snd.fst.snd.snd),
                                            x.snd.snd.snd.fst, vw (kidsOf x.snd) (0) (kidsOf x.snd).length),
                                          (mkRow x.fst x.snd).snd.fst, (mkRow x.fst x.snd).snd.snd)]
                                      (0 : Nat) (1 : Nat)).length ≤
                                maxI →
                              Q
                                (SV.tup
                                  [PV.c
                                      (CV.int IntKind.i64
                                        (↑(vw x.fst (0) x.fst.length ++
                                                vw
                                                  [((x.snd.fst,
                                                        (x.snd.snd.fst.fst, x.snd.snd.fst.snd.fst,
                                                          x.snd.snd.fst.snd.snd),
                                                        x.snd.snd.snd.fst,
                                                        vw (kidsOf x.snd) (0) (kidsOf x.snd).length),
                                                      (mkRow x.fst x.snd).snd.fst, (mkRow x.fst x.snd).snd.snd)]
                                                  (0 : Nat) (1 : Nat)).length :
                                          Int)),
                                    PV.c (CV.int IntKind.i64 (0 : Int))])
                                [HB.cells (59)
                                    [CV.view tR (1) (0)
                                        (vw x.fst (0) x.fst.length ++
                                            vw
                                              [((x.snd.fst,
                                                    (x.snd.snd.fst.fst, x.snd.snd.fst.snd.fst, x.snd.snd.fst.snd.snd),
                                                    x.snd.snd.snd.fst,
                                                    vw (kidsOf x.snd) (0) (kidsOf x.snd).length),
                                                  (mkRow x.fst x.snd).snd.fst, (mkRow x.fst x.snd).snd.snd)]
                                              (0 : Nat) (1 : Nat)).length],
                                  HB.row (56) tR
                                    (vw x.fst (0) x.fst.length ++
                                      vw
                                        [((x.snd.fst, (x.snd.snd.fst.fst, x.snd.snd.fst.snd.fst, x.snd.snd.fst.snd.snd),
                                              x.snd.snd.snd.fst, vw (kidsOf x.snd) (0) (kidsOf x.snd).length),
                                            (mkRow x.fst x.snd).snd.fst, (mkRow x.fst x.snd).snd.snd)]
                                        (0 : Nat) (1 : Nat))]))) := by kernel_rfl

theorem vc_add0 (n : Nd) (Q : SV → List HB → Prop) :
    (body Try.prog (gam gAdd) noLam Try.f21 [PV.c CV.nilp, PV.agg (toCV tN n)] [] Q) =
    (Q (SV.tup [PV.c (CV.int IntKind.i64 (0 : Int)), PV.c (CV.int IntKind.i64 (2 : Int))]) []) := by kernel_rfl

end Go.Proofs.Ytmncmmdicpcgmaa.Ch
