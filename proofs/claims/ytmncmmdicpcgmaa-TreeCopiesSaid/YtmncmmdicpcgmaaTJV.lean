/- Statements over the abstract machine, reckoned out: printed by a program of this session. No condition. -/
import Derived.Test.YtmncmmdicpcgmaaTJ
namespace Go.Proofs.Ytmncmmdicpcgmaa.Ch
open Go Go.Proofs Go.Proofs.Ytmncmmdicpcgmaa.Sx
set_option linter.unusedVariables false
theorem vc_in24 (l : List Nd) (i : Int) (c : List Int) (k : Nat) (j : Nat) (K : SS → Prop) (Q : Exit → SS → Prop) :
    (sx Try.prog (gam []) noLam (lpIn (lp Try.f24 (0 : Nat)) (0 : Nat) (0 : Nat)) (2 : Nat) (stI24 l i c k j)
  (thenQ (cq (0 : Nat) [(0 : Nat), (1 : Nat), (5 : Nat), (6 : Nat), (7 : Nat)] K)
    (cQE (0 : Nat) [(0 : Nat), (1 : Nat), (5 : Nat), (6 : Nat)] [] Q))) =
    ((0 : Int) ≤ IntKind.i64.wrap ((↑k : Int) - (1 : Int)) ∧
  IntKind.i64.wrap ((↑k : Int) - (1 : Int)) < (↑l.length : Int) ∧
    (IntKind.i64.wrap ((↑k : Int) - (1 : Int))).toNat < l.length ∧
      (List.length (l.getD (IntKind.i64.wrap ((↑k : Int) - (1 : Int))).toNat tN.dft).snd.snd.snd ≤ maxI →
        bif
            decide
              ((↑j : Int) <
                (↑(List.length (l.getD (IntKind.i64.wrap ((↑k : Int) - (1 : Int))).toNat tN.dft).snd.snd.snd) :
                  Int)) then
          (0 : Int) ≤ (↑k : Int) ∧
            (↑k : Int) < (↑c.length : Int) ∧
              0 + (↑k : Int).toNat < c.length ∧
                (0 : Int) ≤ IntKind.i64.wrap ((↑k : Int) - (1 : Int)) ∧
                  IntKind.i64.wrap ((↑k : Int) - (1 : Int)) < (↑l.length : Int) ∧
                    (IntKind.i64.wrap ((↑k : Int) - (1 : Int))).toNat < l.length ∧
                      (0 : Int) ≤ (↑j : Int) ∧
                        (↑j : Int) <
                            (↑(List.length
                                  (l.getD (IntKind.i64.wrap ((↑k : Int) - (1 : Int))).toNat tN.dft).snd.snd.snd) :
                              Int) ∧
                          (↑j : Int).toNat <
                              List.length
                                (l.getD (IntKind.i64.wrap ((↑k : Int) - (1 : Int))).toNat tN.dft).snd.snd.snd ∧
                            (0 : Int) ≤
                                List.getD (l.getD (IntKind.i64.wrap ((↑k : Int) - (1 : Int))).toNat tN.dft).snd.snd.snd
                                  (↑j : Int).toNat tI.dft ∧
                              List.getD (l.getD (IntKind.i64.wrap ((↑k : Int) - (1 : Int))).toNat tN.dft).snd.snd.snd
                                    (↑j : Int).toNat tI.dft <
                                  (↑c.length : Int) ∧
                                0 +
                                      Int.toNat
                                        (List.getD
                                          (l.getD (IntKind.i64.wrap ((↑k : Int) - (1 : Int))).toNat tN.dft).snd.snd.snd
                                          (↑j : Int).toNat tI.dft) <
                                    c.length ∧
                                  (0 : Int) ≤ (↑k : Int) ∧
                                    (↑k : Int) < (↑c.length : Int) ∧
                                      0 + (↑k : Int).toNat < c.length ∧
                                        K
                                          { nt := 56,
                                            fr :=
                                              [(0, SV.p (PV.c (CV.row tN l))),
                                                (1, SV.p (PV.c (CV.int IntKind.i64 i))),
                                                (5, SV.p (PV.c (CV.view tI (0) (0) c.length))),
                                                (6, SV.p (PV.c (CV.int IntKind.i64 (↑k : Int)))),
                                                (7,
                                                  SV.p
                                                    (PV.c
                                                      (CV.int IntKind.i64
                                                        (IntKind.i64.wrap ((↑j : Int) + (1 : Int))))))],
                                            hp :=
                                              [HB.row (3) tI
                                                  (c.set (0 + (↑k : Int).toNat)
                                                    (mn2
                                                      (IntKind.i64.wrap
                                                        (c.getD (0 + (↑k : Int).toNat) tI.dft +
                                                          c.getD
                                                            (0 +
                                                              Int.toNat
                                                                (List.getD
                                                                  (l.getD
                                                                          (IntKind.i64.wrap
                                                                              ((↑k : Int) - (1 : Int))).toNat
                                                                          tN.dft).snd.snd.snd
                                                                  (↑j : Int).toNat tI.dft))
                                                            tI.dft))
                                                      (131072 : Int)))] :
                                            SS }
        else
          Q (Exit.exit (2))
            { nt := 56,
              fr :=
                [(0, SV.p (PV.c (CV.row tN l))), (1, SV.p (PV.c (CV.int IntKind.i64 i))),
                  (5, SV.p (PV.c (CV.view tI (0) (0) c.length))),
                  (6, SV.p (PV.c (CV.int IntKind.i64 (↑k : Int))))],
              hp := [HB.row (3) tI c] : SS })) := by kernel_rfl

theorem vc_out24 (l : List Nd) (i : Int) (c : List Int) (k : Nat) (K : SS → Prop) (Q : Exit → SS → Prop) :
    (sx Try.prog (gam []) (lam [((2 : Nat), in24_l)]) (lp Try.f24 (0 : Nat)) (0 : Nat) (stO24 l i c k)
  (thenQ (cq (0 : Nat) [(0 : Nat), (1 : Nat), (5 : Nat), (6 : Nat)] K) (cQE (0 : Nat) [(1 : Nat), (5 : Nat)] [] Q))) =
    (bif decide ((↑k : Int) ≤ i) then
  (0 : Int) ≤ (↑k : Int) ∧
    (↑k : Int) < (↑c.length : Int) ∧
      0 + (↑k : Int).toNat < c.length ∧
        ∃ (x : List Nd × Int × Nat),
          { nt := 56,
                fr :=
                  [(0, SV.p (PV.c (CV.row tN l))), (1, SV.p (PV.c (CV.int IntKind.i64 i))),
                    (5, SV.p (PV.c (CV.view tI (0) (0) c.length))),
                    (6, SV.p (PV.c (CV.int IntKind.i64 (↑k : Int)))),
                    (7, SV.p (PV.c (CV.int IntKind.i64 (0 : Int))))],
                hp := [HB.row (3) tI (c.set (0 + (↑k : Int).toNat) (1 : Int))] : SS } =
              { nt := 56,
                fr :=
                  [(0, SV.p (PV.c (CV.row tN x.fst))), (1, SV.p (PV.c (CV.int IntKind.i64 x.snd.fst))),
                    (5,
                      SV.p
                        (PV.c
                          (CV.view tI (0) (0)
                            ((upto (gC x.fst) x.fst.length (x.snd.snd - (1 : Nat))).set x.snd.snd (1 : Int)).length))),
                    (6, SV.p (PV.c (CV.int IntKind.i64 (↑x.snd.snd : Int)))),
                    (7, SV.p (PV.c (CV.int IntKind.i64 (↑(0 : Nat) : Int))))],
                hp :=
                  [HB.row (3) tI
                      ((upto (gC x.fst) x.fst.length (x.snd.snd - (1 : Nat))).set x.snd.snd (1 : Int))] :
                SS } ∧
            (inOk x.fst ∧ (1 : Nat) ≤ x.snd.snd ∧ x.snd.snd ≤ x.fst.length) ∧
              K
                { nt := 56,
                  fr :=
                    [(0, SV.p (PV.c (CV.row tN x.fst))),
                      (1, SV.p (PV.c (CV.int IntKind.i64 x.snd.fst))),
                      (5,
                        SV.p
                          (PV.c (CV.view tI (0) (0) (upto (gC x.fst) x.fst.length x.snd.snd).length))),
                      (6,
                        SV.p (PV.c (CV.int IntKind.i64 (IntKind.i64.wrap ((↑x.snd.snd : Int) + (1 : Int))))))],
                  hp := [HB.row (3) tI (upto (gC x.fst) x.fst.length x.snd.snd)] : SS }
else
  Q (Exit.exit (0))
    { nt := 56,
      fr :=
        [(1, SV.p (PV.c (CV.int IntKind.i64 i))),
          (5, SV.p (PV.c (CV.view tI (0) (0) c.length)))],
      hp := [HB.row (3) tI c] : SS }) := by kernel_rfl

theorem vc_f24 (l : List Nd) (i : Int) (Q : SV → List HB → Prop) :
    (body Try.prog (gam []) (lam [((0 : Nat), out24_l)]) Try.f24 [PV.c (CV.row tN l), ti i] [] Q) =
    (l.length ≤ maxI →
  (0 : Int) ≤ IntKind.i64.wrap ((↑l.length : Int) + (1 : Int)) ∧
    IntKind.i64.wrap ((↑l.length : Int) + (1 : Int)) ≤ IntKind.i64.wrap ((↑l.length : Int) + (1 : Int)) ∧
      (↑(8 : Nat) : Int) * IntKind.i64.wrap ((↑l.length : Int) + (1 : Int)) ≤ (281474976710656 : Int) ∧
        ∃ (x : List Nd × Int),
          { nt := 56,
                fr :=
                  [(0, SV.p (PV.c (CV.row tN l))), (1, SV.p (PV.c (CV.int IntKind.i64 i))),
                    (5,
                      SV.p
                        (PV.c
                          (CV.view (Ty.int IntKind.i64) (0) (0)
                            (IntKind.i64.wrap ((↑l.length : Int) + (1 : Int))).toNat))),
                    (6, SV.p (PV.c (CV.int IntKind.i64 (1 : Int))))],
                hp :=
                  [HB.row (3) (Ty.int IntKind.i64)
                      (List.replicate (IntKind.i64.wrap ((↑l.length : Int) + (1 : Int))).toNat (0 : Int))] :
                SS } =
              { nt := 56,
                fr :=
                  [(0, SV.p (PV.c (CV.row tN x.fst))), (1, SV.p (PV.c (CV.int IntKind.i64 x.snd))),
                    (5,
                      SV.p (PV.c (CV.view tI (0) (0) (upto (gC x.fst) x.fst.length (0 : Nat)).length))),
                    (6, SV.p (PV.c (CV.int IntKind.i64 (↑(1 : Nat) : Int))))],
                hp := [HB.row (3) tI (upto (gC x.fst) x.fst.length (0 : Nat))] : SS } ∧
            (inOk x.fst ∧ (1 : Int) ≤ x.snd ∧ x.snd ≤ (↑x.fst.length : Int)) ∧
              (0 : Int) ≤ x.snd ∧
                x.snd < (↑(upto (gC x.fst) x.fst.length x.snd.toNat).length : Int) ∧
                  0 + x.snd.toNat < (upto (gC x.fst) x.fst.length x.snd.toNat).length ∧
                    Q
                      (SV.p
                        (PV.c
                          (CV.int IntKind.i64
                            ((upto (gC x.fst) x.fst.length x.snd.toNat).getD (0 + x.snd.toNat) tI.dft))))
                      []) := by kernel_rfl

theorem vc_in19 (l : List Nd) (i : Int) (c : List Int) (k : Nat) (j : Nat) (K : SS → Prop) (Q : Exit → SS → Prop) :
    (sx Try.prog (gam []) noLam (lpIn (lp Try.f19 (0 : Nat)) (0 : Nat) (0 : Nat)) (2 : Nat) (stI19 l i c k j)
  (thenQ (cq (0 : Nat) [(0 : Nat), (1 : Nat), (5 : Nat), (6 : Nat), (7 : Nat)] K)
    (cQE (0 : Nat) [(0 : Nat), (1 : Nat), (5 : Nat), (6 : Nat)] [] Q))) =
    ((0 : Int) ≤ IntKind.i64.wrap ((↑k : Int) - (1 : Int)) ∧
  IntKind.i64.wrap ((↑k : Int) - (1 : Int)) < (↑l.length : Int) ∧
    (IntKind.i64.wrap ((↑k : Int) - (1 : Int))).toNat < l.length ∧
      (List.length (l.getD (IntKind.i64.wrap ((↑k : Int) - (1 : Int))).toNat tN.dft).snd.snd.snd ≤ maxI →
        bif
            decide
              ((↑j : Int) <
                (↑(List.length (l.getD (IntKind.i64.wrap ((↑k : Int) - (1 : Int))).toNat tN.dft).snd.snd.snd) :
                  Int)) then
          (0 : Int) ≤ (↑k : Int) ∧
            (↑k : Int) < (↑c.length : Int) ∧
              0 + (↑k : Int).toNat < c.length ∧
                (0 : Int) ≤ IntKind.i64.wrap ((↑k : Int) - (1 : Int)) ∧
                  IntKind.i64.wrap ((↑k : Int) - (1 : Int)) < (↑l.length : Int) ∧
                    (IntKind.i64.wrap ((↑k : Int) - (1 : Int))).toNat < l.length ∧
                      (0 : Int) ≤ (↑j : Int) ∧
                        (↑j : Int) <
                            (↑(List.length
                                  (l.getD (IntKind.i64.wrap ((↑k : Int) - (1 : Int))).toNat tN.dft).snd.snd.snd) :
                              Int) ∧
                          (↑j : Int).toNat <
                              List.length
                                (l.getD (IntKind.i64.wrap ((↑k : Int) - (1 : Int))).toNat tN.dft).snd.snd.snd ∧
                            (0 : Int) ≤
                                List.getD (l.getD (IntKind.i64.wrap ((↑k : Int) - (1 : Int))).toNat tN.dft).snd.snd.snd
                                  (↑j : Int).toNat tI.dft ∧
                              List.getD (l.getD (IntKind.i64.wrap ((↑k : Int) - (1 : Int))).toNat tN.dft).snd.snd.snd
                                    (↑j : Int).toNat tI.dft <
                                  (↑c.length : Int) ∧
                                0 +
                                      Int.toNat
                                        (List.getD
                                          (l.getD (IntKind.i64.wrap ((↑k : Int) - (1 : Int))).toNat tN.dft).snd.snd.snd
                                          (↑j : Int).toNat tI.dft) <
                                    c.length ∧
                                  (0 : Int) ≤ (↑k : Int) ∧
                                    (↑k : Int) < (↑c.length : Int) ∧
                                      0 + (↑k : Int).toNat < c.length ∧
                                        K
                                          { nt := 64,
                                            fr :=
                                              [(0, SV.p (PV.c (CV.row tN l))),
                                                (1, SV.p (PV.c (CV.int IntKind.i64 i))),
                                                (5, SV.p (PV.c (CV.view tI (0) (0) c.length))),
                                                (6, SV.p (PV.c (CV.int IntKind.i64 (↑k : Int)))),
                                                (7,
                                                  SV.p
                                                    (PV.c
                                                      (CV.int IntKind.i64
                                                        (IntKind.i64.wrap ((↑j : Int) + (1 : Int))))))],
                                            hp :=
                                              [HB.row (3) tI
                                                  (c.set (0 + (↑k : Int).toNat)
                                                    (mx2 (c.getD (0 + (↑k : Int).toNat) tI.dft)
                                                      (IntKind.i64.wrap
                                                        (c.getD
                                                            (0 +
                                                              Int.toNat
                                                                (List.getD
                                                                  (l.getD
                                                                          (IntKind.i64.wrap
                                                                              ((↑k : Int) - (1 : Int))).toNat
                                                                          tN.dft).snd.snd.snd
                                                                  (↑j : Int).toNat tI.dft))
                                                            tI.dft +
                                                          (1 : Int)))))] :
                                            SS }
        else
          Q (Exit.exit (2))
            { nt := 64,
              fr :=
                [(0, SV.p (PV.c (CV.row tN l))), (1, SV.p (PV.c (CV.int IntKind.i64 i))),
                  (5, SV.p (PV.c (CV.view tI (0) (0) c.length))),
                  (6, SV.p (PV.c (CV.int IntKind.i64 (↑k : Int))))],
              hp := [HB.row (3) tI c] : SS })) := by kernel_rfl

theorem vc_out19 (l : List Nd) (i : Int) (c : List Int) (k : Nat) (K : SS → Prop) (Q : Exit → SS → Prop) :
    (sx Try.prog (gam []) (lam [((2 : Nat), in19_l)]) (lp Try.f19 (0 : Nat)) (0 : Nat) (stO19 l i c k)
  (thenQ (cq (0 : Nat) [(0 : Nat), (1 : Nat), (5 : Nat), (6 : Nat)] K) (cQE (0 : Nat) [(1 : Nat), (5 : Nat)] [] Q))) =
    (bif decide ((↑k : Int) ≤ i) then
  (0 : Int) ≤ (↑k : Int) ∧
    (↑k : Int) < (↑c.length : Int) ∧
      0 + (↑k : Int).toNat < c.length ∧
        ∃ (x : List Nd × Int × Nat),
          { nt := 64,
                fr :=
                  [(0, SV.p (PV.c (CV.row tN l))), (1, SV.p (PV.c (CV.int IntKind.i64 i))),
                    (5, SV.p (PV.c (CV.view tI (0) (0) c.length))),
                    (6, SV.p (PV.c (CV.int IntKind.i64 (↑k : Int)))),
                    (7, SV.p (PV.c (CV.int IntKind.i64 (0 : Int))))],
                hp := [HB.row (3) tI (c.set (0 + (↑k : Int).toNat) (1 : Int))] : SS } =
              { nt := 64,
                fr :=
                  [(0, SV.p (PV.c (CV.row tN x.fst))), (1, SV.p (PV.c (CV.int IntKind.i64 x.snd.fst))),
                    (5,
                      SV.p
                        (PV.c
                          (CV.view tI (0) (0)
                            ((upto (dep x.fst) x.fst.length (x.snd.snd - (1 : Nat))).set x.snd.snd (1 : Int)).length))),
                    (6, SV.p (PV.c (CV.int IntKind.i64 (↑x.snd.snd : Int)))),
                    (7, SV.p (PV.c (CV.int IntKind.i64 (↑(0 : Nat) : Int))))],
                hp :=
                  [HB.row (3) tI
                      ((upto (dep x.fst) x.fst.length (x.snd.snd - (1 : Nat))).set x.snd.snd (1 : Int))] :
                SS } ∧
            (inOk x.fst ∧ (1 : Nat) ≤ x.snd.snd ∧ x.snd.snd ≤ x.fst.length) ∧
              K
                { nt := 64,
                  fr :=
                    [(0, SV.p (PV.c (CV.row tN x.fst))),
                      (1, SV.p (PV.c (CV.int IntKind.i64 x.snd.fst))),
                      (5,
                        SV.p
                          (PV.c (CV.view tI (0) (0) (upto (dep x.fst) x.fst.length x.snd.snd).length))),
                      (6,
                        SV.p (PV.c (CV.int IntKind.i64 (IntKind.i64.wrap ((↑x.snd.snd : Int) + (1 : Int))))))],
                  hp := [HB.row (3) tI (upto (dep x.fst) x.fst.length x.snd.snd)] : SS }
else
  Q (Exit.exit (0))
    { nt := 64,
      fr :=
        [(1, SV.p (PV.c (CV.int IntKind.i64 i))),
          (5, SV.p (PV.c (CV.view tI (0) (0) c.length)))],
      hp := [HB.row (3) tI c] : SS }) := by kernel_rfl

theorem vc_f19 (l : List Nd) (i : Int) (Q : SV → List HB → Prop) :
    (body Try.prog (gam []) (lam [((0 : Nat), out19_l)]) Try.f19 [PV.c (CV.row tN l), ti i] [] Q) =
    (bif decide (i < (1 : Int)) || decide (i > (↑l.length : Int)) then Q (SV.p (PV.c (CV.int IntKind.i64 (0 : Int)))) []
else
  l.length ≤ maxI →
    (0 : Int) ≤ IntKind.i64.wrap ((↑l.length : Int) + (1 : Int)) ∧
      IntKind.i64.wrap ((↑l.length : Int) + (1 : Int)) ≤ IntKind.i64.wrap ((↑l.length : Int) + (1 : Int)) ∧
        (↑(8 : Nat) : Int) * IntKind.i64.wrap ((↑l.length : Int) + (1 : Int)) ≤ (281474976710656 : Int) ∧
          ∃ (x : List Nd × Int),
            { nt := 64,
                  fr :=
                    [(0, SV.p (PV.c (CV.row tN l))), (1, SV.p (PV.c (CV.int IntKind.i64 i))),
                      (5,
                        SV.p
                          (PV.c
                            (CV.view (Ty.int IntKind.i64) (0) (0)
                              (IntKind.i64.wrap ((↑l.length : Int) + (1 : Int))).toNat))),
                      (6, SV.p (PV.c (CV.int IntKind.i64 (1 : Int))))],
                  hp :=
                    [HB.row (3) (Ty.int IntKind.i64)
                        (List.replicate (IntKind.i64.wrap ((↑l.length : Int) + (1 : Int))).toNat (0 : Int))] :
                  SS } =
                { nt := 64,
                  fr :=
                    [(0, SV.p (PV.c (CV.row tN x.fst))), (1, SV.p (PV.c (CV.int IntKind.i64 x.snd))),
                      (5,
                        SV.p
                          (PV.c (CV.view tI (0) (0) (upto (dep x.fst) x.fst.length (0 : Nat)).length))),
                      (6, SV.p (PV.c (CV.int IntKind.i64 (↑(1 : Nat) : Int))))],
                  hp := [HB.row (3) tI (upto (dep x.fst) x.fst.length (0 : Nat))] : SS } ∧
              (inOk x.fst ∧ (1 : Int) ≤ x.snd ∧ x.snd ≤ (↑x.fst.length : Int)) ∧
                (0 : Int) ≤ x.snd ∧
                  x.snd < (↑(upto (dep x.fst) x.fst.length x.snd.toNat).length : Int) ∧
                    0 + x.snd.toNat < (upto (dep x.fst) x.fst.length x.snd.toNat).length ∧
                      Q
                        (SV.p
                          (PV.c
                            (CV.int IntKind.i64
                              ((upto (dep x.fst) x.fst.length x.snd.toNat).getD (0 + x.snd.toNat) tI.dft))))
                        []) := by kernel_rfl

theorem vc_wi (l : List Nd) (out : List Int) (todo : List Int) (n : Nat) (ks : List Int) (j : Int) (K : SS → Prop) (Q : Exit → SS → Prop) :
    (sx Try.prog (gam gCount) noLam (lpIn (lp Try.f10 (0 : Nat)) (0 : Nat) (0 : Nat)) (2 : Nat) (stWI l out todo n ks j)
  (thenQ (cq (0 : Nat) [(0 : Nat), (5 : Nat), (6 : Nat), (8 : Nat), (9 : Nat)] K)
    (cQE (0 : Nat) [(0 : Nat), (5 : Nat), (6 : Nat)] [] Q))) =
    (bif decide (j ≥ (0 : Int)) then
  (0 : Int) ≤ j ∧
    j < (↑ks.length : Int) ∧
      j.toNat < ks.length ∧
        bif decide (ks.getD j.toNat tI.dft > (0 : Int)) then
          (0 : Int) ≤ j ∧
            j < (↑ks.length : Int) ∧
              j.toNat < ks.length ∧
                (1 : Nat) ≤ [ks.getD j.toNat tI.dft].length ∧
                  0 + n ≤ todo.length ∧
                    (vw todo (0) n ++ [ks.getD j.toNat tI.dft]).length * (8 : Nat) ≤ (140737488355328 : Nat) ∧
                      K
                        { nt := 71,
                          fr :=
                            [(0, SV.p (PV.c (CV.row tN l))),
                              (5, SV.p (PV.c (CV.view tI (0) (0) out.length))),
                              (6,
                                SV.p
                                  (PV.c
                                    (CV.view tI (1) (0)
                                      (vw todo (0) n ++ [ks.getD j.toNat tI.dft]).length))),
                              (8, SV.p (PV.c (CV.row tI ks))),
                              (9, SV.p (PV.c (CV.int IntKind.i64 (IntKind.i64.wrap (j - (1 : Int))))))],
                          hp :=
                            [HB.row (3) tI out,
                              HB.row (3) tI (vw todo (0) n ++ [ks.getD j.toNat tI.dft])] :
                          SS }
        else
          K
            { nt := 71,
              fr :=
                [(0, SV.p (PV.c (CV.row tN l))),
                  (5, SV.p (PV.c (CV.view tI (0) (0) out.length))),
                  (6, SV.p (PV.c (CV.view tI (1) (0) n))),
                  (8, SV.p (PV.c (CV.row tI ks))),
                  (9, SV.p (PV.c (CV.int IntKind.i64 (IntKind.i64.wrap (j - (1 : Int))))))],
              hp := [HB.row (3) tI out, HB.row (3) tI todo] : SS }
else
  Q (Exit.exit (2))
    { nt := 71,
      fr :=
        [(0, SV.p (PV.c (CV.row tN l))),
          (5, SV.p (PV.c (CV.view tI (0) (0) out.length))),
          (6, SV.p (PV.c (CV.view tI (1) (0) n)))],
      hp := [HB.row (3) tI out, HB.row (3) tI todo] : SS }) := by kernel_rfl

theorem vc_w (l : List Nd) (out : List Int) (todo : List Int) (n : Nat) (K : SS → Prop) (Q : Exit → SS → Prop) :
    (sx Try.prog (gam gCount) (lam [((2 : Nat), rwalkIn_l)]) (lp Try.f10 (0 : Nat)) (0 : Nat) (stW l out todo (0 : Nat) n)
  (thenQ (cq (0 : Nat) [(0 : Nat), (5 : Nat), (6 : Nat)] K) (cQE (0 : Nat) [(5 : Nat)] [] Q))) =
    (n ≤ maxI →
  bif decide ((↑n : Int) > (0 : Int)) then
    n ≤ maxI →
      (0 : Int) ≤ IntKind.i64.wrap ((↑n : Int) - (1 : Int)) ∧
        IntKind.i64.wrap ((↑n : Int) - (1 : Int)) < (↑n : Int) ∧
          0 + (IntKind.i64.wrap ((↑n : Int) - (1 : Int))).toNat < todo.length ∧
            (n ≤ maxI →
              (0 : Int) ≤ IntKind.i64.wrap ((↑n : Int) - (1 : Int)) ∧
                IntKind.i64.wrap ((↑n : Int) - (1 : Int)) ≤ (↑n : Int) ∧
                  (1 : Nat) ≤
                      [todo.getD (0 + (IntKind.i64.wrap ((↑n : Int) - (1 : Int))).toNat) tI.dft].length ∧
                    0 + out.length ≤ out.length ∧
                      (vw out (0) out.length ++
                                [todo.getD (0 + (IntKind.i64.wrap ((↑n : Int) - (1 : Int))).toNat)
                                    tI.dft]).length *
                            (8 : Nat) ≤
                          (140737488355328 : Nat) ∧
                        (0 : Int) ≤
                            IntKind.i64.wrap
                              (todo.getD (0 + (IntKind.i64.wrap ((↑n : Int) - (1 : Int))).toNat) tI.dft -
                                (1 : Int)) ∧
                          IntKind.i64.wrap
                                (todo.getD (0 + (IntKind.i64.wrap ((↑n : Int) - (1 : Int))).toNat) tI.dft -
                                  (1 : Int)) <
                              (↑l.length : Int) ∧
                            (IntKind.i64.wrap
                                    (todo.getD (0 + (IntKind.i64.wrap ((↑n : Int) - (1 : Int))).toNat) tI.dft -
                                      (1 : Int))).toNat <
                                l.length ∧
                              (List.length
                                    (l.getD
                                            (IntKind.i64.wrap
                                                (todo.getD
                                                    (0 + (IntKind.i64.wrap ((↑n : Int) - (1 : Int))).toNat)
                                                    tI.dft -
                                                  (1 : Int))).toNat
                                            tN.dft).snd.snd.snd ≤
                                  maxI →
                                ∃ (x : WD),
                                  { nt := 71,
                                        fr :=
                                          [(0, SV.p (PV.c (CV.row tN l))),
                                            (5,
                                              SV.p
                                                (PV.c
                                                  (CV.view tI (0) (0)
                                                    (vw out (0) out.length ++
                                                        [todo.getD
                                                            (0 +
                                                              (IntKind.i64.wrap ((↑n : Int) - (1 : Int))).toNat)
                                                            tI.dft]).length))),
                                            (6,
                                              SV.p
                                                (PV.c
                                                  (CV.view tI (1) (0)
                                                    (hiN n (some (IntKind.i64.wrap ((↑n : Int) - (1 : Int)))) -
                                                      (0 : Nat))))),
                                            (8,
                                              SV.p
                                                (PV.c
                                                  (CV.row tI
                                                    (l.getD
                                                            (IntKind.i64.wrap
                                                                (todo.getD
                                                                    (0 +
                                                                      (IntKind.i64.wrap ((↑n : Int) - (1 : Int))).toNat)
                                                                    tI.dft -
                                                                  (1 : Int))).toNat
                                                            tN.dft).snd.snd.snd))),
                                            (9,
                                              SV.p
                                                (PV.c
                                                  (CV.int IntKind.i64
                                                    (IntKind.i64.wrap
                                                      ((↑(List.length
                                                              (l.getD
                                                                      (IntKind.i64.wrap
                                                                          (todo.getD
                                                                              (0 +
                                                                                (IntKind.i64.wrap
                                                                                    ((↑n : Int) - (1 : Int))).toNat)
                                                                              tI.dft -
                                                                            (1 : Int))).toNat
                                                                      tN.dft).snd.snd.snd) :
                                                          Int) -
                                                        (1 : Int))))))],
                                        hp :=
                                          [HB.row (3) tI
                                              (vw out (0) out.length ++
                                                [todo.getD
                                                    (0 + (IntKind.i64.wrap ((↑n : Int) - (1 : Int))).toNat)
                                                    tI.dft]),
                                            HB.row (3) tI todo] :
                                        SS } =
                                      { nt := 71,
                                        fr :=
                                          [(0, SV.p (PV.c (CV.row tN x.l))),
                                            (5, SV.p (PV.c (CV.view tI (0) (0) x.out.length))),
                                            (6, SV.p (PV.c (CV.view tI (1) (0) x.n))),
                                            (8, SV.p (PV.c (CV.row tI x.ks))),
                                            (9,
                                              SV.p (PV.c (CV.int IntKind.i64 ((↑x.ks.length : Int) - (1 : Int)))))],
                                        hp := [HB.row (3) tI x.out, HB.row (3) tI x.todo] : SS } ∧
                                    (x.n ≤ x.todo.length ∧ x.ks.length ≤ (65536 : Nat) ∧ x.n ≤ (100000000 : Nat)) ∧
                                      ∀ (todo : List Int),
                                        List.take (x.n + (List.filter Ytmncmmdicpcgmaa.Ch.part x.ks).length) todo =
                                            List.take x.n x.todo ++
                                              (List.filter Ytmncmmdicpcgmaa.Ch.part x.ks).reverse →
                                          x.n + (List.filter Ytmncmmdicpcgmaa.Ch.part x.ks).length ≤ todo.length →
                                            K
                                              { nt := 71,
                                                fr :=
                                                  [(0, SV.p (PV.c (CV.row tN x.l))),
                                                    (5,
                                                      SV.p (PV.c (CV.view tI (0) (0) x.out.length))),
                                                    (6,
                                                      SV.p
                                                        (PV.c
                                                          (CV.view tI (1) (0)
                                                            (x.n +
                                                              (List.filter Ytmncmmdicpcgmaa.Ch.part x.ks).length))))],
                                                hp := [HB.row (3) tI x.out, HB.row (3) tI todo] : SS }))
  else
    Q (Exit.exit (0))
      { nt := 71, fr := [(5, SV.p (PV.c (CV.view tI (0) (0) out.length)))],
        hp := [HB.row (3) tI out] : SS }) := by kernel_rfl

theorem vc_rwalk (l : List Nd) (i : Int) (Q : SV → List HB → Prop) :
    (body Try.prog (gam gCount) (lam [((0 : Nat), rwalk_l)]) Try.f10 [PV.c (CV.row tN l), ti i] [] Q) =
    (bif decide (i < (1 : Int)) || decide (i > (↑l.length : Int)) then Q (SV.p (PV.c CV.nils)) []
else
  (inOk l ∧ (1 : Int) ≤ i ∧ i ≤ (↑l.length : Int)) ∧
    bif false || decide (gC l i > (65536 : Int)) then Q (SV.p (PV.c CV.nils)) []
    else
      ∃ (x : List Nd × Int),
        { nt := 71,
              fr :=
                [(0, SV.p (PV.c (CV.row tN l))),
                  (5, SV.p (PV.c (CV.view (Ty.int IntKind.i64) (0) (0) (0)))),
                  (6, SV.p (PV.c (CV.view (Ty.int IntKind.i64) (1) (0) (1))))],
              hp := [HB.row (3) (Ty.int IntKind.i64) [], HB.row (3) (Ty.int IntKind.i64) [i]] : SS } =
            { nt := 71,
              fr :=
                [(0, SV.p (PV.c (CV.row tN x.fst))),
                  (5, SV.p (PV.c (CV.view tI (0) (0) (0)))),
                  (6, SV.p (PV.c (CV.view tI (1) (0) (1))))],
              hp := [HB.row (3) tI [], HB.row (3) tI [x.snd]] : SS } ∧
          (inOk x.fst ∧ (1 : Int) ≤ x.snd ∧ x.snd ≤ (↑x.fst.length : Int) ∧ cnt x.fst x.snd ≤ (65536 : Nat)) ∧
            Q (SV.p (PV.c (CV.view tI (0) (0) (pre x.fst x.snd).length)))
              [HB.row (3) tI (pre x.fst x.snd)]) := by kernel_rfl

end Go.Proofs.Ytmncmmdicpcgmaa.Ch
