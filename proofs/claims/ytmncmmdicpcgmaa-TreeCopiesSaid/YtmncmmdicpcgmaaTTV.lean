/- Statements over the abstract machine, reckoned out: printed by a program of this session. No condition. -/
import Derived.Test.YtmncmmdicpcgmaaTT
namespace Go.Proofs.Ytmncmmdicpcgmaa.Ch
open Go Go.Proofs Go.Proofs.Ytmncmmdicpcgmaa.Sx
set_option linter.unusedVariables false
theorem vc_treeSame (a : List Nd) (b : List Nd) (i : Int) (k : Int) (Q : SV → List HB → Prop) :
    (body Try.prog (gam gLSame) noLam Try.f3 [PV.c (CV.row tN a), PV.c (CV.row tN b), ti i, ti k] [] Q) =
    (bif greatB a then Q (SV.p (PV.c (CV.bool true))) []
else
  bif false || greatB b then Q (SV.p (PV.c (CV.bool true))) []
  else
    greatB a = false ∧
      greatB b = false ∧
        ((laidL a).length ≤ maxI →
          IntKind.u64.wrap (IntKind.i64.wrap ((↑(laidL a).length : Int) + (1 : Int))) ≠ (0 : Int) ∧
            ((laidL b).length ≤ maxI →
              IntKind.u64.wrap (IntKind.i64.wrap ((↑(laidL b).length : Int) + (1 : Int))) ≠ (0 : Int) ∧
                bif
                    decide
                      (IntKind.i64.wrap
                          ((IntKind.u64.wrap i).tmod
                            (IntKind.u64.wrap (IntKind.i64.wrap ((↑(laidL a).length : Int) + (1 : Int))))) >
                        (0 : Int)) then
                  0 + (laidL a).length ≤ (laidL a).length ∧
                    (inOk (vw (laidL a) (0) (laidL a).length) ∧
                        (-9223372036854775808 : Int) ≤
                            IntKind.i64.wrap
                              ((IntKind.u64.wrap i).tmod
                                (IntKind.u64.wrap (IntKind.i64.wrap ((↑(laidL a).length : Int) + (1 : Int))))) ∧
                          IntKind.i64.wrap
                              ((IntKind.u64.wrap i).tmod
                                (IntKind.u64.wrap (IntKind.i64.wrap ((↑(laidL a).length : Int) + (1 : Int))))) ≤
                            (9223372036854775807 : Int)) ∧
                      bif
                          true &&
                            (↑(wl (vw (laidL a) (0) (laidL a).length)
                                      (IntKind.i64.wrap
                                        ((IntKind.u64.wrap i).tmod
                                          (IntKind.u64.wrap
                                            (IntKind.i64.wrap ((↑(laidL a).length : Int) + (1 : Int))))))).length :
                                Int) ==
                              (0 : Int) then
                        Q (SV.p (PV.c (CV.bool true))) []
                      else
                        bif
                            decide
                              (IntKind.i64.wrap
                                  ((IntKind.u64.wrap k).tmod
                                    (IntKind.u64.wrap (IntKind.i64.wrap ((↑(laidL b).length : Int) + (1 : Int))))) >
                                (0 : Int)) then
                          0 + (laidL b).length ≤ (laidL b).length ∧
                            (inOk (vw (laidL b) (0) (laidL b).length) ∧
                                (-9223372036854775808 : Int) ≤
                                    IntKind.i64.wrap
                                      ((IntKind.u64.wrap k).tmod
                                        (IntKind.u64.wrap (IntKind.i64.wrap ((↑(laidL b).length : Int) + (1 : Int))))) ∧
                                  IntKind.i64.wrap
                                      ((IntKind.u64.wrap k).tmod
                                        (IntKind.u64.wrap (IntKind.i64.wrap ((↑(laidL b).length : Int) + (1 : Int))))) ≤
                                    (9223372036854775807 : Int)) ∧
                              bif
                                  false ||
                                    true &&
                                      (↑(wl (vw (laidL b) (0) (laidL b).length)
                                                (IntKind.i64.wrap
                                                  ((IntKind.u64.wrap k).tmod
                                                    (IntKind.u64.wrap
                                                      (IntKind.i64.wrap
                                                        ((↑(laidL b).length : Int) + (1 : Int))))))).length :
                                          Int) ==
                                        (0 : Int) then
                                Q (SV.p (PV.c (CV.bool true))) []
                              else
                                ((treeOf (laidL a)).length = (treeOf (laidL a)).length ∧
                                    (treeOf (laidL b)).length = (treeOf (laidL b)).length ∧
                                      smO (100 : Nat) (treeOf (laidL a)) (treeOf (laidL b))
                                        (IntKind.i64.wrap
                                          ((IntKind.u64.wrap i).tmod
                                            (IntKind.u64.wrap
                                              (IntKind.i64.wrap ((↑(laidL a).length : Int) + (1 : Int))))))) ∧
                                  0 + (laidL a).length ≤ (laidL a).length ∧
                                    0 + (laidL b).length ≤ (laidL b).length ∧
                                      (inOk (vw (laidL a) (0) (laidL a).length) ∧
                                          ((-9223372036854775808 : Int) ≤
                                                IntKind.i64.wrap
                                                  ((IntKind.u64.wrap i).tmod
                                                    (IntKind.u64.wrap
                                                      (IntKind.i64.wrap ((↑(laidL a).length : Int) + (1 : Int))))) ∧
                                              IntKind.i64.wrap
                                                  ((IntKind.u64.wrap i).tmod
                                                    (IntKind.u64.wrap
                                                      (IntKind.i64.wrap ((↑(laidL a).length : Int) + (1 : Int))))) ≤
                                                (9223372036854775807 : Int)) ∧
                                            inOk (vw (laidL b) (0) (laidL b).length) ∧
                                              ((-9223372036854775808 : Int) ≤
                                                    IntKind.i64.wrap
                                                      ((IntKind.u64.wrap k).tmod
                                                        (IntKind.u64.wrap
                                                          (IntKind.i64.wrap ((↑(laidL b).length : Int) + (1 : Int))))) ∧
                                                  IntKind.i64.wrap
                                                      ((IntKind.u64.wrap k).tmod
                                                        (IntKind.u64.wrap
                                                          (IntKind.i64.wrap ((↑(laidL b).length : Int) + (1 : Int))))) ≤
                                                    (9223372036854775807 : Int)) ∧
                                                (hasB (vw (laidL a) (0) (laidL a).length).length
                                                        (IntKind.i64.wrap
                                                          ((IntKind.u64.wrap i).tmod
                                                            (IntKind.u64.wrap
                                                              (IntKind.i64.wrap
                                                                ((↑(laidL a).length : Int) + (1 : Int)))))) =
                                                      true →
                                                    cnt (vw (laidL a) (0) (laidL a).length)
                                                        (IntKind.i64.wrap
                                                          ((IntKind.u64.wrap i).tmod
                                                            (IntKind.u64.wrap
                                                              (IntKind.i64.wrap
                                                                ((↑(laidL a).length : Int) + (1 : Int)))))) ≤
                                                      (65536 : Nat)) ∧
                                                  (hasB (vw (laidL b) (0) (laidL b).length).length
                                                        (IntKind.i64.wrap
                                                          ((IntKind.u64.wrap k).tmod
                                                            (IntKind.u64.wrap
                                                              (IntKind.i64.wrap
                                                                ((↑(laidL b).length : Int) + (1 : Int)))))) =
                                                      true →
                                                    cnt (vw (laidL b) (0) (laidL b).length)
                                                        (IntKind.i64.wrap
                                                          ((IntKind.u64.wrap k).tmod
                                                            (IntKind.u64.wrap
                                                              (IntKind.i64.wrap
                                                                ((↑(laidL b).length : Int) + (1 : Int)))))) ≤
                                                      (65536 : Nat))) ∧
                                        Q
                                          (SV.p
                                            (PV.c
                                              (CV.bool
                                                (sm (nodes (treeOf (laidL a)))
                                                    (IntKind.i64.wrap
                                                      ((IntKind.u64.wrap i).tmod
                                                        (IntKind.u64.wrap
                                                          (IntKind.i64.wrap ((↑(laidL a).length : Int) + (1 : Int))))))
                                                    (nodes (treeOf (laidL b)))
                                                    (IntKind.i64.wrap
                                                      ((IntKind.u64.wrap k).tmod
                                                        (IntKind.u64.wrap
                                                          (IntKind.i64.wrap
                                                            ((↑(laidL b).length : Int) + (1 : Int)))))) ==
                                                  sm (vw (laidL a) (0) (laidL a).length)
                                                    (IntKind.i64.wrap
                                                      ((IntKind.u64.wrap i).tmod
                                                        (IntKind.u64.wrap
                                                          (IntKind.i64.wrap ((↑(laidL a).length : Int) + (1 : Int))))))
                                                    (vw (laidL b) (0) (laidL b).length)
                                                    (IntKind.i64.wrap
                                                      ((IntKind.u64.wrap k).tmod
                                                        (IntKind.u64.wrap
                                                          (IntKind.i64.wrap
                                                            ((↑(laidL b).length : Int) + (1 : Int))))))))))
                                          []
                        else
                          ((treeOf (laidL a)).length = (treeOf (laidL a)).length ∧
                              (treeOf (laidL b)).length = (treeOf (laidL b)).length ∧
                                smO (100 : Nat) (treeOf (laidL a)) (treeOf (laidL b))
                                  (IntKind.i64.wrap
                                    ((IntKind.u64.wrap i).tmod
                                      (IntKind.u64.wrap (IntKind.i64.wrap ((↑(laidL a).length : Int) + (1 : Int))))))) ∧
                            0 + (laidL a).length ≤ (laidL a).length ∧
                              0 + (laidL b).length ≤ (laidL b).length ∧
                                (inOk (vw (laidL a) (0) (laidL a).length) ∧
                                    ((-9223372036854775808 : Int) ≤
                                          IntKind.i64.wrap
                                            ((IntKind.u64.wrap i).tmod
                                              (IntKind.u64.wrap
                                                (IntKind.i64.wrap ((↑(laidL a).length : Int) + (1 : Int))))) ∧
                                        IntKind.i64.wrap
                                            ((IntKind.u64.wrap i).tmod
                                              (IntKind.u64.wrap
                                                (IntKind.i64.wrap ((↑(laidL a).length : Int) + (1 : Int))))) ≤
                                          (9223372036854775807 : Int)) ∧
                                      inOk (vw (laidL b) (0) (laidL b).length) ∧
                                        ((-9223372036854775808 : Int) ≤
                                              IntKind.i64.wrap
                                                ((IntKind.u64.wrap k).tmod
                                                  (IntKind.u64.wrap
                                                    (IntKind.i64.wrap ((↑(laidL b).length : Int) + (1 : Int))))) ∧
                                            IntKind.i64.wrap
                                                ((IntKind.u64.wrap k).tmod
                                                  (IntKind.u64.wrap
                                                    (IntKind.i64.wrap ((↑(laidL b).length : Int) + (1 : Int))))) ≤
                                              (9223372036854775807 : Int)) ∧
                                          (hasB (vw (laidL a) (0) (laidL a).length).length
                                                  (IntKind.i64.wrap
                                                    ((IntKind.u64.wrap i).tmod
                                                      (IntKind.u64.wrap
                                                        (IntKind.i64.wrap ((↑(laidL a).length : Int) + (1 : Int)))))) =
                                                true →
                                              cnt (vw (laidL a) (0) (laidL a).length)
                                                  (IntKind.i64.wrap
                                                    ((IntKind.u64.wrap i).tmod
                                                      (IntKind.u64.wrap
                                                        (IntKind.i64.wrap ((↑(laidL a).length : Int) + (1 : Int)))))) ≤
                                                (65536 : Nat)) ∧
                                            (hasB (vw (laidL b) (0) (laidL b).length).length
                                                  (IntKind.i64.wrap
                                                    ((IntKind.u64.wrap k).tmod
                                                      (IntKind.u64.wrap
                                                        (IntKind.i64.wrap ((↑(laidL b).length : Int) + (1 : Int)))))) =
                                                true →
                                              cnt (vw (laidL b) (0) (laidL b).length)
                                                  (IntKind.i64.wrap
                                                    ((IntKind.u64.wrap k).tmod
                                                      (IntKind.u64.wrap
                                                        (IntKind.i64.wrap ((↑(laidL b).length : Int) + (1 : Int)))))) ≤
                                                (65536 : Nat))) ∧
                                  Q
                                    (SV.p
                                      (PV.c
                                        (CV.bool
                                          (sm (nodes (treeOf (laidL a)))
                                              (IntKind.i64.wrap
                                                ((IntKind.u64.wrap i).tmod
                                                  (IntKind.u64.wrap
                                                    (IntKind.i64.wrap ((↑(laidL a).length : Int) + (1 : Int))))))
                                              (nodes (treeOf (laidL b)))
                                              (IntKind.i64.wrap
                                                ((IntKind.u64.wrap k).tmod
                                                  (IntKind.u64.wrap
                                                    (IntKind.i64.wrap ((↑(laidL b).length : Int) + (1 : Int)))))) ==
                                            sm (vw (laidL a) (0) (laidL a).length)
                                              (IntKind.i64.wrap
                                                ((IntKind.u64.wrap i).tmod
                                                  (IntKind.u64.wrap
                                                    (IntKind.i64.wrap ((↑(laidL a).length : Int) + (1 : Int))))))
                                              (vw (laidL b) (0) (laidL b).length)
                                              (IntKind.i64.wrap
                                                ((IntKind.u64.wrap k).tmod
                                                  (IntKind.u64.wrap
                                                    (IntKind.i64.wrap ((↑(laidL b).length : Int) + (1 : Int))))))))))
                                    []
                else
                  bif
                      decide
                        (IntKind.i64.wrap
                            ((IntKind.u64.wrap k).tmod
                              (IntKind.u64.wrap (IntKind.i64.wrap ((↑(laidL b).length : Int) + (1 : Int))))) >
                          (0 : Int)) then
                    0 + (laidL b).length ≤ (laidL b).length ∧
                      (inOk (vw (laidL b) (0) (laidL b).length) ∧
                          (-9223372036854775808 : Int) ≤
                              IntKind.i64.wrap
                                ((IntKind.u64.wrap k).tmod
                                  (IntKind.u64.wrap (IntKind.i64.wrap ((↑(laidL b).length : Int) + (1 : Int))))) ∧
                            IntKind.i64.wrap
                                ((IntKind.u64.wrap k).tmod
                                  (IntKind.u64.wrap (IntKind.i64.wrap ((↑(laidL b).length : Int) + (1 : Int))))) ≤
                              (9223372036854775807 : Int)) ∧
                        bif
                            false ||
                              true &&
                                (↑(wl (vw (laidL b) (0) (laidL b).length)
                                          (IntKind.i64.wrap
                                            ((IntKind.u64.wrap k).tmod
                                              (IntKind.u64.wrap
                                                (IntKind.i64.wrap ((↑(laidL b).length : Int) + (1 : Int))))))).length :
                                    Int) ==
                                  (0 : Int) then
                          Q (SV.p (PV.c (CV.bool true))) []
                        else
                          ((treeOf (laidL a)).length = (treeOf (laidL a)).length ∧
                              (treeOf (laidL b)).length = (treeOf (laidL b)).length ∧
                                smO (100 : Nat) (treeOf (laidL a)) (treeOf (laidL b))
                                  (IntKind.i64.wrap
                                    ((IntKind.u64.wrap i).tmod
                                      (IntKind.u64.wrap (IntKind.i64.wrap ((↑(laidL a).length : Int) + (1 : Int))))))) ∧
                            0 + (laidL a).length ≤ (laidL a).length ∧
                              0 + (laidL b).length ≤ (laidL b).length ∧
                                (inOk (vw (laidL a) (0) (laidL a).length) ∧
                                    ((-9223372036854775808 : Int) ≤
                                          IntKind.i64.wrap
                                            ((IntKind.u64.wrap i).tmod
                                              (IntKind.u64.wrap
                                                (IntKind.i64.wrap ((↑(laidL a).length : Int) + (1 : Int))))) ∧
                                        IntKind.i64.wrap
                                            ((IntKind.u64.wrap i).tmod
                                              (IntKind.u64.wrap
                                                (IntKind.i64.wrap ((↑(laidL a).length : Int) + (1 : Int))))) ≤
                                          (9223372036854775807 : Int)) ∧
                                      inOk (vw (laidL b) (0) (laidL b).length) ∧
                                        ((-9223372036854775808 : Int) ≤
                                              IntKind.i64.wrap
                                                ((IntKind.u64.wrap k).tmod
                                                  (IntKind.u64.wrap
                                                    (IntKind.i64.wrap ((↑(laidL b).length : Int) + (1 : Int))))) ∧
                                            IntKind.i64.wrap
                                                ((IntKind.u64.wrap k).tmod
                                                  (IntKind.u64.wrap
                                                    (IntKind.i64.wrap ((↑(laidL b).length : Int) + (1 : Int))))) ≤
                                              (9223372036854775807 : Int)) ∧
                                          (hasB (vw (laidL a) (0) (laidL a).length).length
                                                  (IntKind.i64.wrap
                                                    ((IntKind.u64.wrap i).tmod
                                                      (IntKind.u64.wrap
                                                        (IntKind.i64.wrap ((↑(laidL a).length : Int) + (1 : Int)))))) =
                                                true →
                                              cnt (vw (laidL a) (0) (laidL a).length)
                                                  (IntKind.i64.wrap
                                                    ((IntKind.u64.wrap i).tmod
                                                      (IntKind.u64.wrap
                                                        (IntKind.i64.wrap ((↑(laidL a).length : Int) + (1 : Int)))))) ≤
                                                (65536 : Nat)) ∧
                                            (hasB (vw (laidL b) (0) (laidL b).length).length
                                                  (IntKind.i64.wrap
                                                    ((IntKind.u64.wrap k).tmod
                                                      (IntKind.u64.wrap
                                                        (IntKind.i64.wrap ((↑(laidL b).length : Int) + (1 : Int)))))) =
                                                true →
                                              cnt (vw (laidL b) (0) (laidL b).length)
                                                  (IntKind.i64.wrap
                                                    ((IntKind.u64.wrap k).tmod
                                                      (IntKind.u64.wrap
                                                        (IntKind.i64.wrap ((↑(laidL b).length : Int) + (1 : Int)))))) ≤
                                                (65536 : Nat))) ∧
                                  Q
                                    (SV.p
                                      (PV.c
                                        (CV.bool
                                          (sm (nodes (treeOf (laidL a)))
                                              (IntKind.i64.wrap
                                                ((IntKind.u64.wrap i).tmod
                                                  (IntKind.u64.wrap
                                                    (IntKind.i64.wrap ((↑(laidL a).length : Int) + (1 : Int))))))
                                              (nodes (treeOf (laidL b)))
                                              (IntKind.i64.wrap
                                                ((IntKind.u64.wrap k).tmod
                                                  (IntKind.u64.wrap
                                                    (IntKind.i64.wrap ((↑(laidL b).length : Int) + (1 : Int)))))) ==
                                            sm (vw (laidL a) (0) (laidL a).length)
                                              (IntKind.i64.wrap
                                                ((IntKind.u64.wrap i).tmod
                                                  (IntKind.u64.wrap
                                                    (IntKind.i64.wrap ((↑(laidL a).length : Int) + (1 : Int))))))
                                              (vw (laidL b) (0) (laidL b).length)
                                              (IntKind.i64.wrap
                                                ((IntKind.u64.wrap k).tmod
                                                  (IntKind.u64.wrap
                                                    (IntKind.i64.wrap ((↑(laidL b).length : Int) + (1 : Int))))))))))
                                    []
                  else
                    ((treeOf (laidL a)).length = (treeOf (laidL a)).length ∧
                        (treeOf (laidL b)).length = (treeOf (laidL b)).length ∧
                          smO (100 : Nat) (treeOf (laidL a)) (treeOf (laidL b))
                            (IntKind.i64.wrap
                              ((IntKind.u64.wrap i).tmod
                                (IntKind.u64.wrap (IntKind.i64.wrap ((↑(laidL a).length : Int) + (1 : Int))))))) ∧
                      0 + (laidL a).length ≤ (laidL a).length ∧
                        0 + (laidL b).length ≤ (laidL b).length ∧
                          (inOk (vw (laidL a) (0) (laidL a).length) ∧
                              ((-9223372036854775808 : Int) ≤
                                    IntKind.i64.wrap
                                      ((IntKind.u64.wrap i).tmod
                                        (IntKind.u64.wrap (IntKind.i64.wrap ((↑(laidL a).length : Int) + (1 : Int))))) ∧
                                  IntKind.i64.wrap
                                      ((IntKind.u64.wrap i).tmod
                                        (IntKind.u64.wrap (IntKind.i64.wrap ((↑(laidL a).length : Int) + (1 : Int))))) ≤
                                    (9223372036854775807 : Int)) ∧
                                inOk (vw (laidL b) (0) (laidL b).length) ∧
                                  ((-9223372036854775808 : Int) ≤
                                        IntKind.i64.wrap
                                          ((IntKind.u64.wrap k).tmod
                                            (IntKind.u64.wrap
                                              (IntKind.i64.wrap ((↑(laidL b).length : Int) + (1 : Int))))) ∧
                                      IntKind.i64.wrap
                                          ((IntKind.u64.wrap k).tmod
                                            (IntKind.u64.wrap
                                              (IntKind.i64.wrap ((↑(laidL b).length : Int) + (1 : Int))))) ≤
                                        (9223372036854775807 : Int)) ∧
                                    (hasB (vw (laidL a) (0) (laidL a).length).length
                                            (IntKind.i64.wrap
                                              ((IntKind.u64.wrap i).tmod
                                                (IntKind.u64.wrap
                                                  (IntKind.i64.wrap ((↑(laidL a).length : Int) + (1 : Int)))))) =
                                          true →
                                        cnt (vw (laidL a) (0) (laidL a).length)
                                            (IntKind.i64.wrap
                                              ((IntKind.u64.wrap i).tmod
                                                (IntKind.u64.wrap
                                                  (IntKind.i64.wrap ((↑(laidL a).length : Int) + (1 : Int)))))) ≤
                                          (65536 : Nat)) ∧
                                      (hasB (vw (laidL b) (0) (laidL b).length).length
                                            (IntKind.i64.wrap
                                              ((IntKind.u64.wrap k).tmod
                                                (IntKind.u64.wrap
                                                  (IntKind.i64.wrap ((↑(laidL b).length : Int) + (1 : Int)))))) =
                                          true →
                                        cnt (vw (laidL b) (0) (laidL b).length)
                                            (IntKind.i64.wrap
                                              ((IntKind.u64.wrap k).tmod
                                                (IntKind.u64.wrap
                                                  (IntKind.i64.wrap ((↑(laidL b).length : Int) + (1 : Int)))))) ≤
                                          (65536 : Nat))) ∧
                            Q
                              (SV.p
                                (PV.c
                                  (CV.bool
                                    (sm (nodes (treeOf (laidL a)))
                                        (IntKind.i64.wrap
                                          ((IntKind.u64.wrap i).tmod
                                            (IntKind.u64.wrap
                                              (IntKind.i64.wrap ((↑(laidL a).length : Int) + (1 : Int))))))
                                        (nodes (treeOf (laidL b)))
                                        (IntKind.i64.wrap
                                          ((IntKind.u64.wrap k).tmod
                                            (IntKind.u64.wrap
                                              (IntKind.i64.wrap ((↑(laidL b).length : Int) + (1 : Int)))))) ==
                                      sm (vw (laidL a) (0) (laidL a).length)
                                        (IntKind.i64.wrap
                                          ((IntKind.u64.wrap i).tmod
                                            (IntKind.u64.wrap
                                              (IntKind.i64.wrap ((↑(laidL a).length : Int) + (1 : Int))))))
                                        (vw (laidL b) (0) (laidL b).length)
                                        (IntKind.i64.wrap
                                          ((IntKind.u64.wrap k).tmod
                                            (IntKind.u64.wrap
                                              (IntKind.i64.wrap ((↑(laidL b).length : Int) + (1 : Int))))))))))
                              []))) := by kernel_rfl

theorem vc_e4 (l : List Nd) (i : Int) (k : Nat) (K : SS → Prop) (Q : Exit → SS → Prop) :
    (sx Try.prog (gam gLExact) noLam (lp Try.f4 (0 : Nat)) (0 : Nat) (stE4 l i k)
  (thenQ (cq (0 : Nat) [(1 : Nat), (5 : Nat), (6 : Nat), (8 : Nat)] K)
    (cQE (0 : Nat) [(1 : Nat), (5 : Nat), (6 : Nat)] [(4 : Nat)] Q))) =
    (l.length ≤ maxI →
  bif decide ((↑k : Int) < (↑l.length : Int)) then
    (0 : Int) ≤ (↑k : Int) ∧
      (↑k : Int) < (↑l.length : Int) ∧
        (((treeOf l).length = (treeOf l).length ∧
              (treeOf l).length ≤ (65536 : Nat) ∧
                (∀ (r : tR.T), r ∈ treeOf l → (kidsOf r.fst).length ≤ (65536 : Nat)) ∧
                  hasB (treeOf l).length (IntKind.i64.wrap ((↑k : Int) + (1 : Int))) = true) ∧
            0 + (↑k : Int).toNat < l.length ∧
              0 +
                    (kidsOf
                        (Ytmncmmdicpcgmaa.Ch.rowAt (treeOf l) (IntKind.i64.wrap ((↑k : Int) + (1 : Int)))).fst).length ≤
                  (kidsOf
                      (Ytmncmmdicpcgmaa.Ch.rowAt (treeOf l) (IntKind.i64.wrap ((↑k : Int) + (1 : Int)))).fst).length ∧
                bif
                    !decide
                        (((Ytmncmmdicpcgmaa.Ch.rowAt (treeOf l) (IntKind.i64.wrap ((↑k : Int) + (1 : Int)))).fst.fst,
                            (Ytmncmmdicpcgmaa.Ch.rowAt (treeOf l)
                                    (IntKind.i64.wrap ((↑k : Int) + (1 : Int)))).fst.snd.fst,
                            (Ytmncmmdicpcgmaa.Ch.rowAt (treeOf l)
                                      (IntKind.i64.wrap ((↑k : Int) + (1 : Int)))).fst.snd.snd.fst,
                            vw
                              (kidsOf
                                (Ytmncmmdicpcgmaa.Ch.rowAt (treeOf l) (IntKind.i64.wrap ((↑k : Int) + (1 : Int)))).fst)
                              (0)
                              (kidsOf
                                  (Ytmncmmdicpcgmaa.Ch.rowAt (treeOf l)
                                      (IntKind.i64.wrap ((↑k : Int) + (1 : Int)))).fst).length) =
                          l.getD (0 + (↑k : Int).toNat) tN.dft) then
                  Q Exit.ret { nt := 90, fr := [(4, SV.p (PV.c (CV.bool false)))], hp := [] : SS }
                else
                  K
                    { nt := 90,
                      fr :=
                        [(1, SV.p (PV.c (CV.int IntKind.i64 i))),
                          (5, SV.p (PV.c (CV.ptr (0) (0)))),
                          (6, SV.p (PV.c (CV.view tN (2) (0) l.length))),
                          (8, SV.p (PV.c (CV.int IntKind.i64 (IntKind.i64.wrap ((↑k : Int) + (1 : Int))))))],
                      hp :=
                        [HB.cells (59) [CV.view tR (1) (0) (treeOf l).length],
                          HB.row (56) tR (treeOf l), HB.row (39) tN l] :
                      SS }) ∧
          0 + (↑k : Int).toNat < l.length ∧
            ((treeOf l).length = (treeOf l).length ∧
                (treeOf l).length ≤ (65536 : Nat) ∧
                  (∀ (r : tR.T), r ∈ treeOf l → (kidsOf r.fst).length ≤ (65536 : Nat)) ∧
                    hasB (treeOf l).length (IntKind.i64.wrap ((↑k : Int) + (1 : Int))) = true) ∧
              0 +
                    (kidsOf
                        (Ytmncmmdicpcgmaa.Ch.rowAt (treeOf l) (IntKind.i64.wrap ((↑k : Int) + (1 : Int)))).fst).length ≤
                  (kidsOf
                      (Ytmncmmdicpcgmaa.Ch.rowAt (treeOf l) (IntKind.i64.wrap ((↑k : Int) + (1 : Int)))).fst).length ∧
                bif
                    !decide
                        (((Ytmncmmdicpcgmaa.Ch.rowAt (treeOf l) (IntKind.i64.wrap ((↑k : Int) + (1 : Int)))).fst.fst,
                            (Ytmncmmdicpcgmaa.Ch.rowAt (treeOf l)
                                    (IntKind.i64.wrap ((↑k : Int) + (1 : Int)))).fst.snd.fst,
                            (Ytmncmmdicpcgmaa.Ch.rowAt (treeOf l)
                                      (IntKind.i64.wrap ((↑k : Int) + (1 : Int)))).fst.snd.snd.fst,
                            vw
                              (kidsOf
                                (Ytmncmmdicpcgmaa.Ch.rowAt (treeOf l) (IntKind.i64.wrap ((↑k : Int) + (1 : Int)))).fst)
                              (0)
                              (kidsOf
                                  (Ytmncmmdicpcgmaa.Ch.rowAt (treeOf l)
                                      (IntKind.i64.wrap ((↑k : Int) + (1 : Int)))).fst).length) =
                          l.getD (0 + (↑k : Int).toNat) tN.dft) then
                  Q Exit.ret { nt := 90, fr := [(4, SV.p (PV.c (CV.bool false)))], hp := [] : SS }
                else
                  K
                    { nt := 90,
                      fr :=
                        [(1, SV.p (PV.c (CV.int IntKind.i64 i))),
                          (5, SV.p (PV.c (CV.ptr (0) (0)))),
                          (6, SV.p (PV.c (CV.view tN (2) (0) l.length))),
                          (8, SV.p (PV.c (CV.int IntKind.i64 (IntKind.i64.wrap ((↑k : Int) + (1 : Int))))))],
                      hp :=
                        [HB.cells (59) [CV.view tR (1) (0) (treeOf l).length],
                          HB.row (56) tR (treeOf l), HB.row (39) tN l] :
                      SS }
  else
    Q (Exit.exit (0))
      { nt := 90,
        fr :=
          [(1, SV.p (PV.c (CV.int IntKind.i64 i))), (5, SV.p (PV.c (CV.ptr (0) (0)))),
            (6, SV.p (PV.c (CV.view tN (2) (0) l.length)))],
        hp :=
          [HB.cells (59) [CV.view tR (1) (0) (treeOf l).length],
            HB.row (56) tR (treeOf l), HB.row (39) tN l] :
        SS }) := by kernel_rfl

theorem vc_treeExact (a : List Nd) (i : Int) (Q : SV → List HB → Prop) :
    (body Try.prog (gam gLExact) (lam [((0 : Nat), e4_l)]) Try.f4 [PV.c (CV.row tN a), ti i] [] Q) =
    (bif greatB a then Q (SV.p (PV.c (CV.bool true))) []
else
  greatB a = false ∧
    (treeOf (laidL a)).length = (treeOf (laidL a)).length ∧
      bif false || (↑(treeOf (laidL a)).length : Int) != (↑(laidL a).length : Int) then
        Q (SV.p (PV.c (CV.bool false))) []
      else
        ∃ (x : List Nd × Int),
          { nt := 90,
                fr :=
                  [(1, SV.p (PV.c (CV.int IntKind.i64 i))),
                    (5, SV.p (PV.c (CV.ptr (0) (0)))),
                    (6, SV.p (PV.c (CV.view tN (2) (0) (laidL a).length))),
                    (8, SV.p (PV.c (CV.int IntKind.i64 (0 : Int))))],
                hp :=
                  [HB.cells (59) [CV.view tR (1) (0) (treeOf (laidL a)).length],
                    HB.row (56) tR (treeOf (laidL a)), HB.row (39) tN (laidL a)] :
                SS } =
              { nt := 90,
                fr :=
                  [(1, SV.p (PV.c (CV.int IntKind.i64 x.snd))),
                    (5, SV.p (PV.c (CV.ptr (0) (0)))),
                    (6, SV.p (PV.c (CV.view tN (2) (0) x.fst.length))),
                    (8, SV.p (PV.c (CV.int IntKind.i64 (↑(0 : Nat) : Int))))],
                hp :=
                  [HB.cells (59) [CV.view tR (1) (0) (treeOf x.fst).length],
                    HB.row (56) tR (treeOf x.fst), HB.row (39) tN x.fst] :
                SS } ∧
            listOk x.fst ∧
              (x.fst.length ≤ maxI →
                IntKind.u64.wrap (IntKind.i64.wrap ((↑x.fst.length : Int) + (2 : Int))) ≠ (0 : Int) ∧
                  ((treeOf x.fst).length = (treeOf x.fst).length ∧ TreeOk (treeOf x.fst)) ∧
                    0 + x.fst.length ≤ x.fst.length ∧
                      (inOk (vw x.fst (0) x.fst.length) ∧
                          (-9223372036854775808 : Int) ≤ x.snd ∧ x.snd ≤ (9223372036854775807 : Int)) ∧
                        0 + (wl (nodes (treeOf x.fst)) x.snd).length ≤
                            (wl (nodes (treeOf x.fst)) x.snd).length ∧
                          0 + (wl (vw x.fst (0) x.fst.length) x.snd).length ≤
                              (wl (vw x.fst (0) x.fst.length) x.snd).length ∧
                            bif
                                !decide
                                    (vw (wl (nodes (treeOf x.fst)) x.snd) (0)
                                        (wl (nodes (treeOf x.fst)) x.snd).length =
                                      vw (wl (vw x.fst (0) x.fst.length) x.snd) (0)
                                        (wl (vw x.fst (0) x.fst.length) x.snd).length) then
                              Q (SV.p (PV.c (CV.bool false))) []
                            else
                              ((treeOf x.fst).length = (treeOf x.fst).length ∧ TreeOk (treeOf x.fst)) ∧
                                0 + x.fst.length ≤ x.fst.length ∧
                                  (inOk (vw x.fst (0) x.fst.length) ∧
                                      (-9223372036854775808 : Int) ≤ x.snd ∧ x.snd ≤ (9223372036854775807 : Int)) ∧
                                    bif
                                        false ||
                                          (if hasB (treeOf x.fst).length x.snd = true then
                                              dep (nodes (treeOf x.fst)) x.snd
                                            else (0 : Int)) !=
                                            if hasB (vw x.fst (0) x.fst.length).length x.snd = true then
                                              dep (vw x.fst (0) x.fst.length) x.snd
                                            else (0 : Int) then
                                      Q (SV.p (PV.c (CV.bool false))) []
                                    else
                                      ((treeOf x.fst).length = (treeOf x.fst).length ∧ TreeOk (treeOf x.fst)) ∧
                                        0 + x.fst.length ≤ x.fst.length ∧
                                          (inOk (vw x.fst (0) x.fst.length) ∧
                                              (-9223372036854775808 : Int) ≤
                                                  IntKind.i64.wrap
                                                    ((IntKind.u64.wrap x.snd).tmod
                                                      (IntKind.u64.wrap
                                                        (IntKind.i64.wrap ((↑x.fst.length : Int) + (2 : Int))))) ∧
                                                IntKind.i64.wrap
                                                    ((IntKind.u64.wrap x.snd).tmod
                                                      (IntKind.u64.wrap
                                                        (IntKind.i64.wrap ((↑x.fst.length : Int) + (2 : Int))))) ≤
                                                  (9223372036854775807 : Int)) ∧
                                            0 +
                                                  (wl (nodes (treeOf x.fst))
                                                      (IntKind.i64.wrap
                                                        ((IntKind.u64.wrap x.snd).tmod
                                                          (IntKind.u64.wrap
                                                            (IntKind.i64.wrap
                                                              ((↑x.fst.length : Int) + (2 : Int))))))).length ≤
                                                (wl (nodes (treeOf x.fst))
                                                    (IntKind.i64.wrap
                                                      ((IntKind.u64.wrap x.snd).tmod
                                                        (IntKind.u64.wrap
                                                          (IntKind.i64.wrap
                                                            ((↑x.fst.length : Int) + (2 : Int))))))).length ∧
                                              0 +
                                                    (wl (vw x.fst (0) x.fst.length)
                                                        (IntKind.i64.wrap
                                                          ((IntKind.u64.wrap x.snd).tmod
                                                            (IntKind.u64.wrap
                                                              (IntKind.i64.wrap
                                                                ((↑x.fst.length : Int) + (2 : Int))))))).length ≤
                                                  (wl (vw x.fst (0) x.fst.length)
                                                      (IntKind.i64.wrap
                                                        ((IntKind.u64.wrap x.snd).tmod
                                                          (IntKind.u64.wrap
                                                            (IntKind.i64.wrap
                                                              ((↑x.fst.length : Int) + (2 : Int))))))).length ∧
                                                bif
                                                    decide
                                                      (vw
                                                          (wl (nodes (treeOf x.fst))
                                                            (IntKind.i64.wrap
                                                              ((IntKind.u64.wrap x.snd).tmod
                                                                (IntKind.u64.wrap
                                                                  (IntKind.i64.wrap
                                                                    ((↑x.fst.length : Int) + (2 : Int)))))))
                                                          (0)
                                                          (wl (nodes (treeOf x.fst))
                                                              (IntKind.i64.wrap
                                                                ((IntKind.u64.wrap x.snd).tmod
                                                                  (IntKind.u64.wrap
                                                                    (IntKind.i64.wrap
                                                                      ((↑x.fst.length : Int) + (2 : Int))))))).length =
                                                        vw
                                                          (wl (vw x.fst (0) x.fst.length)
                                                            (IntKind.i64.wrap
                                                              ((IntKind.u64.wrap x.snd).tmod
                                                                (IntKind.u64.wrap
                                                                  (IntKind.i64.wrap
                                                                    ((↑x.fst.length : Int) + (2 : Int)))))))
                                                          (0)
                                                          (wl (vw x.fst (0) x.fst.length)
                                                              (IntKind.i64.wrap
                                                                ((IntKind.u64.wrap x.snd).tmod
                                                                  (IntKind.u64.wrap
                                                                    (IntKind.i64.wrap
                                                                      ((↑x.fst.length : Int) +
                                                                        (2 : Int))))))).length) then
                                                  ((treeOf x.fst).length = (treeOf x.fst).length ∧
                                                      TreeOk (treeOf x.fst)) ∧
                                                    0 + x.fst.length ≤ x.fst.length ∧
                                                      (inOk (vw x.fst (0) x.fst.length) ∧
                                                          (-9223372036854775808 : Int) ≤
                                                              IntKind.i64.wrap
                                                                ((IntKind.u64.wrap x.snd).tmod
                                                                  (IntKind.u64.wrap
                                                                    (IntKind.i64.wrap
                                                                      ((↑x.fst.length : Int) + (2 : Int))))) ∧
                                                            IntKind.i64.wrap
                                                                ((IntKind.u64.wrap x.snd).tmod
                                                                  (IntKind.u64.wrap
                                                                    (IntKind.i64.wrap
                                                                      ((↑x.fst.length : Int) + (2 : Int))))) ≤
                                                              (9223372036854775807 : Int)) ∧
                                                        Q
                                                          (SV.p
                                                            (PV.c
                                                              (CV.bool
                                                                (true &&
                                                                  (if
                                                                        hasB (treeOf x.fst).length
                                                                            (IntKind.i64.wrap
                                                                              ((IntKind.u64.wrap x.snd).tmod
                                                                                (IntKind.u64.wrap
                                                                                  (IntKind.i64.wrap
                                                                                    ((↑x.fst.length : Int) +
                                                                                      (2 : Int)))))) =
                                                                          true then
                                                                      dep (nodes (treeOf x.fst))
                                                                        (IntKind.i64.wrap
                                                                          ((IntKind.u64.wrap x.snd).tmod
                                                                            (IntKind.u64.wrap
                                                                              (IntKind.i64.wrap
                                                                                ((↑x.fst.length : Int) + (2 : Int))))))
                                                                    else (0 : Int)) ==
                                                                    if
                                                                        hasB (vw x.fst (0) x.fst.length).length
                                                                            (IntKind.i64.wrap
                                                                              ((IntKind.u64.wrap x.snd).tmod
                                                                                (IntKind.u64.wrap
                                                                                  (IntKind.i64.wrap
                                                                                    ((↑x.fst.length : Int) +
                                                                                      (2 : Int)))))) =
                                                                          true then
                                                                      dep (vw x.fst (0) x.fst.length)
                                                                        (IntKind.i64.wrap
                                                                          ((IntKind.u64.wrap x.snd).tmod
                                                                            (IntKind.u64.wrap
                                                                              (IntKind.i64.wrap
                                                                                ((↑x.fst.length : Int) + (2 : Int))))))
                                                                    else (0 : Int)))))
                                                          []
                                                else Q (SV.p (PV.c (CV.bool false))) [])) := by kernel_rfl

end Go.Proofs.Ytmncmmdicpcgmaa.Ch
