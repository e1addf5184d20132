/- Statements over the abstract machine, reckoned out (chapter CC): printed by a program of this session. No condition. -/
import Derived.Test.YtpkmppfijhhpbaaCC
namespace Go.Proofs.Ytpkmppfijhhpbaa.Ch
open Go Go.Proofs Go.Proofs.Ytpkmppfijhhpbaa.Sx
set_option linter.unusedVariables false
theorem vc_same (xs : List V) (ys : List V) (Q : SV → List HB → Prop) :
    (body Try.prog (gam []) (lam [(0, same_l)]) Try.f13 [PV.c (CV.row tV xs), PV.c (CV.row tV ys)] [] Q) =
    (xs.length ≤ maxI →
  ys.length ≤ maxI →
    bif (↑xs.length : Int) != (↑ys.length : Int) then Q (SV.p (PV.c (CV.bool false))) []
    else
      ∃ (x : List V × List V),
        { nt := 26,
              fr :=
                [(0, SV.p (PV.c (CV.row tV xs))), (1, SV.p (PV.c (CV.row tV ys))),
                  (5, SV.p (PV.c (CV.int IntKind.i64 0)))],
              hp := [] : SS } =
            { nt := 26,
              fr :=
                [(0, SV.p (PV.c (CV.row tV x.fst))), (1, SV.p (PV.c (CV.row tV x.snd))),
                  (5, SV.p (PV.c (CV.int IntKind.i64 (↑0 : Int))))],
              hp := [] : SS } ∧
          (x.fst.length = x.snd.length ∧ x.fst.length ≤ maxI) ∧
            (x.fst = x.snd → Q (SV.p (PV.c (CV.bool true))) []) ∧ (x.fst ≠ x.snd → Q (SV.p (PV.c (CV.bool false))) [])) := by kernel_rfl

theorem vc_same_l (xs : List V) (ys : List V) (i : Nat) (K : SS → Prop) (Q : Exit → SS → Prop) :
    (sx Try.prog (gam []) noLam (lp Try.f13 0) 0 (stSame xs ys i) (thenQ (cq 0 [0, 1, 5] K) (cQ 0 [4] Q))) =
    (xs.length ≤ maxI →
  bif decide ((↑i : Int) < (↑xs.length : Int)) then
    0 ≤ (↑i : Int) ∧
      (↑i : Int) < (↑xs.length : Int) ∧
        (↑i : Int).toNat < xs.length ∧
          0 ≤ (↑i : Int) ∧
            (↑i : Int) < (↑ys.length : Int) ∧
              (↑i : Int).toNat < ys.length ∧
                bif
                    !((xs.getD (↑i : Int).toNat tV.dft).fst == (ys.getD (↑i : Int).toNat tV.dft).fst &&
                        ((xs.getD (↑i : Int).toNat tV.dft).snd.fst == (ys.getD (↑i : Int).toNat tV.dft).snd.fst &&
                          ((xs.getD (↑i : Int).toNat tV.dft).snd.snd.fst ==
                              (ys.getD (↑i : Int).toNat tV.dft).snd.snd.fst &&
                            ((xs.getD (↑i : Int).toNat tV.dft).snd.snd.snd.fst ==
                                (ys.getD (↑i : Int).toNat tV.dft).snd.snd.snd.fst &&
                              (strEq (xs.getD (↑i : Int).toNat tV.dft).snd.snd.snd.snd
                                  (ys.getD (↑i : Int).toNat tV.dft).snd.snd.snd.snd &&
                                true))))) then
                  Q Exit.ret { nt := 26, fr := [(4, SV.p (PV.c (CV.bool false)))], hp := [] : SS }
                else
                  K
                    { nt := 26,
                      fr :=
                        [(0, SV.p (PV.c (CV.row tV xs))), (1, SV.p (PV.c (CV.row tV ys))),
                          (5, SV.p (PV.c (CV.int IntKind.i64 (IntKind.i64.wrap ((↑i : Int) + 1)))))],
                      hp := [] : SS }
  else Q (Exit.exit 0) { nt := 26, fr := [], hp := [] : SS }) := by kernel_rfl

theorem vc_great (x : A) (Q : SV → List HB → Prop) :
    (body Try.prog (gam []) (lam [(0, great_l)]) Try.f8 [PV.agg (toCV tA x)] [] Q) =
    (List.length x.snd.snd.snd ≤ maxI →
  bif decide ((↑(List.length x.snd.snd.snd) : Int) > 20) then Q (SV.p (PV.c (CV.bool true))) []
  else
    ∃ (x_1 : A),
      { nt := 23, fr := [(1, SV.p (PV.c (CV.ptr 0 0))), (3, SV.p (PV.c (CV.int IntKind.i64 0)))],
            hp :=
              [HB.cells 28
                  [CV.int IntKind.i64 x.fst, CV.int IntKind.i64 x.snd.fst, CV.int IntKind.i64 x.snd.snd.fst,
                    CV.row tV x.snd.snd.snd]] :
            SS } =
          { nt := 23, fr := [(1, SV.p (PV.c (CV.ptr 0 0))), (3, SV.p (PV.c (CV.int IntKind.i64 (↑0 : Int))))],
            hp :=
              [HB.cells 28
                  [CV.int IntKind.i64 x_1.fst, CV.int IntKind.i64 x_1.snd.fst, CV.int IntKind.i64 x_1.snd.snd.fst,
                    CV.row tV x_1.snd.snd.snd]] :
            SS } ∧
        x_1.snd.snd.snd.length ≤ 20 ∧
          (greatV x_1.snd.snd.snd = false → Q (SV.p (PV.c (CV.bool false))) []) ∧
            (greatV x_1.snd.snd.snd = true → Q (SV.p (PV.c (CV.bool true))) [])) := by kernel_rfl

theorem vc_great_l (x : A) (i : Nat) (K : SS → Prop) (Q : Exit → SS → Prop) :
    (sx Try.prog (gam []) noLam (lp Try.f8 0) 0 (stGreat x i) (thenQ (cq 0 [1, 3] K) (cQ 0 [2] Q))) =
    (x.snd.snd.snd.length ≤ maxI →
  bif decide ((↑i : Int) < (↑x.snd.snd.snd.length : Int)) then
    0 ≤ (↑i : Int) ∧
      (↑i : Int) < (↑x.snd.snd.snd.length : Int) ∧
        (↑i : Int).toNat < x.snd.snd.snd.length ∧
          (ByteArray.size (x.snd.snd.snd.getD (↑i : Int).toNat tV.dft).snd.snd.snd.snd ≤ maxI →
            bif
                decide
                  ((↑(ByteArray.size (x.snd.snd.snd.getD (↑i : Int).toNat tV.dft).snd.snd.snd.snd) : Int) > 100) then
              Q Exit.ret { nt := 23, fr := [(2, SV.p (PV.c (CV.bool true)))], hp := [] : SS }
            else
              K
                { nt := 23,
                  fr :=
                    [(1, SV.p (PV.c (CV.ptr 0 0))),
                      (3, SV.p (PV.c (CV.int IntKind.i64 (IntKind.i64.wrap ((↑i : Int) + 1)))))],
                  hp :=
                    [HB.cells 28
                        [CV.int IntKind.i64 x.fst, CV.int IntKind.i64 x.snd.fst, CV.int IntKind.i64 x.snd.snd.fst,
                          CV.row tV x.snd.snd.snd]] :
                  SS })
  else Q (Exit.exit 0) { nt := 23, fr := [], hp := [] : SS }) := by kernel_rfl

theorem vc_rmake (xs : List V) (ys : List V) (Q : SV → List HB → Prop) :
    (body Try.prog (gam []) noLam Try.f10 [PV.c (CV.row tV xs), PV.c (CV.row tV ys)] [] Q) =
    (ys.length ≤ maxI →
  xs.length ≤ maxI →
    bif decide ((↑ys.length : Int) > IntKind.i64.wrap (65536 - (↑xs.length : Int))) then
      Q (SV.tup [PV.c (CV.row tV xs), PV.c (CV.int IntKind.i64 0), PV.c (CV.int IntKind.i64 14)]) []
    else
      0 ≤ 0 ∧
        (vw [] 0 0 ++ xs).length * 48 ≤ 140737488355328 ∧
          0 + (vw [] 0 0 ++ xs).length ≤ (vw [] 0 0 ++ xs).length ∧
            (vw (vw [] 0 0 ++ xs) 0 (vw [] 0 0 ++ xs).length ++ ys).length * 48 ≤ 140737488355328 ∧
              (xs.length ≤ maxI →
                Q
                  (SV.tup
                    [PV.c
                        (CV.view
                          ((Ty.int IntKind.i64).prod
                            ((Ty.int IntKind.i64).prod ((Ty.int IntKind.i64).prod ((Ty.int IntKind.i64).prod Ty.str))))
                          0 0 (vw (vw [] 0 0 ++ xs) 0 (vw [] 0 0 ++ xs).length ++ ys).length),
                      PV.c (CV.int IntKind.i64 (IntKind.i64.wrap ((↑xs.length : Int) + 1))),
                      PV.c (CV.int IntKind.i64 0)])
                  [HB.row 41
                      ((Ty.int IntKind.i64).prod
                        ((Ty.int IntKind.i64).prod ((Ty.int IntKind.i64).prod ((Ty.int IntKind.i64).prod Ty.str))))
                      (vw (vw [] 0 0 ++ xs) 0 (vw [] 0 0 ++ xs).length ++ ys)])) := by kernel_rfl

theorem vc_has (xs : List V) (at_ : Int) (k : Int) (Q : SV → List HB → Prop) :
    (body Try.prog (gam []) noLam Try.f12 [PV.c (CV.row tV xs), ti at_, ti k] [] Q) =
    (Q
  (SV.p
    (PV.c
      (CV.bool
        (decide (at_ ≥ 1) && decide (k ≥ 0) && decide (k ≤ (↑xs.length : Int)) &&
          decide (IntKind.i64.wrap (at_ - 1) ≤ IntKind.i64.wrap ((↑xs.length : Int) - k))))))
  []) := by kernel_rfl

end Go.Proofs.Ytpkmppfijhhpbaa.Ch
