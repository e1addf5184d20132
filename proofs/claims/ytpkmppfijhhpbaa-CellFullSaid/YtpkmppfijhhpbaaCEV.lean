/- Statements over the abstract machine, reckoned out (chapter CE): printed by a program of this session. No condition. -/
import Derived.Test.YtpkmppfijhhpbaaCE
namespace Go.Proofs.Ytpkmppfijhhpbaa.Ch
open Go Go.Proofs Go.Proofs.Ytpkmppfijhhpbaa.Sx
set_option linter.unusedVariables false
theorem vc_in (acts : List A) (xs : List V) (x : A) (i : Nat) (us : List V) (j : Nat) (K : SS → Prop) (Q : Exit → SS → Prop) :
    (sx Try.prog (gam gLaw) noLam (lpIn (lp Try.f3 (0 : Nat)) (0 : Nat)) (3 : Nat) (stI acts xs x i us j)
  (thenQ (cq (0 : Nat) [(0 : Nat), (3 : Nat), (5 : Nat), (6 : Nat), (15 : Nat), (16 : Nat)] K)
    (cQ (0 : Nat) [(0 : Nat), (3 : Nat), (5 : Nat), (6 : Nat), (15 : Nat), (16 : Nat)] Q))) =
    (x.snd.snd.snd.length ≤ maxI →
  bif decide ((↑j : Int) < (↑x.snd.snd.snd.length : Int)) then
    (0 : Int) ≤ (↑j : Int) ∧
      (↑j : Int) < (↑x.snd.snd.snd.length : Int) ∧
        (↑j : Int).toNat < x.snd.snd.snd.length ∧
          (0 : Int) ≤ IntKind.i64.wrap (IntKind.i64.wrap (x.snd.fst - (1 : Int)) + (↑j : Int)) ∧
            IntKind.i64.wrap (IntKind.i64.wrap (x.snd.fst - (1 : Int)) + (↑j : Int)) < (↑us.length : Int) ∧
              0 + (IntKind.i64.wrap (IntKind.i64.wrap (x.snd.fst - (1 : Int)) + (↑j : Int))).toNat < us.length ∧
                K
                  { nt := 173,
                    fr :=
                      [(0, SV.p (PV.c (CV.row tA acts))),
                        (3, SV.p (PV.c (CV.ptr (0) (0)))),
                        (5, SV.p (PV.c (CV.int IntKind.i64 (↑i : Int)))),
                        (6, SV.p (PV.c (CV.ptr (2) (0)))),
                        (15, SV.p (PV.c (CV.view tV (3) (0) us.length))),
                        (16, SV.p (PV.c (CV.int IntKind.i64 (IntKind.i64.wrap ((↑j : Int) + (1 : Int))))))],
                    hp :=
                      [HB.cells (50) [CV.view tV (1) (0) xs.length], HB.row (41) tV xs,
                        HB.cells (28)
                          [CV.int IntKind.i64 x.fst, CV.int IntKind.i64 x.snd.fst, CV.int IntKind.i64 x.snd.snd.fst,
                            CV.row tV x.snd.snd.snd],
                        HB.row (41) tV
                          (us.set
                            (0 +
                              (IntKind.i64.wrap (IntKind.i64.wrap (x.snd.fst - (1 : Int)) + (↑j : Int))).toNat)
                            ((x.snd.snd.snd.getD (↑j : Int).toNat tV.dft).fst,
                              (x.snd.snd.snd.getD (↑j : Int).toNat tV.dft).snd.fst,
                              (x.snd.snd.snd.getD (↑j : Int).toNat tV.dft).snd.snd.fst,
                              (x.snd.snd.snd.getD (↑j : Int).toNat tV.dft).snd.snd.snd.fst,
                              (x.snd.snd.snd.getD (↑j : Int).toNat tV.dft).snd.snd.snd.snd))] :
                    SS }
  else
    Q (Exit.exit (3))
      { nt := 173,
        fr :=
          [(0, SV.p (PV.c (CV.row tA acts))), (3, SV.p (PV.c (CV.ptr (0) (0)))),
            (5, SV.p (PV.c (CV.int IntKind.i64 (↑i : Int)))),
            (6, SV.p (PV.c (CV.ptr (2) (0)))),
            (15, SV.p (PV.c (CV.view tV (3) (0) us.length))),
            (16, SV.p (PV.c (CV.int IntKind.i64 (↑j : Int))))],
        hp :=
          [HB.cells (50) [CV.view tV (1) (0) xs.length], HB.row (41) tV xs,
            HB.cells (28)
              [CV.int IntKind.i64 x.fst, CV.int IntKind.i64 x.snd.fst, CV.int IntKind.i64 x.snd.snd.fst,
                CV.row tV x.snd.snd.snd],
            HB.row (41) tV us] :
        SS }) := by kernel_rfl

theorem vc_exact_l (acts : List A) (xs : List V) (i : Nat) (K : SS → Prop) (Q : Exit → SS → Prop) :
    (sx Try.prog (gam gLaw) (lam [((3 : Nat), in_l)]) (lp Try.f3 (0 : Nat)) (0 : Nat) (stE acts xs i)
  (thenQ (cq (0 : Nat) [(0 : Nat), (3 : Nat), (4 : Nat), (5 : Nat)] K) (cQ (0 : Nat) [(2 : Nat)] Q))) =
    (acts.length ≤ maxI →
  bif decide ((↑i : Int) < (↑acts.length : Int)) && decide ((↑i : Int) < (60 : Int)) then
    (0 : Int) ≤ (↑i : Int) ∧
      (↑i : Int) < (↑acts.length : Int) ∧
        (↑i : Int).toNat < acts.length ∧
          bif
              decide ((20 : Nat) < List.length (acts.getD (↑i : Int).toNat tA.dft).snd.snd.snd) ||
                greatV (acts.getD (↑i : Int).toNat tA.dft).snd.snd.snd then
            Q Exit.ret { nt := 173, fr := [(2, SV.p (PV.c (CV.bool true)))], hp := [] : SS }
          else
            bif (acts.getD (↑i : Int).toNat tA.dft).fst == (1 : Int) then
              (xs.length = xs.length ∧ xs.length ≤ (65536 : Nat)) ∧
                ((65536 : Nat) < xs.length + List.length (acts.getD (↑i : Int).toNat tA.dft).snd.snd.snd →
                    0 + xs.length ≤ xs.length ∧
                      (vw xs (0) xs.length).length ≤ (65536 : Nat) ∧
                        ((65536 : Nat) <
                              (vw xs (0) xs.length).length +
                                List.length (acts.getD (↑i : Int).toNat tA.dft).snd.snd.snd →
                            False) ∧
                          ((vw xs (0) xs.length).length +
                                List.length (acts.getD (↑i : Int).toNat tA.dft).snd.snd.snd ≤
                              (65536 : Nat) →
                            Q Exit.ret
                              { nt := 173, fr := [(2, SV.p (PV.c (CV.bool false)))], hp := [] : SS })) ∧
                  (xs.length + List.length (acts.getD (↑i : Int).toNat tA.dft).snd.snd.snd ≤ (65536 : Nat) →
                    0 + xs.length ≤ xs.length ∧
                      (vw xs (0) xs.length).length ≤ (65536 : Nat) ∧
                        ((65536 : Nat) <
                              (vw xs (0) xs.length).length +
                                List.length (acts.getD (↑i : Int).toNat tA.dft).snd.snd.snd →
                            False) ∧
                          ((vw xs (0) xs.length).length +
                                List.length (acts.getD (↑i : Int).toNat tA.dft).snd.snd.snd ≤
                              (65536 : Nat) →
                            bif
                                (↑xs.length : Int) + (1 : Int) !=
                                    (↑(vw xs (0) xs.length).length : Int) + (1 : Int) ||
                                  (0 : Int) != (0 : Int) then
                              Q Exit.ret
                                { nt := 173, fr := [(2, SV.p (PV.c (CV.bool false)))], hp := [] : SS }
                            else
                              List.length
                                    (vw xs (0) xs.length ++ (acts.getD (↑i : Int).toNat tA.dft).snd.snd.snd) ≤
                                  maxI →
                                ((xs ++ (acts.getD (↑i : Int).toNat tA.dft).snd.snd.snd).length =
                                      (xs ++ (acts.getD (↑i : Int).toNat tA.dft).snd.snd.snd).length ∧
                                    (xs ++ (acts.getD (↑i : Int).toNat tA.dft).snd.snd.snd).length ≤ (65536 : Nat) ∧
                                      i64 (1 : Int) ∧
                                        i64
                                          (↑(List.length
                                                (vw xs (0) xs.length ++
                                                  (acts.getD (↑i : Int).toNat tA.dft).snd.snd.snd)) :
                                            Int)) ∧
                                  (has (xs ++ (acts.getD (↑i : Int).toNat tA.dft).snd.snd.snd).length (1 : Int)
                                          (↑(List.length
                                                (vw xs (0) xs.length ++
                                                  (acts.getD (↑i : Int).toNat tA.dft).snd.snd.snd)) :
                                            Int) =
                                        false →
                                      (xs ++ (acts.getD (↑i : Int).toNat tA.dft).snd.snd.snd).length =
                                          (xs ++ (acts.getD (↑i : Int).toNat tA.dft).snd.snd.snd).length ∧
                                        (List.length
                                              (vw xs (0) xs.length ++
                                                (acts.getD (↑i : Int).toNat tA.dft).snd.snd.snd) ≤
                                            maxI →
                                          bif
                                              (↑(xs ++ (acts.getD (↑i : Int).toNat tA.dft).snd.snd.snd).length : Int) !=
                                                  (↑(List.length
                                                        (vw xs (0) xs.length ++
                                                          (acts.getD (↑i : Int).toNat tA.dft).snd.snd.snd)) :
                                                    Int) ||
                                                (1 : Int) != (0 : Int) then
                                            Q Exit.ret
                                              { nt := 173, fr := [(2, SV.p (PV.c (CV.bool false)))],
                                                hp := [] : SS }
                                          else
                                            (0 : Nat) ≤ (0 : Nat) ∧
                                              0 +
                                                    List.length
                                                      (vw xs (0) xs.length ++
                                                        (acts.getD (↑i : Int).toNat tA.dft).snd.snd.snd) ≤
                                                  List.length
                                                    (vw xs (0) xs.length ++
                                                      (acts.getD (↑i : Int).toNat tA.dft).snd.snd.snd) ∧
                                                bif
                                                    false ||
                                                      !decide
                                                          (vw [] (0) (0) =
                                                            vw
                                                              (vw xs (0) xs.length ++
                                                                (acts.getD (↑i : Int).toNat tA.dft).snd.snd.snd)
                                                              (0)
                                                              (List.length
                                                                (vw xs (0) xs.length ++
                                                                  (acts.getD (↑i : Int).toNat
                                                                          tA.dft).snd.snd.snd))) then
                                                  Q Exit.ret
                                                    { nt := 173,
                                                      fr := [(2, SV.p (PV.c (CV.bool false)))], hp := [] : SS }
                                                else
                                                  K
                                                    { nt := 173,
                                                      fr :=
                                                        [(0, SV.p (PV.c (CV.row tA acts))),
                                                          (3, SV.p (PV.c (CV.ptr (0) (0)))),
                                                          (4,
                                                            SV.p
                                                              (PV.c
                                                                (CV.view tV (2) (0)
                                                                  (List.length
                                                                    (vw xs (0) xs.length ++
                                                                      (acts.getD (↑i : Int).toNat
                                                                              tA.dft).snd.snd.snd))))),
                                                          (5,
                                                            SV.p
                                                              (PV.c
                                                                (CV.int IntKind.i64
                                                                  (IntKind.i64.wrap ((↑i : Int) + (1 : Int))))))],
                                                      hp :=
                                                        [HB.cells (50)
                                                            [CV.view tV (1) (0)
                                                                (xs ++
                                                                    (acts.getD (↑i : Int).toNat
                                                                            tA.dft).snd.snd.snd).length],
                                                          HB.row (41) tV
                                                            (xs ++ (acts.getD (↑i : Int).toNat tA.dft).snd.snd.snd),
                                                          HB.row (41) tV
                                                            (vw xs (0) xs.length ++
                                                              (acts.getD (↑i : Int).toNat tA.dft).snd.snd.snd)] :
                                                      SS })) ∧
                                    (has (xs ++ (acts.getD (↑i : Int).toNat tA.dft).snd.snd.snd).length (1 : Int)
                                          (↑(List.length
                                                (vw xs (0) xs.length ++
                                                  (acts.getD (↑i : Int).toNat tA.dft).snd.snd.snd)) :
                                            Int) =
                                        true →
                                      (xs ++ (acts.getD (↑i : Int).toNat tA.dft).snd.snd.snd).length =
                                          (xs ++ (acts.getD (↑i : Int).toNat tA.dft).snd.snd.snd).length ∧
                                        (List.length
                                              (vw xs (0) xs.length ++
                                                (acts.getD (↑i : Int).toNat tA.dft).snd.snd.snd) ≤
                                            maxI →
                                          bif
                                              (↑(xs ++ (acts.getD (↑i : Int).toNat tA.dft).snd.snd.snd).length : Int) !=
                                                  (↑(List.length
                                                        (vw xs (0) xs.length ++
                                                          (acts.getD (↑i : Int).toNat tA.dft).snd.snd.snd)) :
                                                    Int) ||
                                                (0 : Int) != (0 : Int) then
                                            Q Exit.ret
                                              { nt := 173, fr := [(2, SV.p (PV.c (CV.bool false)))],
                                                hp := [] : SS }
                                          else
                                            0 +
                                                  (vw (xs ++ (acts.getD (↑i : Int).toNat tA.dft).snd.snd.snd) (0 : Nat)
                                                      (↑(List.length
                                                              (vw xs (0) xs.length ++
                                                                (acts.getD (↑i : Int).toNat tA.dft).snd.snd.snd)) :
                                                          Int).toNat).length ≤
                                                (vw (xs ++ (acts.getD (↑i : Int).toNat tA.dft).snd.snd.snd) (0 : Nat)
                                                    (↑(List.length
                                                            (vw xs (0) xs.length ++
                                                              (acts.getD (↑i : Int).toNat tA.dft).snd.snd.snd)) :
                                                        Int).toNat).length ∧
                                              0 +
                                                    List.length
                                                      (vw xs (0) xs.length ++
                                                        (acts.getD (↑i : Int).toNat tA.dft).snd.snd.snd) ≤
                                                  List.length
                                                    (vw xs (0) xs.length ++
                                                      (acts.getD (↑i : Int).toNat tA.dft).snd.snd.snd) ∧
                                                bif
                                                    false ||
                                                      !decide
                                                          (vw
                                                              (vw
                                                                (xs ++ (acts.getD (↑i : Int).toNat tA.dft).snd.snd.snd)
                                                                (0 : Nat)
                                                                (↑(List.length
                                                                        (vw xs (0) xs.length ++
                                                                          (acts.getD (↑i : Int).toNat
                                                                                  tA.dft).snd.snd.snd)) :
                                                                    Int).toNat)
                                                              (0)
                                                              (vw
                                                                  (xs ++
                                                                    (acts.getD (↑i : Int).toNat tA.dft).snd.snd.snd)
                                                                  (0 : Nat)
                                                                  (↑(List.length
                                                                          (vw xs (0) xs.length ++
                                                                            (acts.getD (↑i : Int).toNat
                                                                                    tA.dft).snd.snd.snd)) :
                                                                      Int).toNat).length =
                                                            vw
                                                              (vw xs (0) xs.length ++
                                                                (acts.getD (↑i : Int).toNat tA.dft).snd.snd.snd)
                                                              (0)
                                                              (List.length
                                                                (vw xs (0) xs.length ++
                                                                  (acts.getD (↑i : Int).toNat
                                                                          tA.dft).snd.snd.snd))) then
                                                  Q Exit.ret
                                                    { nt := 173,
                                                      fr := [(2, SV.p (PV.c (CV.bool false)))], hp := [] : SS }
                                                else
                                                  K
                                                    { nt := 173,
                                                      fr :=
                                                        [(0, SV.p (PV.c (CV.row tA acts))),
                                                          (3, SV.p (PV.c (CV.ptr (0) (0)))),
                                                          (4,
                                                            SV.p
                                                              (PV.c
                                                                (CV.view tV (2) (0)
                                                                  (List.length
                                                                    (vw xs (0) xs.length ++
                                                                      (acts.getD (↑i : Int).toNat
                                                                              tA.dft).snd.snd.snd))))),
                                                          (5,
                                                            SV.p
                                                              (PV.c
                                                                (CV.int IntKind.i64
                                                                  (IntKind.i64.wrap ((↑i : Int) + (1 : Int))))))],
                                                      hp :=
                                                        [HB.cells (50)
                                                            [CV.view tV (1) (0)
                                                                (xs ++
                                                                    (acts.getD (↑i : Int).toNat
                                                                            tA.dft).snd.snd.snd).length],
                                                          HB.row (41) tV
                                                            (xs ++ (acts.getD (↑i : Int).toNat tA.dft).snd.snd.snd),
                                                          HB.row (41) tV
                                                            (vw xs (0) xs.length ++
                                                              (acts.getD (↑i : Int).toNat tA.dft).snd.snd.snd)] :
                                                      SS }))))
            else
              bif (acts.getD (↑i : Int).toNat tA.dft).fst == (2 : Int) then
                (xs.length = xs.length ∧
                    xs.length ≤ (65536 : Nat) ∧
                      i64 (acts.getD (↑i : Int).toNat tA.dft).snd.fst ∧
                        i64 (acts.getD (↑i : Int).toNat tA.dft).snd.snd.fst) ∧
                  (has xs.length (acts.getD (↑i : Int).toNat tA.dft).snd.fst
                          (acts.getD (↑i : Int).toNat tA.dft).snd.snd.fst =
                        false →
                      0 + xs.length ≤ xs.length ∧
                        ((vw xs (0) xs.length).length ≤ (65536 : Nat) ∧
                            i64 (acts.getD (↑i : Int).toNat tA.dft).snd.fst ∧
                              i64 (acts.getD (↑i : Int).toNat tA.dft).snd.snd.fst) ∧
                          bif
                              !has (vw xs (0) xs.length).length (acts.getD (↑i : Int).toNat tA.dft).snd.fst
                                  (acts.getD (↑i : Int).toNat tA.dft).snd.snd.fst then
                            0 ≤ maxI →
                              K
                                { nt := 173,
                                  fr :=
                                    [(0, SV.p (PV.c (CV.row tA acts))),
                                      (3, SV.p (PV.c (CV.ptr (0) (0)))),
                                      (4, SV.p (PV.c (CV.view tV (2) (0) xs.length))),
                                      (5,
                                        SV.p (PV.c (CV.int IntKind.i64 (IntKind.i64.wrap ((↑i : Int) + (1 : Int))))))],
                                  hp :=
                                    [HB.cells (50) [CV.view tV (1) (0) xs.length],
                                      HB.row (41) tV xs, HB.row (41) tV xs] :
                                  SS }
                          else
                            (true = false →
                                (0 : Int) ≤ IntKind.i64.wrap ((acts.getD (↑i : Int).toNat tA.dft).snd.fst - (1 : Int)) ∧
                                  IntKind.i64.wrap ((acts.getD (↑i : Int).toNat tA.dft).snd.fst - (1 : Int)) ≤
                                      IntKind.i64.wrap
                                        (IntKind.i64.wrap ((acts.getD (↑i : Int).toNat tA.dft).snd.fst - (1 : Int)) +
                                          (acts.getD (↑i : Int).toNat tA.dft).snd.snd.fst) ∧
                                    IntKind.i64.wrap
                                          (IntKind.i64.wrap ((acts.getD (↑i : Int).toNat tA.dft).snd.fst - (1 : Int)) +
                                            (acts.getD (↑i : Int).toNat tA.dft).snd.snd.fst) ≤
                                        (↑xs.length : Int) ∧
                                      True) ∧
                              Q Exit.ret
                                { nt := 173, fr := [(2, SV.p (PV.c (CV.bool false)))], hp := [] :
                                  SS }) ∧
                    (has xs.length (acts.getD (↑i : Int).toNat tA.dft).snd.fst
                          (acts.getD (↑i : Int).toNat tA.dft).snd.snd.fst =
                        true →
                      0 + xs.length ≤ xs.length ∧
                        ((vw xs (0) xs.length).length ≤ (65536 : Nat) ∧
                            i64 (acts.getD (↑i : Int).toNat tA.dft).snd.fst ∧
                              i64 (acts.getD (↑i : Int).toNat tA.dft).snd.snd.fst) ∧
                          bif
                              !has (vw xs (0) xs.length).length (acts.getD (↑i : Int).toNat tA.dft).snd.fst
                                  (acts.getD (↑i : Int).toNat tA.dft).snd.snd.fst then
                            (vw xs
                                    (Int.toNat
                                      ((acts.getD (↑i : Int).toNat tA.dft).snd.fst - (1 : (AS.int IntKind.i64).T)))
                                    (Int.toNat (acts.getD (↑i : Int).toNat tA.dft).snd.snd.fst)).length ≤
                                maxI →
                              bif
                                  (↑(vw xs
                                              (Int.toNat
                                                ((acts.getD (↑i : Int).toNat tA.dft).snd.fst -
                                                  (1 : (AS.int IntKind.i64).T)))
                                              (Int.toNat (acts.getD (↑i : Int).toNat tA.dft).snd.snd.fst)).length :
                                        Int) !=
                                      (0 : Int) ||
                                    (0 : Int) != (1 : Int) then
                                Q Exit.ret
                                  { nt := 173, fr := [(2, SV.p (PV.c (CV.bool false)))], hp := [] : SS }
                              else
                                K
                                  { nt := 173,
                                    fr :=
                                      [(0, SV.p (PV.c (CV.row tA acts))),
                                        (3, SV.p (PV.c (CV.ptr (0) (0)))),
                                        (4, SV.p (PV.c (CV.view tV (2) (0) xs.length))),
                                        (5,
                                          SV.p
                                            (PV.c (CV.int IntKind.i64 (IntKind.i64.wrap ((↑i : Int) + (1 : Int))))))],
                                    hp :=
                                      [HB.cells (50) [CV.view tV (1) (0) xs.length],
                                        HB.row (41) tV xs, HB.row (41) tV xs] :
                                    SS }
                          else
                            (false = false →
                                (0 : Int) ≤ IntKind.i64.wrap ((acts.getD (↑i : Int).toNat tA.dft).snd.fst - (1 : Int)) ∧
                                  IntKind.i64.wrap ((acts.getD (↑i : Int).toNat tA.dft).snd.fst - (1 : Int)) ≤
                                      IntKind.i64.wrap
                                        (IntKind.i64.wrap ((acts.getD (↑i : Int).toNat tA.dft).snd.fst - (1 : Int)) +
                                          (acts.getD (↑i : Int).toNat tA.dft).snd.snd.fst) ∧
                                    IntKind.i64.wrap
                                          (IntKind.i64.wrap ((acts.getD (↑i : Int).toNat tA.dft).snd.fst - (1 : Int)) +
                                            (acts.getD (↑i : Int).toNat tA.dft).snd.snd.fst) ≤
                                        (↑xs.length : Int) ∧
                                      True) ∧
                              0 +
                                    (vw xs
                                        (Int.toNat
                                          ((acts.getD (↑i : Int).toNat tA.dft).snd.fst - (1 : (AS.int IntKind.i64).T)))
                                        (Int.toNat (acts.getD (↑i : Int).toNat tA.dft).snd.snd.fst)).length ≤
                                  (vw xs
                                      (Int.toNat
                                        ((acts.getD (↑i : Int).toNat tA.dft).snd.fst - (1 : (AS.int IntKind.i64).T)))
                                      (Int.toNat (acts.getD (↑i : Int).toNat tA.dft).snd.snd.fst)).length ∧
                                0 +
                                        loN
                                          (some
                                            (IntKind.i64.wrap
                                              ((acts.getD (↑i : Int).toNat tA.dft).snd.fst - (1 : Int)))) +
                                      (hiN xs.length
                                          (some
                                            (IntKind.i64.wrap
                                              (IntKind.i64.wrap
                                                  ((acts.getD (↑i : Int).toNat tA.dft).snd.fst - (1 : Int)) +
                                                (acts.getD (↑i : Int).toNat tA.dft).snd.snd.fst))) -
                                        loN
                                          (some
                                            (IntKind.i64.wrap
                                              ((acts.getD (↑i : Int).toNat tA.dft).snd.fst - (1 : Int))))) ≤
                                    xs.length ∧
                                  bif
                                      false ||
                                        !decide
                                            (vw
                                                (vw xs
                                                  (Int.toNat
                                                    ((acts.getD (↑i : Int).toNat tA.dft).snd.fst -
                                                      (1 : (AS.int IntKind.i64).T)))
                                                  (Int.toNat (acts.getD (↑i : Int).toNat tA.dft).snd.snd.fst))
                                                (0)
                                                (vw xs
                                                    (Int.toNat
                                                      ((acts.getD (↑i : Int).toNat tA.dft).snd.fst -
                                                        (1 : (AS.int IntKind.i64).T)))
                                                    (Int.toNat
                                                      (acts.getD (↑i : Int).toNat tA.dft).snd.snd.fst)).length =
                                              vw xs
                                                (0 +
                                                  loN
                                                    (some
                                                      (IntKind.i64.wrap
                                                        ((acts.getD (↑i : Int).toNat tA.dft).snd.fst - (1 : Int)))))
                                                (hiN xs.length
                                                    (some
                                                      (IntKind.i64.wrap
                                                        (IntKind.i64.wrap
                                                            ((acts.getD (↑i : Int).toNat tA.dft).snd.fst - (1 : Int)) +
                                                          (acts.getD (↑i : Int).toNat tA.dft).snd.snd.fst))) -
                                                  loN
                                                    (some
                                                      (IntKind.i64.wrap
                                                        ((acts.getD (↑i : Int).toNat tA.dft).snd.fst -
                                                          (1 : Int)))))) then
                                    Q Exit.ret
                                      { nt := 173, fr := [(2, SV.p (PV.c (CV.bool false)))], hp := [] :
                                        SS }
                                  else
                                    xs.length ≤ maxI →
                                      (xs.length = xs.length ∧
                                          xs.length ≤ (65536 : Nat) ∧ i64 (1 : Int) ∧ i64 (↑xs.length : Int)) ∧
                                        (has xs.length (1 : Int) (↑xs.length : Int) = false →
                                            xs.length = xs.length ∧
                                              (xs.length ≤ maxI →
                                                bif
                                                    (↑xs.length : Int) != (↑xs.length : Int) ||
                                                      (1 : Int) != (0 : Int) then
                                                  Q Exit.ret
                                                    { nt := 173,
                                                      fr := [(2, SV.p (PV.c (CV.bool false)))], hp := [] : SS }
                                                else
                                                  (0 : Nat) ≤ (0 : Nat) ∧
                                                    0 + xs.length ≤ xs.length ∧
                                                      bif
                                                          false ||
                                                            !decide
                                                                (vw [] (0) (0) =
                                                                  vw xs (0) xs.length) then
                                                        Q Exit.ret
                                                          { nt := 173,
                                                            fr := [(2, SV.p (PV.c (CV.bool false)))], hp := [] :
                                                            SS }
                                                      else
                                                        K
                                                          { nt := 173,
                                                            fr :=
                                                              [(0, SV.p (PV.c (CV.row tA acts))),
                                                                (3,
                                                                  SV.p (PV.c (CV.ptr (0) (0)))),
                                                                (4,
                                                                  SV.p
                                                                    (PV.c
                                                                      (CV.view tV (2) (0) xs.length))),
                                                                (5,
                                                                  SV.p
                                                                    (PV.c
                                                                      (CV.int IntKind.i64
                                                                        (IntKind.i64.wrap ((↑i : Int) + (1 : Int))))))],
                                                            hp :=
                                                              [HB.cells (50)
                                                                  [CV.view tV (1) (0) xs.length],
                                                                HB.row (41) tV xs, HB.row (41) tV xs] :
                                                            SS })) ∧
                                          (has xs.length (1 : Int) (↑xs.length : Int) = true →
                                            xs.length = xs.length ∧
                                              (xs.length ≤ maxI →
                                                bif
                                                    (↑xs.length : Int) != (↑xs.length : Int) ||
                                                      (0 : Int) != (0 : Int) then
                                                  Q Exit.ret
                                                    { nt := 173,
                                                      fr := [(2, SV.p (PV.c (CV.bool false)))], hp := [] : SS }
                                                else
                                                  0 + (vw xs (0 : Nat) (↑xs.length : Int).toNat).length ≤
                                                      (vw xs (0 : Nat) (↑xs.length : Int).toNat).length ∧
                                                    0 + xs.length ≤ xs.length ∧
                                                      bif
                                                          false ||
                                                            !decide
                                                                (vw (vw xs (0 : Nat) (↑xs.length : Int).toNat)
                                                                    (0)
                                                                    (vw xs (0 : Nat) (↑xs.length : Int).toNat).length =
                                                                  vw xs (0) xs.length) then
                                                        Q Exit.ret
                                                          { nt := 173,
                                                            fr := [(2, SV.p (PV.c (CV.bool false)))], hp := [] :
                                                            SS }
                                                      else
                                                        K
                                                          { nt := 173,
                                                            fr :=
                                                              [(0, SV.p (PV.c (CV.row tA acts))),
                                                                (3,
                                                                  SV.p (PV.c (CV.ptr (0) (0)))),
                                                                (4,
                                                                  SV.p
                                                                    (PV.c
                                                                      (CV.view tV (2) (0) xs.length))),
                                                                (5,
                                                                  SV.p
                                                                    (PV.c
                                                                      (CV.int IntKind.i64
                                                                        (IntKind.i64.wrap ((↑i : Int) + (1 : Int))))))],
                                                            hp :=
                                                              [HB.cells (50)
                                                                  [CV.view tV (1) (0) xs.length],
                                                                HB.row (41) tV xs, HB.row (41) tV xs] :
                                                            SS })))
              else
                (xs.length = xs.length ∧ xs.length ≤ (65536 : Nat) ∧ i64 (acts.getD (↑i : Int).toNat tA.dft).snd.fst) ∧
                  (has xs.length (acts.getD (↑i : Int).toNat tA.dft).snd.fst
                          (↑(List.length (acts.getD (↑i : Int).toNat tA.dft).snd.snd.snd) : Int) =
                        false →
                      List.length (acts.getD (↑i : Int).toNat tA.dft).snd.snd.snd ≤ maxI →
                        0 + xs.length ≤ xs.length ∧
                          ((vw xs (0) xs.length).length ≤ (65536 : Nat) ∧
                              i64 (acts.getD (↑i : Int).toNat tA.dft).snd.fst ∧
                                i64 (↑(List.length (acts.getD (↑i : Int).toNat tA.dft).snd.snd.snd) : Int)) ∧
                            bif
                                !has (vw xs (0) xs.length).length (acts.getD (↑i : Int).toNat tA.dft).snd.fst
                                    (↑(List.length (acts.getD (↑i : Int).toNat tA.dft).snd.snd.snd) : Int) then
                              K
                                { nt := 173,
                                  fr :=
                                    [(0, SV.p (PV.c (CV.row tA acts))),
                                      (3, SV.p (PV.c (CV.ptr (0) (0)))),
                                      (4, SV.p (PV.c (CV.view tV (2) (0) xs.length))),
                                      (5,
                                        SV.p (PV.c (CV.int IntKind.i64 (IntKind.i64.wrap ((↑i : Int) + (1 : Int))))))],
                                  hp :=
                                    [HB.cells (50) [CV.view tV (1) (0) xs.length],
                                      HB.row (41) tV xs, HB.row (41) tV xs] :
                                  SS }
                            else
                              Q Exit.ret
                                { nt := 173, fr := [(2, SV.p (PV.c (CV.bool false)))], hp := [] :
                                  SS }) ∧
                    (has xs.length (acts.getD (↑i : Int).toNat tA.dft).snd.fst
                          (↑(List.length (acts.getD (↑i : Int).toNat tA.dft).snd.snd.snd) : Int) =
                        true →
                      List.length (acts.getD (↑i : Int).toNat tA.dft).snd.snd.snd ≤ maxI →
                        0 + xs.length ≤ xs.length ∧
                          ((vw xs (0) xs.length).length ≤ (65536 : Nat) ∧
                              i64 (acts.getD (↑i : Int).toNat tA.dft).snd.fst ∧
                                i64 (↑(List.length (acts.getD (↑i : Int).toNat tA.dft).snd.snd.snd) : Int)) ∧
                            bif
                                !has (vw xs (0) xs.length).length (acts.getD (↑i : Int).toNat tA.dft).snd.fst
                                    (↑(List.length (acts.getD (↑i : Int).toNat tA.dft).snd.snd.snd) : Int) then
                              Q Exit.ret
                                { nt := 173, fr := [(2, SV.p (PV.c (CV.bool false)))], hp := [] : SS }
                            else
                              0 + xs.length ≤ xs.length ∧
                                (0 : Nat) ≤ (0 : Nat) ∧
                                  (vw [] (0 : Nat) (0 : Nat) ++ vw xs (0) xs.length).length * (48 : Nat) ≤
                                      (140737488355328 : Nat) ∧
                                    ∃ (x : InD),
                                      { nt := 173,
                                            fr :=
                                              [(0, SV.p (PV.c (CV.row tA acts))),
                                                (3, SV.p (PV.c (CV.ptr (0) (0)))),
                                                (5, SV.p (PV.c (CV.int IntKind.i64 (↑i : Int)))),
                                                (6, SV.p (PV.c (CV.ptr (2) (0)))),
                                                (15,
                                                  SV.p
                                                    (PV.c
                                                      (CV.view
                                                        ((Ty.int IntKind.i64).prod
                                                          ((Ty.int IntKind.i64).prod
                                                            ((Ty.int IntKind.i64).prod
                                                              ((Ty.int IntKind.i64).prod Ty.str))))
                                                        (3) (0)
                                                        (vw [] (0 : Nat) (0 : Nat) ++
                                                            vw xs (0) xs.length).length))),
                                                (16, SV.p (PV.c (CV.int IntKind.i64 (0 : Int))))],
                                            hp :=
                                              [HB.cells (50)
                                                  [CV.view tV (1) (0)
                                                      (splice xs
                                                          (Int.toNat
                                                            ((acts.getD (↑i : Int).toNat tA.dft).snd.fst -
                                                              (1 : (AS.int IntKind.i64).T)))
                                                          (acts.getD (↑i : Int).toNat tA.dft).snd.snd.snd).length],
                                                HB.row (41) tV
                                                  (splice xs
                                                    (Int.toNat
                                                      ((acts.getD (↑i : Int).toNat tA.dft).snd.fst -
                                                        (1 : (AS.int IntKind.i64).T)))
                                                    (acts.getD (↑i : Int).toNat tA.dft).snd.snd.snd),
                                                HB.cells (28)
                                                  [CV.int IntKind.i64 (acts.getD (↑i : Int).toNat tA.dft).fst,
                                                    CV.int IntKind.i64 (acts.getD (↑i : Int).toNat tA.dft).snd.fst,
                                                    CV.int IntKind.i64 (acts.getD (↑i : Int).toNat tA.dft).snd.snd.fst,
                                                    CV.row tV (acts.getD (↑i : Int).toNat tA.dft).snd.snd.snd],
                                                HB.row (41)
                                                  ((Ty.int IntKind.i64).prod
                                                    ((Ty.int IntKind.i64).prod
                                                      ((Ty.int IntKind.i64).prod ((Ty.int IntKind.i64).prod Ty.str))))
                                                  (vw [] (0 : Nat) (0 : Nat) ++ vw xs (0) xs.length)] :
                                            SS } =
                                          { nt := 173,
                                            fr :=
                                              [(0, SV.p (PV.c (CV.row tA x.acts))),
                                                (3, SV.p (PV.c (CV.ptr (0) (0)))),
                                                (5, SV.p (PV.c (CV.int IntKind.i64 (↑x.i : Int)))),
                                                (6, SV.p (PV.c (CV.ptr (2) (0)))),
                                                (15,
                                                  SV.p (PV.c (CV.view tV (3) (0) x.us.length))),
                                                (16, SV.p (PV.c (CV.int IntKind.i64 (↑(0 : Nat) : Int))))],
                                            hp :=
                                              [HB.cells (50) [CV.view tV (1) (0) x.xs.length],
                                                HB.row (41) tV x.xs,
                                                HB.cells (28)
                                                  [CV.int IntKind.i64 x.x.fst, CV.int IntKind.i64 x.x.snd.fst,
                                                    CV.int IntKind.i64 x.x.snd.snd.fst, CV.row tV x.x.snd.snd.snd],
                                                HB.row (41) tV x.us] :
                                            SS } ∧
                                        (has x.us.length x.x.snd.fst (↑x.x.snd.snd.snd.length : Int) = true ∧
                                            x.us.length ≤ (65536 : Nat) ∧ i64 x.x.snd.fst) ∧
                                          ((splice x.us (x.x.snd.fst - (1 : Int)).toNat x.x.snd.snd.snd).length ≤ maxI →
                                            (x.xs.length = x.xs.length ∧
                                                x.xs.length ≤ (65536 : Nat) ∧
                                                  i64 (1 : Int) ∧
                                                    i64
                                                      (↑(splice x.us (x.x.snd.fst - (1 : Int)).toNat
                                                              x.x.snd.snd.snd).length :
                                                        Int)) ∧
                                              (has x.xs.length (1 : Int)
                                                      (↑(splice x.us (x.x.snd.fst - (1 : Int)).toNat
                                                              x.x.snd.snd.snd).length :
                                                        Int) =
                                                    false →
                                                  x.xs.length = x.xs.length ∧
                                                    ((splice x.us (x.x.snd.fst - (1 : Int)).toNat
                                                            x.x.snd.snd.snd).length ≤
                                                        maxI →
                                                      bif
                                                          (↑x.xs.length : Int) !=
                                                              (↑(splice x.us (x.x.snd.fst - (1 : Int)).toNat
                                                                      x.x.snd.snd.snd).length :
                                                                Int) ||
                                                            (1 : Int) != (0 : Int) then
                                                        Q Exit.ret
                                                          { nt := 173,
                                                            fr := [(2, SV.p (PV.c (CV.bool false)))], hp := [] :
                                                            SS }
                                                      else
                                                        (0 : Nat) ≤ (0 : Nat) ∧
                                                          0 +
                                                                (splice x.us (x.x.snd.fst - (1 : Int)).toNat
                                                                    x.x.snd.snd.snd).length ≤
                                                              (splice x.us (x.x.snd.fst - (1 : Int)).toNat
                                                                  x.x.snd.snd.snd).length ∧
                                                            bif
                                                                false ||
                                                                  !decide
                                                                      (vw [] (0) (0) =
                                                                        vw
                                                                          (splice x.us (x.x.snd.fst - (1 : Int)).toNat
                                                                            x.x.snd.snd.snd)
                                                                          (0)
                                                                          (splice x.us (x.x.snd.fst - (1 : Int)).toNat
                                                                              x.x.snd.snd.snd).length) then
                                                              Q Exit.ret
                                                                { nt := 173,
                                                                  fr := [(2, SV.p (PV.c (CV.bool false)))],
                                                                  hp := [] : SS }
                                                            else
                                                              K
                                                                { nt := 173,
                                                                  fr :=
                                                                    [(0, SV.p (PV.c (CV.row tA x.acts))),
                                                                      (3,
                                                                        SV.p (PV.c (CV.ptr (0) (0)))),
                                                                      (4,
                                                                        SV.p
                                                                          (PV.c
                                                                            (CV.view tV (2) (0)
                                                                              (splice x.us
                                                                                  (x.x.snd.fst - (1 : Int)).toNat
                                                                                  x.x.snd.snd.snd).length))),
                                                                      (5,
                                                                        SV.p
                                                                          (PV.c
                                                                            (CV.int IntKind.i64
                                                                              (IntKind.i64.wrap
                                                                                ((↑x.i : Int) + (1 : Int))))))],
                                                                  hp :=
                                                                    [HB.cells (50)
                                                                        [CV.view tV (1) (0)
                                                                            x.xs.length],
                                                                      HB.row (41) tV x.xs,
                                                                      HB.row (41) tV
                                                                        (splice x.us (x.x.snd.fst - (1 : Int)).toNat
                                                                          x.x.snd.snd.snd)] :
                                                                  SS })) ∧
                                                (has x.xs.length (1 : Int)
                                                      (↑(splice x.us (x.x.snd.fst - (1 : Int)).toNat
                                                              x.x.snd.snd.snd).length :
                                                        Int) =
                                                    true →
                                                  x.xs.length = x.xs.length ∧
                                                    ((splice x.us (x.x.snd.fst - (1 : Int)).toNat
                                                            x.x.snd.snd.snd).length ≤
                                                        maxI →
                                                      bif
                                                          (↑x.xs.length : Int) !=
                                                              (↑(splice x.us (x.x.snd.fst - (1 : Int)).toNat
                                                                      x.x.snd.snd.snd).length :
                                                                Int) ||
                                                            (0 : Int) != (0 : Int) then
                                                        Q Exit.ret
                                                          { nt := 173,
                                                            fr := [(2, SV.p (PV.c (CV.bool false)))], hp := [] :
                                                            SS }
                                                      else
                                                        0 +
                                                              (vw x.xs (0 : Nat)
                                                                  (↑(splice x.us (x.x.snd.fst - (1 : Int)).toNat
                                                                            x.x.snd.snd.snd).length :
                                                                      Int).toNat).length ≤
                                                            (vw x.xs (0 : Nat)
                                                                (↑(splice x.us (x.x.snd.fst - (1 : Int)).toNat
                                                                          x.x.snd.snd.snd).length :
                                                                    Int).toNat).length ∧
                                                          0 +
                                                                (splice x.us (x.x.snd.fst - (1 : Int)).toNat
                                                                    x.x.snd.snd.snd).length ≤
                                                              (splice x.us (x.x.snd.fst - (1 : Int)).toNat
                                                                  x.x.snd.snd.snd).length ∧
                                                            bif
                                                                false ||
                                                                  !decide
                                                                      (vw
                                                                          (vw x.xs (0 : Nat)
                                                                            (↑(splice x.us
                                                                                      (x.x.snd.fst - (1 : Int)).toNat
                                                                                      x.x.snd.snd.snd).length :
                                                                                Int).toNat)
                                                                          (0)
                                                                          (vw x.xs (0 : Nat)
                                                                              (↑(splice x.us
                                                                                        (x.x.snd.fst - (1 : Int)).toNat
                                                                                        x.x.snd.snd.snd).length :
                                                                                  Int).toNat).length =
                                                                        vw
                                                                          (splice x.us (x.x.snd.fst - (1 : Int)).toNat
                                                                            x.x.snd.snd.snd)
                                                                          (0)
                                                                          (splice x.us (x.x.snd.fst - (1 : Int)).toNat
                                                                              x.x.snd.snd.snd).length) then
                                                              Q Exit.ret
                                                                { nt := 173,
                                                                  fr := [(2, SV.p (PV.c (CV.bool false)))],
                                                                  hp := [] : SS }
                                                            else
                                                              K
                                                                { nt := 173,
                                                                  fr :=
                                                                    [(0, SV.p (PV.c (CV.row tA x.acts))),
                                                                      (3,
                                                                        SV.p (PV.c (CV.ptr (0) (0)))),
                                                                      (4,
                                                                        SV.p
                                                                          (PV.c
                                                                            (CV.view tV (2) (0)
                                                                              (splice x.us
                                                                                  (x.x.snd.fst - (1 : Int)).toNat
                                                                                  x.x.snd.snd.snd).length))),
                                                                      (5,
                                                                        SV.p
                                                                          (PV.c
                                                                            (CV.int IntKind.i64
                                                                              (IntKind.i64.wrap
                                                                                ((↑x.i : Int) + (1 : Int))))))],
                                                                  hp :=
                                                                    [HB.cells (50)
                                                                        [CV.view tV (1) (0)
                                                                            x.xs.length],
                                                                      HB.row (41) tV x.xs,
                                                                      HB.row (41) tV
                                                                        (splice x.us (x.x.snd.fst - (1 : Int)).toNat
                                                                          x.x.snd.snd.snd)] :
                                                                  SS }))))
  else Q (Exit.exit (0)) { nt := 173, fr := [], hp := [] : SS }) := by kernel_rfl

theorem vc_exact (acts : List A) (Q : SV → List HB → Prop) :
    (body Try.prog (gam gLaw) (lam [((0 : Nat), exact_l)]) Try.f3 [PV.c (CV.row tA acts)] [] Q) =
    (∃ (x : List A),
  { nt := 173,
        fr :=
          [(0, SV.p (PV.c (CV.row tA acts))), (3, SV.p (PV.c (CV.ptr (0) (0)))),
            (4,
              SV.p
                (PV.c
                  (CV.view
                    ((Ty.int IntKind.i64).prod
                      ((Ty.int IntKind.i64).prod ((Ty.int IntKind.i64).prod ((Ty.int IntKind.i64).prod Ty.str))))
                    (2) (0) (0)))),
            (5, SV.p (PV.c (CV.int IntKind.i64 (0 : Int))))],
        hp :=
          [HB.cells (50) [CV.view tV (1) (0) (0)], HB.row (41) tV [],
            HB.row (41)
              ((Ty.int IntKind.i64).prod
                ((Ty.int IntKind.i64).prod ((Ty.int IntKind.i64).prod ((Ty.int IntKind.i64).prod Ty.str))))
              []] :
        SS } =
      { nt := 173,
        fr :=
          [(0, SV.p (PV.c (CV.row tA x))), (3, SV.p (PV.c (CV.ptr (0) (0)))),
            (4, SV.p (PV.c (CV.view tV (2) (0) (0)))),
            (5, SV.p (PV.c (CV.int IntKind.i64 (↑(0 : Nat) : Int))))],
        hp :=
          [HB.cells (50) [CV.view tV (1) (0) (0)], HB.row (41) tV [],
            HB.row (41) tV []] :
        SS } ∧
    (∀ (x_1 : A), x_1 ∈ x → i64 x_1.snd.fst ∧ i64 x_1.snd.snd.fst) ∧
      Q (SV.p (PV.c (CV.bool true))) [] ∧ Q (SV.p (PV.c (CV.bool true))) []) := by kernel_rfl

end Go.Proofs.Ytpkmppfijhhpbaa.Ch
