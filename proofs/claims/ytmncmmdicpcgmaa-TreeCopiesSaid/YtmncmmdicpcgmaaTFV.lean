/- Statements over the abstract machine, reckoned out: printed by a program of this session. No condition. -/
import Derived.Test.YtmncmmdicpcgmaaTF
namespace Go.Proofs.Ytmncmmdicpcgmaa.Ch
open Go Go.Proofs Go.Proofs.Ytmncmmdicpcgmaa.Sx
set_option linter.unusedVariables false
theorem vc_great_l (l : List Nd) (i : Nat) (K : SS → Prop) (Q : Exit → SS → Prop) :
    (sx Try.prog (gam []) noLam (lp Try.f8 (0 : Nat)) (0 : Nat) (stGreat l i)
  (thenQ (cq (0 : Nat) [(0 : Nat), (3 : Nat)] K) (cQE (0 : Nat) [] [(2 : Nat)] Q))) =
    (l.length ≤ maxI →
  bif decide ((↑i : Int) < (↑l.length : Int)) then
    (0 : Int) ≤ (↑i : Int) ∧
      (↑i : Int) < (↑l.length : Int) ∧
        (↑i : Int).toNat < l.length ∧
          (List.length (l.getD (↑i : Int).toNat tN.dft).snd.snd.snd ≤ maxI →
            (decide ((↑(List.length (l.getD (↑i : Int).toNat tN.dft).snd.snd.snd) : Int) > (20 : Int)) = false →
                (0 : Int) ≤ (↑i : Int) ∧ (↑i : Int) < (↑l.length : Int) ∧ True) ∧
              (decide ((↑(List.length (l.getD (↑i : Int).toNat tN.dft).snd.snd.snd) : Int) > (20 : Int)) = false →
                  (↑i : Int).toNat < l.length ∧ True) ∧
                bif
                    decide ((↑(List.length (l.getD (↑i : Int).toNat tN.dft).snd.snd.snd) : Int) > (20 : Int)) ||
                      decide ((↑(ByteArray.size (l.getD (↑i : Int).toNat tN.dft).snd.snd.fst) : Int) > (200 : Int)) then
                  Q Exit.ret { nt := 29, fr := [(2, SV.p (PV.c (CV.bool true)))], hp := [] : SS }
                else
                  K
                    { nt := 29,
                      fr :=
                        [(0, SV.p (PV.c (CV.row tN l))),
                          (3, SV.p (PV.c (CV.int IntKind.i64 (IntKind.i64.wrap ((↑i : Int) + (1 : Int))))))],
                      hp := [] : SS })
  else Q (Exit.exit (0)) { nt := 29, fr := [], hp := [] : SS }) := by kernel_rfl

theorem vc_great (l : List Nd) (Q : SV → List HB → Prop) :
    (body Try.prog (gam []) (lam [((0 : Nat), great_l)]) Try.f8 [PV.c (CV.row tN l)] [] Q) =
    (l.length ≤ maxI →
  bif decide ((↑l.length : Int) > (60 : Int)) then Q (SV.p (PV.c (CV.bool true))) []
  else
    ∃ (x : List Nd),
      { nt := 29,
            fr := [(0, SV.p (PV.c (CV.row tN l))), (3, SV.p (PV.c (CV.int IntKind.i64 (0 : Int))))],
            hp := [] : SS } =
          { nt := 29,
            fr :=
              [(0, SV.p (PV.c (CV.row tN x))),
                (3, SV.p (PV.c (CV.int IntKind.i64 (↑(0 : Nat) : Int))))],
            hp := [] : SS } ∧
        x.length ≤ (60 : Nat) ∧
          (x.any greatN = false → Q (SV.p (PV.c (CV.bool false))) []) ∧
            (x.any greatN = true → Q (SV.p (PV.c (CV.bool true))) [])) := by kernel_rfl

theorem vc_good_l (n : Nd) (hv : Nat) (i : Nat) (K : SS → Prop) (Q : Exit → SS → Prop) :
    (sx Try.prog (gam []) noLam (lp Try.f23 (0 : Nat)) (0 : Nat) (stGood n hv i)
  (thenQ (cq (0 : Nat) [(1 : Nat), (2 : Nat), (5 : Nat)] K) (cQE (0 : Nat) [] [(4 : Nat)] Q))) =
    (List.length n.snd.snd.snd ≤ maxI →
  bif decide ((↑i : Int) < (↑(List.length n.snd.snd.snd) : Int)) then
    (0 : Int) ≤ (↑i : Int) ∧
      (↑i : Int) < (↑(List.length n.snd.snd.snd) : Int) ∧
        (↑i : Int).toNat < List.length n.snd.snd.snd ∧
          (decide (List.getD n.snd.snd.snd (↑i : Int).toNat tI.dft < (0 : Int)) = false →
              (0 : Int) ≤ (↑i : Int) ∧ (↑i : Int) < (↑(List.length n.snd.snd.snd) : Int) ∧ True) ∧
            (decide (List.getD n.snd.snd.snd (↑i : Int).toNat tI.dft < (0 : Int)) = false →
                (↑i : Int).toNat < List.length n.snd.snd.snd ∧ True) ∧
              bif
                  decide (List.getD n.snd.snd.snd (↑i : Int).toNat tI.dft < (0 : Int)) ||
                    decide (List.getD n.snd.snd.snd (↑i : Int).toNat tI.dft > (↑hv : Int)) then
                Q Exit.ret { nt := 36, fr := [(4, SV.p (PV.c (CV.bool false)))], hp := [] : SS }
              else
                K
                  { nt := 36,
                    fr :=
                      [(1, SV.p (PV.c (CV.int IntKind.i64 (↑hv : Int)))),
                        (2, SV.p (PV.c (CV.ptr (0) (0)))),
                        (5, SV.p (PV.c (CV.int IntKind.i64 (IntKind.i64.wrap ((↑i : Int) + (1 : Int))))))],
                    hp :=
                      [HB.cells (39)
                          [CV.int IntKind.i64 n.fst, CV.int IntKind.i64 n.snd.fst.fst,
                            CV.int IntKind.i64 n.snd.fst.snd.fst, CV.int IntKind.i64 n.snd.fst.snd.snd,
                            CV.str n.snd.snd.fst, CV.row tI n.snd.snd.snd]] :
                    SS }
  else Q (Exit.exit (0)) { nt := 36, fr := [], hp := [] : SS }) := by kernel_rfl

theorem vc_good (n : Nd) (hv : Int) (Q : SV → List HB → Prop) :
    (body Try.prog (gam []) (lam [((0 : Nat), good_l)]) Try.f23 [PV.agg (toCV tN n), ti hv] [] Q) =
    (bif decide (n.fst < (1 : Int)) || decide (n.fst > (47 : Int)) then Q (SV.p (PV.c (CV.bool false))) []
else
  ∃ (x : Nd × Nat),
    { nt := 36,
          fr :=
            [(1, SV.p (PV.c (CV.int IntKind.i64 hv))),
              (2, SV.p (PV.c (CV.ptr (0) (0)))),
              (5, SV.p (PV.c (CV.int IntKind.i64 (0 : Int))))],
          hp :=
            [HB.cells (39)
                [CV.int IntKind.i64 n.fst, CV.int IntKind.i64 n.snd.fst.fst, CV.int IntKind.i64 n.snd.fst.snd.fst,
                  CV.int IntKind.i64 n.snd.fst.snd.snd, CV.str n.snd.snd.fst, CV.row tI n.snd.snd.snd]] :
          SS } =
        { nt := 36,
          fr :=
            [(1, SV.p (PV.c (CV.int IntKind.i64 (↑x.snd : Int)))),
              (2, SV.p (PV.c (CV.ptr (0) (0)))),
              (5, SV.p (PV.c (CV.int IntKind.i64 (↑(0 : Nat) : Int))))],
          hp :=
            [HB.cells (39)
                [CV.int IntKind.i64 x.fst.fst, CV.int IntKind.i64 x.fst.snd.fst.fst,
                  CV.int IntKind.i64 x.fst.snd.fst.snd.fst, CV.int IntKind.i64 x.fst.snd.fst.snd.snd,
                  CV.str x.fst.snd.snd.fst, CV.row tI x.fst.snd.snd.snd]] :
          SS } ∧
      True ∧
        ((kidsOf x.fst).any (badB x.snd) = false → Q (SV.p (PV.c (CV.bool true))) []) ∧
          ((kidsOf x.fst).any (badB x.snd) = true → Q (SV.p (PV.c (CV.bool false))) [])) := by kernel_rfl

theorem vc_ints_l (a : List Int) (b : List Int) (i : Nat) (K : SS → Prop) (Q : Exit → SS → Prop) :
    (sx Try.prog (gam []) noLam (lp Try.f16 (0 : Nat)) (0 : Nat) (stInts a b i)
  (thenQ (cq (0 : Nat) [(0 : Nat), (1 : Nat), (5 : Nat)] K) (cQE (0 : Nat) [] [(4 : Nat)] Q))) =
    (a.length ≤ maxI →
  bif decide ((↑i : Int) < (↑a.length : Int)) then
    (0 : Int) ≤ (↑i : Int) ∧
      (↑i : Int) < (↑a.length : Int) ∧
        (↑i : Int).toNat < a.length ∧
          (0 : Int) ≤ (↑i : Int) ∧
            (↑i : Int) < (↑b.length : Int) ∧
              (↑i : Int).toNat < b.length ∧
                bif a.getD (↑i : Int).toNat tI.dft != b.getD (↑i : Int).toNat tI.dft then
                  Q Exit.ret { nt := 26, fr := [(4, SV.p (PV.c (CV.bool false)))], hp := [] : SS }
                else
                  K
                    { nt := 26,
                      fr :=
                        [(0, SV.p (PV.c (CV.row tI a))), (1, SV.p (PV.c (CV.row tI b))),
                          (5, SV.p (PV.c (CV.int IntKind.i64 (IntKind.i64.wrap ((↑i : Int) + (1 : Int))))))],
                      hp := [] : SS }
  else Q (Exit.exit (0)) { nt := 26, fr := [], hp := [] : SS }) := by kernel_rfl

theorem vc_ints (a : List Int) (b : List Int) (Q : SV → List HB → Prop) :
    (body Try.prog (gam []) (lam [((0 : Nat), ints_l)]) Try.f16 [PV.c (CV.row tI a), PV.c (CV.row tI b)] [] Q) =
    (a.length ≤ maxI →
  b.length ≤ maxI →
    bif (↑a.length : Int) != (↑b.length : Int) then Q (SV.p (PV.c (CV.bool false))) []
    else
      ∃ (x : List Int × List Int),
        { nt := 26,
              fr :=
                [(0, SV.p (PV.c (CV.row tI a))), (1, SV.p (PV.c (CV.row tI b))),
                  (5, SV.p (PV.c (CV.int IntKind.i64 (0 : Int))))],
              hp := [] : SS } =
            { nt := 26,
              fr :=
                [(0, SV.p (PV.c (CV.row tI x.fst))), (1, SV.p (PV.c (CV.row tI x.snd))),
                  (5, SV.p (PV.c (CV.int IntKind.i64 (↑(0 : Nat) : Int))))],
              hp := [] : SS } ∧
          x.fst.length = x.snd.length ∧
            (x.fst = x.snd → Q (SV.p (PV.c (CV.bool true))) []) ∧ (x.fst ≠ x.snd → Q (SV.p (PV.c (CV.bool false))) [])) := by kernel_rfl

theorem vc_alike_l (a : Nd) (b : Nd) (i : Nat) (K : SS → Prop) (Q : Exit → SS → Prop) :
    (sx Try.prog (gam []) noLam (lp Try.f14 (0 : Nat)) (0 : Nat) (stAlike a b i)
  (thenQ (cq (0 : Nat) [(2 : Nat), (3 : Nat), (5 : Nat)] K) (cQE (0 : Nat) [] [(4 : Nat)] Q))) =
    (List.length a.snd.snd.snd ≤ maxI →
  bif decide ((↑i : Int) < (↑(List.length a.snd.snd.snd) : Int)) then
    (0 : Int) ≤ (↑i : Int) ∧
      (↑i : Int) < (↑(List.length a.snd.snd.snd) : Int) ∧
        (↑i : Int).toNat < List.length a.snd.snd.snd ∧
          (0 : Int) ≤ (↑i : Int) ∧
            (↑i : Int) < (↑(List.length b.snd.snd.snd) : Int) ∧
              (↑i : Int).toNat < List.length b.snd.snd.snd ∧
                bif
                    List.getD a.snd.snd.snd (↑i : Int).toNat tI.dft !=
                      List.getD b.snd.snd.snd (↑i : Int).toNat tI.dft then
                  Q Exit.ret { nt := 52, fr := [(4, SV.p (PV.c (CV.bool false)))], hp := [] : SS }
                else
                  K
                    { nt := 52,
                      fr :=
                        [(2, SV.p (PV.c (CV.ptr (0) (0)))),
                          (3, SV.p (PV.c (CV.ptr (1) (0)))),
                          (5, SV.p (PV.c (CV.int IntKind.i64 (IntKind.i64.wrap ((↑i : Int) + (1 : Int))))))],
                      hp :=
                        [HB.cells (39)
                            [CV.int IntKind.i64 a.fst, CV.int IntKind.i64 a.snd.fst.fst,
                              CV.int IntKind.i64 a.snd.fst.snd.fst, CV.int IntKind.i64 a.snd.fst.snd.snd,
                              CV.str a.snd.snd.fst, CV.row tI a.snd.snd.snd],
                          HB.cells (39)
                            [CV.int IntKind.i64 b.fst, CV.int IntKind.i64 b.snd.fst.fst,
                              CV.int IntKind.i64 b.snd.fst.snd.fst, CV.int IntKind.i64 b.snd.fst.snd.snd,
                              CV.str b.snd.snd.fst, CV.row tI b.snd.snd.snd]] :
                      SS }
  else Q (Exit.exit (0)) { nt := 52, fr := [], hp := [] : SS }) := by kernel_rfl

theorem vc_alike (a : Nd) (b : Nd) (Q : SV → List HB → Prop) :
    (body Try.prog (gam []) (lam [((0 : Nat), alike_l)]) Try.f14 [PV.agg (toCV tN a), PV.agg (toCV tN b)] [] Q) =
    (bif
    a.fst != b.fst ||
          !(a.snd.fst.fst == b.snd.fst.fst &&
              (a.snd.fst.snd.fst == b.snd.fst.snd.fst && (a.snd.fst.snd.snd == b.snd.fst.snd.snd && true))) ||
        !strEq a.snd.snd.fst b.snd.snd.fst ||
      (↑(List.length a.snd.snd.snd) : Int) != (↑(List.length b.snd.snd.snd) : Int) then
  Q (SV.p (PV.c (CV.bool false))) []
else
  ∃ (x : Nd × Nd),
    { nt := 52,
          fr :=
            [(2, SV.p (PV.c (CV.ptr (0) (0)))),
              (3, SV.p (PV.c (CV.ptr (1) (0)))),
              (5, SV.p (PV.c (CV.int IntKind.i64 (0 : Int))))],
          hp :=
            [HB.cells (39)
                [CV.int IntKind.i64 a.fst, CV.int IntKind.i64 a.snd.fst.fst, CV.int IntKind.i64 a.snd.fst.snd.fst,
                  CV.int IntKind.i64 a.snd.fst.snd.snd, CV.str a.snd.snd.fst, CV.row tI a.snd.snd.snd],
              HB.cells (39)
                [CV.int IntKind.i64 b.fst, CV.int IntKind.i64 b.snd.fst.fst, CV.int IntKind.i64 b.snd.fst.snd.fst,
                  CV.int IntKind.i64 b.snd.fst.snd.snd, CV.str b.snd.snd.fst, CV.row tI b.snd.snd.snd]] :
          SS } =
        { nt := 52,
          fr :=
            [(2, SV.p (PV.c (CV.ptr (0) (0)))),
              (3, SV.p (PV.c (CV.ptr (1) (0)))),
              (5, SV.p (PV.c (CV.int IntKind.i64 (↑(0 : Nat) : Int))))],
          hp :=
            [HB.cells (39)
                [CV.int IntKind.i64 x.fst.fst, CV.int IntKind.i64 x.fst.snd.fst.fst,
                  CV.int IntKind.i64 x.fst.snd.fst.snd.fst, CV.int IntKind.i64 x.fst.snd.fst.snd.snd,
                  CV.str x.fst.snd.snd.fst, CV.row tI x.fst.snd.snd.snd],
              HB.cells (39)
                [CV.int IntKind.i64 x.snd.fst, CV.int IntKind.i64 x.snd.snd.fst.fst,
                  CV.int IntKind.i64 x.snd.snd.fst.snd.fst, CV.int IntKind.i64 x.snd.snd.fst.snd.snd,
                  CV.str x.snd.snd.snd.fst, CV.row tI x.snd.snd.snd.snd]] :
          SS } ∧
      (kidsOf x.fst).length = (kidsOf x.snd).length ∧
        (kidsOf x.fst = kidsOf x.snd → Q (SV.p (PV.c (CV.bool true))) []) ∧
          (kidsOf x.fst ≠ kidsOf x.snd → Q (SV.p (PV.c (CV.bool false))) [])) := by kernel_rfl

theorem vc_node (rows : List Rw) (i : Int) (Q : SV → List HB → Prop) :
    (body Try.prog (gam gHas) noLam Try.f15 [PV.c (CV.ptr (0 : Nat) (0 : Nat)), ti i] (treeH rows) Q) =
    (rows.length = rows.length ∧
  rows.length ≤ (65536 : Nat) ∧
    bif !hasB rows.length i then
      Q
        (SV.p
          (PV.agg
            [CV.int IntKind.i64 (0 : Int), CV.int IntKind.i64 (0 : Int), CV.int IntKind.i64 (0 : Int),
              CV.int IntKind.i64 (0 : Int), CV.str { data := #[] : ByteArray }, CV.nils]))
        [HB.cells (59) [CV.view tR (1) (0) rows.length], HB.row (56) tR rows]
    else
      (0 : Int) ≤ IntKind.i64.wrap (i - (1 : Int)) ∧
        IntKind.i64.wrap (i - (1 : Int)) < (↑rows.length : Int) ∧
          0 + (IntKind.i64.wrap (i - (1 : Int))).toNat < rows.length ∧
            List.length (rows.getD (0 + (IntKind.i64.wrap (i - (1 : Int))).toNat) tR.dft).fst.snd.snd.snd ≤
                (100000000 : Nat) ∧
              Q
                (SV.p
                  (PV.agg
                    [CV.int IntKind.i64
                        (rows.getD (0 + (IntKind.i64.wrap (i - (1 : Int))).toNat) tR.dft).fst.fst,
                      CV.int IntKind.i64
                        (rows.getD (0 + (IntKind.i64.wrap (i - (1 : Int))).toNat) tR.dft).fst.snd.fst.fst,
                      CV.int IntKind.i64
                        (rows.getD (0 + (IntKind.i64.wrap (i - (1 : Int))).toNat) tR.dft).fst.snd.fst.snd.fst,
                      CV.int IntKind.i64
                        (rows.getD (0 + (IntKind.i64.wrap (i - (1 : Int))).toNat) tR.dft).fst.snd.fst.snd.snd,
                      CV.str (rows.getD (0 + (IntKind.i64.wrap (i - (1 : Int))).toNat) tR.dft).fst.snd.snd.fst,
                      CV.view tI (2) (0)
                        (List.length
                          (rows.getD (0 + (IntKind.i64.wrap (i - (1 : Int))).toNat) tR.dft).fst.snd.snd.snd)]))
                [HB.cells (59) [CV.view tR (1) (0) rows.length], HB.row (56) tR rows,
                  HB.row (3) tI
                    (rows.getD (0 + (IntKind.i64.wrap (i - (1 : Int))).toNat) tR.dft).fst.snd.snd.snd]) := by kernel_rfl

theorem vc_node0 (i : Int) (Q : SV → List HB → Prop) :
    (body Try.prog (gam gHas) noLam Try.f15 [PV.c CV.nilp, ti i] [] Q) =
    (Q
  (SV.p
    (PV.agg
      [CV.int IntKind.i64 (0 : Int), CV.int IntKind.i64 (0 : Int), CV.int IntKind.i64 (0 : Int),
        CV.int IntKind.i64 (0 : Int), CV.str { data := #[] : ByteArray }, CV.nils]))
  []) := by kernel_rfl

theorem vc_depth (rows : List Rw) (i : Int) (Q : SV → List HB → Prop) :
    (body Try.prog (gam gHas) noLam Try.f18 [PV.c (CV.ptr (0 : Nat) (0 : Nat)), ti i] (treeH rows) Q) =
    (rows.length = rows.length ∧
  rows.length ≤ (65536 : Nat) ∧
    bif !hasB rows.length i then
      Q (SV.p (PV.c (CV.int IntKind.i64 (0 : Int))))
        [HB.cells (59) [CV.view tR (1) (0) rows.length], HB.row (56) tR rows]
    else
      (0 : Int) ≤ IntKind.i64.wrap (i - (1 : Int)) ∧
        IntKind.i64.wrap (i - (1 : Int)) < (↑rows.length : Int) ∧
          0 + (IntKind.i64.wrap (i - (1 : Int))).toNat < rows.length ∧
            Q
              (SV.p
                (PV.c
                  (CV.int IntKind.i64
                    (rows.getD (0 + (IntKind.i64.wrap (i - (1 : Int))).toNat) tR.dft).snd.snd)))
              [HB.cells (59) [CV.view tR (1) (0) rows.length], HB.row (56) tR rows]) := by kernel_rfl

theorem vc_depth0 (i : Int) (Q : SV → List HB → Prop) :
    (body Try.prog (gam gHas) noLam Try.f18 [PV.c CV.nilp, ti i] [] Q) =
    (Q (SV.p (PV.c (CV.int IntKind.i64 (0 : Int)))) []) := by kernel_rfl

theorem vc_walk2_l (m : Nat) (rows : List Rw) (out : List Int) (ks : List Int) (j : Nat) (K : SS → Prop) (Q : Exit → SS → Prop) :
    (sx Try.prog (gam (gWalk m)) noLam (lp Try.f27 (0 : Nat)) (0 : Nat) (stWalk rows out ks j)
  (thenQ (cq (2 : Nat) [(0 : Nat), (1 : Nat), (22 : Nat), (23 : Nat), (24 : Nat)] K) (cQE (2 : Nat) [(1 : Nat)] [] Q))) =
    (bif decide ((↑j : Int) < (↑ks.length : Int)) then
  (0 : Int) ≤ (↑j : Int) ∧
    (↑j : Int) < (↑ks.length : Int) ∧
      (↑j : Int).toNat < ks.length ∧
        bif decide (ks.getD (↑j : Int).toNat tI.dft > (0 : Int)) then
          (rows.length = rows.length ∧ out.length = out.length ∧ walkO m rows (ks.getD (↑j : Int).toNat tI.dft) out) ∧
            K
              { nt := 36,
                fr :=
                  [(0, SV.p (PV.c (CV.ptr (0) (0)))),
                    (1,
                      SV.p
                        (PV.c
                          (CV.view tI (2) (0)
                            (List.length (out ++ pre (nodes rows) (ks.getD (↑j : Int).toNat tI.dft)))))),
                    (22, SV.p (PV.c (CV.row tI ks))),
                    (23, SV.p (PV.c (CV.int IntKind.i64 (↑ks.length : Int)))),
                    (24, SV.p (PV.c (CV.int IntKind.i64 (IntKind.i64.wrap ((↑j : Int) + (1 : Int))))))],
                hp :=
                  [HB.cells (59) [CV.view tR (1) (0) rows.length], HB.row (56) tR rows,
                    HB.row (3) tI (out ++ pre (nodes rows) (ks.getD (↑j : Int).toNat tI.dft))] :
                SS }
        else
          K
            { nt := 36,
              fr :=
                [(0, SV.p (PV.c (CV.ptr (0) (0)))),
                  (1, SV.p (PV.c (CV.view tI (2) (0) out.length))),
                  (22, SV.p (PV.c (CV.row tI ks))),
                  (23, SV.p (PV.c (CV.int IntKind.i64 (↑ks.length : Int)))),
                  (24, SV.p (PV.c (CV.int IntKind.i64 (IntKind.i64.wrap ((↑j : Int) + (1 : Int))))))],
              hp :=
                [HB.cells (59) [CV.view tR (1) (0) rows.length], HB.row (56) tR rows,
                  HB.row (3) tI out] :
              SS }
else
  Q (Exit.exit (0))
    { nt := 36, fr := [(1, SV.p (PV.c (CV.view tI (2) (0) out.length)))],
      hp :=
        [HB.cells (59) [CV.view tR (1) (0) rows.length], HB.row (56) tR rows,
          HB.row (3) tI out] :
      SS }) := by kernel_rfl

theorem vc_walk3_l (m : Nat) (rows : List Rw) (out : List Int) (ks : List Int) (j : Nat) (K : SS → Prop) (Q : Exit → SS → Prop) :
    (sx Try.prog (gam (gWalk m)) noLam (lp Try.f27 (0 : Nat)) (0 : Nat) (stWalk rows out ks j)
  (thenQ (cq (3 : Nat) [(0 : Nat), (1 : Nat), (22 : Nat), (23 : Nat), (24 : Nat)] K) (cQE (3 : Nat) [(1 : Nat)] [] Q))) =
    (bif decide ((↑j : Int) < (↑ks.length : Int)) then
  (0 : Int) ≤ (↑j : Int) ∧
    (↑j : Int) < (↑ks.length : Int) ∧
      (↑j : Int).toNat < ks.length ∧
        bif decide (ks.getD (↑j : Int).toNat tI.dft > (0 : Int)) then
          (rows.length = rows.length ∧ out.length = out.length ∧ walkO m rows (ks.getD (↑j : Int).toNat tI.dft) out) ∧
            K
              { nt := 36,
                fr :=
                  [(0, SV.p (PV.c (CV.ptr (0) (0)))),
                    (1,
                      SV.p
                        (PV.c
                          (CV.view tI (2) (0)
                            (List.length (out ++ pre (nodes rows) (ks.getD (↑j : Int).toNat tI.dft)))))),
                    (22, SV.p (PV.c (CV.row tI ks))),
                    (23, SV.p (PV.c (CV.int IntKind.i64 (↑ks.length : Int)))),
                    (24, SV.p (PV.c (CV.int IntKind.i64 (IntKind.i64.wrap ((↑j : Int) + (1 : Int))))))],
                hp :=
                  [HB.cells (59) [CV.view tR (1) (0) rows.length], HB.row (56) tR rows,
                    HB.row (3) tI (out ++ pre (nodes rows) (ks.getD (↑j : Int).toNat tI.dft))] :
                SS }
        else
          K
            { nt := 36,
              fr :=
                [(0, SV.p (PV.c (CV.ptr (0) (0)))),
                  (1, SV.p (PV.c (CV.view tI (2) (0) out.length))),
                  (22, SV.p (PV.c (CV.row tI ks))),
                  (23, SV.p (PV.c (CV.int IntKind.i64 (↑ks.length : Int)))),
                  (24, SV.p (PV.c (CV.int IntKind.i64 (IntKind.i64.wrap ((↑j : Int) + (1 : Int))))))],
              hp :=
                [HB.cells (59) [CV.view tR (1) (0) rows.length], HB.row (56) tR rows,
                  HB.row (3) tI out] :
              SS }
else
  Q (Exit.exit (0))
    { nt := 36, fr := [(1, SV.p (PV.c (CV.view tI (2) (0) out.length)))],
      hp :=
        [HB.cells (59) [CV.view tR (1) (0) rows.length], HB.row (56) tR rows,
          HB.row (3) tI out] :
      SS }) := by kernel_rfl

theorem vc_walk (m : Nat) (rows : List Rw) (out : List Int) (i : Int) (Q : SV → List HB → Prop) :
    (body Try.prog (gam (gWalk m)) (lam [((0 : Nat), walk3_l m)]) Try.f27
  [PV.c (CV.ptr (0 : Nat) (0 : Nat)), PV.c (CV.view tI (2 : Nat) (0 : Nat) out.length), ti i]
  [HB.cells (59 : TypeId) [CV.view tR (1 : Nat) (0 : Nat) rows.length], HB.row (56 : TypeId) tR rows,
    HB.row (3 : TypeId) tI out]
  Q) =
    ((1 : Nat) ≤ [i].length ∧
  0 + out.length ≤ out.length ∧
    (vw out (0) out.length ++ [i]).length * (8 : Nat) ≤ (140737488355328 : Nat) ∧
      (0 : Int) ≤ IntKind.i64.wrap (i - (1 : Int)) ∧
        IntKind.i64.wrap (i - (1 : Int)) < (↑rows.length : Int) ∧
          0 + (IntKind.i64.wrap (i - (1 : Int))).toNat < rows.length ∧
            (List.length (rows.getD (0 + (IntKind.i64.wrap (i - (1 : Int))).toNat) tR.dft).fst.snd.snd.snd ≤
                maxI →
              ∃ (x : List Rw × List Int × List Int),
                { nt := 36,
                      fr :=
                        [(0, SV.p (PV.c (CV.ptr (0) (0)))),
                          (1,
                            SV.p
                              (PV.c
                                (CV.view tI (2) (0) (vw out (0) out.length ++ [i]).length))),
                          (22,
                            SV.p
                              (PV.c
                                (CV.row tI
                                  (rows.getD (0 + (IntKind.i64.wrap (i - (1 : Int))).toNat)
                                            tR.dft).fst.snd.snd.snd))),
                          (23,
                            SV.p
                              (PV.c
                                (CV.int IntKind.i64
                                  (↑(List.length
                                        (rows.getD (0 + (IntKind.i64.wrap (i - (1 : Int))).toNat)
                                                  tR.dft).fst.snd.snd.snd) :
                                    Int)))),
                          (24, SV.p (PV.c (CV.int IntKind.i64 (0 : Int))))],
                      hp :=
                        [HB.cells (59) [CV.view tR (1) (0) rows.length],
                          HB.row (56) tR rows, HB.row (3) tI (vw out (0) out.length ++ [i])] :
                      SS } =
                    { nt := 36,
                      fr :=
                        [(0, SV.p (PV.c (CV.ptr (0) (0)))),
                          (1, SV.p (PV.c (CV.view tI (2) (0) x.snd.fst.length))),
                          (22, SV.p (PV.c (CV.row tI x.snd.snd))),
                          (23, SV.p (PV.c (CV.int IntKind.i64 (↑x.snd.snd.length : Int)))),
                          (24, SV.p (PV.c (CV.int IntKind.i64 (↑(0 : Nat) : Int))))],
                      hp :=
                        [HB.cells (59) [CV.view tR (1) (0) x.fst.length],
                          HB.row (56) tR x.fst, HB.row (3) tI x.snd.fst] :
                      SS } ∧
                  (TreeOk x.fst ∧
                      x.snd.snd.length ≤ maxI ∧
                        (∀ (k : Int), k ∈ x.snd.snd → k.toNat < m ∧ (0 : Int) ≤ k ∧ k ≤ (↑x.fst.length : Int)) ∧
                          x.snd.fst.length +
                              (List.flatMap (pre (nodes x.fst))
                                  (List.filter Ytmncmmdicpcgmaa.Ch.part x.snd.snd)).length ≤
                            (1000000 : Nat)) ∧
                    Q
                      (SV.p
                        (PV.c
                          (CV.view tI (2) (0)
                            (x.snd.fst ++
                                List.flatMap (pre (nodes x.fst))
                                  (List.filter Ytmncmmdicpcgmaa.Ch.part x.snd.snd)).length)))
                      [HB.cells (59) [CV.view tR (1) (0) x.fst.length],
                        HB.row (56) tR x.fst,
                        HB.row (3) tI
                          (x.snd.fst ++
                            List.flatMap (pre (nodes x.fst)) (List.filter Ytmncmmdicpcgmaa.Ch.part x.snd.snd))])) := by kernel_rfl

theorem vc_walkN (m : Nat) (rows : List Rw) (i : Int) (Q : SV → List HB → Prop) :
    (body Try.prog (gam (gWalk m)) (lam [((0 : Nat), walk2_l m)]) Try.f27
  [PV.c (CV.ptr (0 : Nat) (0 : Nat)), PV.c CV.nils, ti i] (treeH rows) Q) =
    ((1 : Nat) ≤ [i].length ∧
  [i].length * (8 : Nat) ≤ (140737488355328 : Nat) ∧
    (0 : Int) ≤ IntKind.i64.wrap (i - (1 : Int)) ∧
      IntKind.i64.wrap (i - (1 : Int)) < (↑rows.length : Int) ∧
        0 + (IntKind.i64.wrap (i - (1 : Int))).toNat < rows.length ∧
          (List.length (rows.getD (0 + (IntKind.i64.wrap (i - (1 : Int))).toNat) tR.dft).fst.snd.snd.snd ≤
              maxI →
            ∃ (x : List Rw × List Int × List Int),
              { nt := 36,
                    fr :=
                      [(0, SV.p (PV.c (CV.ptr (0) (0)))),
                        (1, SV.p (PV.c (CV.view (Ty.int IntKind.i64) (2) (0) (1)))),
                        (22,
                          SV.p
                            (PV.c
                              (CV.row tI
                                (rows.getD (0 + (IntKind.i64.wrap (i - (1 : Int))).toNat)
                                          tR.dft).fst.snd.snd.snd))),
                        (23,
                          SV.p
                            (PV.c
                              (CV.int IntKind.i64
                                (↑(List.length
                                      (rows.getD (0 + (IntKind.i64.wrap (i - (1 : Int))).toNat)
                                                tR.dft).fst.snd.snd.snd) :
                                  Int)))),
                        (24, SV.p (PV.c (CV.int IntKind.i64 (0 : Int))))],
                    hp :=
                      [HB.cells (59) [CV.view tR (1) (0) rows.length],
                        HB.row (56) tR rows, HB.row (3) (Ty.int IntKind.i64) [i]] :
                    SS } =
                  { nt := 36,
                    fr :=
                      [(0, SV.p (PV.c (CV.ptr (0) (0)))),
                        (1, SV.p (PV.c (CV.view tI (2) (0) x.snd.fst.length))),
                        (22, SV.p (PV.c (CV.row tI x.snd.snd))),
                        (23, SV.p (PV.c (CV.int IntKind.i64 (↑x.snd.snd.length : Int)))),
                        (24, SV.p (PV.c (CV.int IntKind.i64 (↑(0 : Nat) : Int))))],
                    hp :=
                      [HB.cells (59) [CV.view tR (1) (0) x.fst.length],
                        HB.row (56) tR x.fst, HB.row (3) tI x.snd.fst] :
                    SS } ∧
                (TreeOk x.fst ∧
                    x.snd.snd.length ≤ maxI ∧
                      (∀ (k : Int), k ∈ x.snd.snd → k.toNat < m ∧ (0 : Int) ≤ k ∧ k ≤ (↑x.fst.length : Int)) ∧
                        x.snd.fst.length +
                            (List.flatMap (pre (nodes x.fst)) (List.filter Ytmncmmdicpcgmaa.Ch.part x.snd.snd)).length ≤
                          (1000000 : Nat)) ∧
                  Q
                    (SV.p
                      (PV.c
                        (CV.view tI (2) (0)
                          (x.snd.fst ++
                              List.flatMap (pre (nodes x.fst))
                                (List.filter Ytmncmmdicpcgmaa.Ch.part x.snd.snd)).length)))
                    [HB.cells (59) [CV.view tR (1) (0) x.fst.length],
                      HB.row (56) tR x.fst,
                      HB.row (3) tI
                        (x.snd.fst ++
                          List.flatMap (pre (nodes x.fst)) (List.filter Ytmncmmdicpcgmaa.Ch.part x.snd.snd))])) := by kernel_rfl

theorem vc_walkT (m : Nat) (rows : List Rw) (i : Int) (Q : SV → List HB → Prop) :
    (body Try.prog (gam (gWalk m)) noLam Try.f17 [PV.c (CV.ptr (0 : Nat) (0 : Nat)), ti i] (treeH rows) Q) =
    (rows.length = rows.length ∧
  rows.length ≤ (65536 : Nat) ∧
    ((!hasB rows.length i) = false →
        (0 : Int) ≤ IntKind.i64.wrap (i - (1 : Int)) ∧ IntKind.i64.wrap (i - (1 : Int)) < (↑rows.length : Int) ∧ True) ∧
      ((!hasB rows.length i) = false → 0 + (IntKind.i64.wrap (i - (1 : Int))).toNat < rows.length ∧ True) ∧
        bif
            !hasB rows.length i ||
              decide
                ((rows.getD (0 + (IntKind.i64.wrap (i - (1 : Int))).toNat) tR.dft).snd.fst > (65536 : Int)) then
          Q (SV.p (PV.c CV.nils))
            [HB.cells (59) [CV.view tR (1) (0) rows.length], HB.row (56) tR rows]
        else
          (rows.length = rows.length ∧ walkO m rows i []) ∧
            Q (SV.p (PV.c (CV.view tI (2) (0) (pre (nodes rows) i).length)))
              [HB.cells (59) [CV.view tR (1) (0) rows.length], HB.row (56) tR rows,
                HB.row (3) tI (pre (nodes rows) i)]) := by kernel_rfl

theorem vc_walkT0 (m : Nat) (i : Int) (Q : SV → List HB → Prop) :
    (body Try.prog (gam (gWalk m)) noLam Try.f17 [PV.c CV.nilp, ti i] [] Q) =
    (Q (SV.p (PV.c CV.nils)) []) := by kernel_rfl

theorem vc_laid_l (list : List Nd) (l : List Nd) (i : Nat) (K : SS → Prop) (Q : Exit → SS → Prop) :
    (sx Try.prog (gam gLaid) noLam (lp Try.f9 (0 : Nat)) (0 : Nat) (stLaid list l i)
  (thenQ (cq (0 : Nat) [(0 : Nat), (5 : Nat), (6 : Nat), (7 : Nat)] K)
    (cQE (0 : Nat) [(5 : Nat), (6 : Nat)] [(2 : Nat), (3 : Nat), (4 : Nat)] Q))) =
    (list.length ≤ maxI →
  bif decide ((↑i : Int) < (↑list.length : Int)) then
    (0 : Int) ≤ (↑i : Int) ∧
      (↑i : Int) < (↑list.length : Int) ∧
        (↑i : Int).toNat < list.length ∧
          ((treeOf l).length = (treeOf l).length ∧
              (treeOf l).length < (65536 : Nat) ∧
                RowsOk (treeOf l) ∧ (kidsOf (list.getD (↑i : Int).toNat tN.dft)).length ≤ (65536 : Nat)) ∧
            (goodB (list.getD (↑i : Int).toNat tN.dft) (treeOf l).length = false →
                (0 : Int) ≤ (↑i : Int) ∧
                  (↑i : Int) < (↑list.length : Int) ∧
                    (↑i : Int).toNat < list.length ∧
                      (l.length ≤ maxI →
                        (0 : Int) ≤ (↑l.length : Int) ∧
                          bif !goodB (list.getD (↑i : Int).toNat tN.dft) (↑l.length : Int).toNat then
                            K
                              { nt := 58,
                                fr :=
                                  [(0, SV.p (PV.c (CV.row tN list))),
                                    (5, SV.p (PV.c (CV.ptr (0) (0)))),
                                    (6, SV.p (PV.c (CV.view tN (2) (0) l.length))),
                                    (7,
                                      SV.p (PV.c (CV.int IntKind.i64 (IntKind.i64.wrap ((↑i : Int) + (1 : Int))))))],
                                hp :=
                                  [HB.cells (59) [CV.view tR (1) (0) (treeOf l).length],
                                    HB.row (56) tR (treeOf l), HB.row (39) tN l] :
                                SS }
                          else
                            (0 : Int) ≤ (↑i : Int) ∧
                              (↑i : Int) < (↑list.length : Int) ∧
                                (↑i : Int).toNat < list.length ∧
                                  (1 : Nat) ≤ [list.getD (↑i : Int).toNat tN.dft].length ∧
                                    0 + l.length ≤ l.length ∧
                                      (vw l (0) l.length ++ [list.getD (↑i : Int).toNat tN.dft]).length *
                                            (72 : Nat) ≤
                                          (140737488355328 : Nat) ∧
                                        ((vw l (0) l.length ++ [list.getD (↑i : Int).toNat tN.dft]).length ≤
                                            maxI →
                                          bif
                                              (0 : Int) !=
                                                  (↑(vw l (0) l.length ++
                                                          [list.getD (↑i : Int).toNat tN.dft]).length :
                                                    Int) ||
                                                (1 : Int) != (0 : Int) then
                                            Q Exit.ret
                                              { nt := 58,
                                                fr :=
                                                  [(2, SV.p (PV.c CV.nilp)), (3, SV.p (PV.c CV.nils)),
                                                    (4, SV.p (PV.c (CV.bool false)))],
                                                hp := [] : SS }
                                          else
                                            K
                                              { nt := 58,
                                                fr :=
                                                  [(0, SV.p (PV.c (CV.row tN list))),
                                                    (5, SV.p (PV.c (CV.ptr (0) (0)))),
                                                    (6,
                                                      SV.p
                                                        (PV.c
                                                          (CV.view tN (2) (0)
                                                            (vw l (0) l.length ++
                                                                [list.getD (↑i : Int).toNat tN.dft]).length))),
                                                    (7,
                                                      SV.p
                                                        (PV.c
                                                          (CV.int IntKind.i64
                                                            (IntKind.i64.wrap ((↑i : Int) + (1 : Int))))))],
                                                hp :=
                                                  [HB.cells (59)
                                                      [CV.view tR (1) (0) (treeOf l).length],
                                                    HB.row (56) tR (treeOf l),
                                                    HB.row (39) tN
                                                      (vw l (0) l.length ++
                                                        [list.getD (↑i : Int).toNat tN.dft])] :
                                                SS }))) ∧
              (goodB (list.getD (↑i : Int).toNat tN.dft) (treeOf l).length = true →
                (0 : Int) ≤ (↑i : Int) ∧
                  (↑i : Int) < (↑list.length : Int) ∧
                    (↑i : Int).toNat < list.length ∧
                      (l.length ≤ maxI →
                        (0 : Int) ≤ (↑l.length : Int) ∧
                          bif !goodB (list.getD (↑i : Int).toNat tN.dft) (↑l.length : Int).toNat then
                            Q Exit.ret
                              { nt := 58,
                                fr :=
                                  [(2, SV.p (PV.c CV.nilp)), (3, SV.p (PV.c CV.nils)),
                                    (4, SV.p (PV.c (CV.bool false)))],
                                hp := [] : SS }
                          else
                            (0 : Int) ≤ (↑i : Int) ∧
                              (↑i : Int) < (↑list.length : Int) ∧
                                (↑i : Int).toNat < list.length ∧
                                  (1 : Nat) ≤ [list.getD (↑i : Int).toNat tN.dft].length ∧
                                    0 + l.length ≤ l.length ∧
                                      (vw l (0) l.length ++ [list.getD (↑i : Int).toNat tN.dft]).length *
                                            (72 : Nat) ≤
                                          (140737488355328 : Nat) ∧
                                        ((vw l (0) l.length ++ [list.getD (↑i : Int).toNat tN.dft]).length ≤
                                            maxI →
                                          bif
                                              (↑(treeOf l).length : Int) + (1 : Int) !=
                                                  (↑(vw l (0) l.length ++
                                                          [list.getD (↑i : Int).toNat tN.dft]).length :
                                                    Int) ||
                                                (0 : Int) != (0 : Int) then
                                            Q Exit.ret
                                              { nt := 58,
                                                fr :=
                                                  [(2, SV.p (PV.c CV.nilp)), (3, SV.p (PV.c CV.nils)),
                                                    (4, SV.p (PV.c (CV.bool false)))],
                                                hp := [] : SS }
                                          else
                                            K
                                              { nt := 58,
                                                fr :=
                                                  [(0, SV.p (PV.c (CV.row tN list))),
                                                    (5, SV.p (PV.c (CV.ptr (0) (0)))),
                                                    (6,
                                                      SV.p
                                                        (PV.c
                                                          (CV.view tN (2) (0)
                                                            (vw l (0) l.length ++
                                                                [list.getD (↑i : Int).toNat tN.dft]).length))),
                                                    (7,
                                                      SV.p
                                                        (PV.c
                                                          (CV.int IntKind.i64
                                                            (IntKind.i64.wrap ((↑i : Int) + (1 : Int))))))],
                                                hp :=
                                                  [HB.cells (59)
                                                      [CV.view tR (1) (0)
                                                          (List.length
                                                            (treeOf l ++
                                                              [mkRow (treeOf l) (list.getD (↑i : Int).toNat tN.dft)]))],
                                                    HB.row (56) tR
                                                      (treeOf l ++
                                                        [mkRow (treeOf l) (list.getD (↑i : Int).toNat tN.dft)]),
                                                    HB.row (39) tN
                                                      (vw l (0) l.length ++
                                                        [list.getD (↑i : Int).toNat tN.dft])] :
                                                SS })))
  else
    Q (Exit.exit (0))
      { nt := 58,
        fr :=
          [(5, SV.p (PV.c (CV.ptr (0) (0)))),
            (6, SV.p (PV.c (CV.view tN (2) (0) l.length)))],
        hp :=
          [HB.cells (59) [CV.view tR (1) (0) (treeOf l).length],
            HB.row (56) tR (treeOf l), HB.row (39) tN l] :
        SS }) := by kernel_rfl

theorem vc_laid (list : List Nd) (Q : SV → List HB → Prop) :
    (body Try.prog (gam gLaid) (lam [((0 : Nat), laid_l)]) Try.f9 [PV.c (CV.row tN list)] [] Q) =
    (∃ (x : List Nd),
  { nt := 58,
        fr :=
          [(0, SV.p (PV.c (CV.row tN list))), (5, SV.p (PV.c (CV.ptr (0) (0)))),
            (6,
              SV.p
                (PV.c
                  (CV.view
                    ((Ty.int IntKind.i64).prod
                      (((Ty.int IntKind.i64).prod ((Ty.int IntKind.i64).prod (Ty.int IntKind.i64))).prod
                        (Ty.str.prod (Ty.int IntKind.i64).row)))
                    (2) (0) (0)))),
            (7, SV.p (PV.c (CV.int IntKind.i64 (0 : Int))))],
        hp :=
          [HB.cells (59) [CV.view tR (1) (0) (0)], HB.row (56) tR [],
            HB.row (39)
              ((Ty.int IntKind.i64).prod
                (((Ty.int IntKind.i64).prod ((Ty.int IntKind.i64).prod (Ty.int IntKind.i64))).prod
                  (Ty.str.prod (Ty.int IntKind.i64).row)))
              []] :
        SS } =
      { nt := 58,
        fr :=
          [(0, SV.p (PV.c (CV.row tN x))), (5, SV.p (PV.c (CV.ptr (0) (0)))),
            (6, SV.p (PV.c (CV.view tN (2) (0) (0)))),
            (7, SV.p (PV.c (CV.int IntKind.i64 (↑(0 : Nat) : Int))))],
        hp :=
          [HB.cells (59) [CV.view tR (1) (0) (0)], HB.row (56) tR (treeOf []),
            HB.row (39) tN []] :
        SS } ∧
    greatB x = false ∧
      Q
        (SV.tup
          [PV.c (CV.ptr (0) (0)), PV.c (CV.view tN (2) (0) (laidL x).length),
            PV.c (CV.bool true)])
        [HB.cells (59) [CV.view tR (1) (0) (treeOf (laidL x)).length],
          HB.row (56) tR (treeOf (laidL x)), HB.row (39) tN (laidL x)]) := by kernel_rfl

end Go.Proofs.Ytmncmmdicpcgmaa.Ch
