/- Statements over the abstract machine, reckoned out: printed by a program of this session. No condition. -/
import Derived.Test.YtmncmmdicpcgmaaTP
namespace Go.Proofs.Ytmncmmdicpcgmaa.Ch
open Go Go.Proofs Go.Proofs.Ytmncmmdicpcgmaa.Sx
set_option linter.unusedVariables false
theorem vc_nodeS (rows : List Rw) (i : Int) (Q : SV → List HB → Prop) :
    (body Try.prog (gam gHas) noLam Try.f15 [PV.c (CV.ptr (0 : Nat) (0 : Nat)), ti i]
  [HB.cells (59 : TypeId) [CV.view tR (1 : Nat) (0 : Nat) rows.length], HB.row (56 : TypeId) tR rows] Q) =
    (rows.length = rows.length ∧
  rows.length ≤ (65536 : Nat) ∧
    bif !hasB rows.length i then
      Q
        (SV.p
          (PV.agg
            [CV.int IntKind.i64 (0 : Int), CV.int IntKind.i64 (0 : Int), CV.int IntKind.i64 (0 : Int),
              CV.int IntKind.i64 (0 : Int), CV.str { data := #[] : ByteArray }, CV.nils]))
        [HB.cells (59) [CV.view tR (1) (0) rows.length], HB.row (56) tR rows]
    else
      (0 : Int) ≤ IntKind.i64.wrap (i - (1 : Int)) ∧
        IntKind.i64.wrap (i - (1 : Int)) < (↑rows.length : Int) ∧
          0 + (IntKind.i64.wrap (i - (1 : Int))).toNat < rows.length ∧
            List.length (rows.getD (0 + (IntKind.i64.wrap (i - (1 : Int))).toNat) tR.dft).fst.snd.snd.snd ≤
                (100000000 : Nat) ∧
              Q
                (SV.p
                  (PV.agg
                    [CV.int IntKind.i64
                        (rows.getD (0 + (IntKind.i64.wrap (i - (1 : Int))).toNat) tR.dft).fst.fst,
                      CV.int IntKind.i64
                        (rows.getD (0 + (IntKind.i64.wrap (i - (1 : Int))).toNat) tR.dft).fst.snd.fst.fst,
                      CV.int IntKind.i64
                        (rows.getD (0 + (IntKind.i64.wrap (i - (1 : Int))).toNat) tR.dft).fst.snd.fst.snd.fst,
                      CV.int IntKind.i64
                        (rows.getD (0 + (IntKind.i64.wrap (i - (1 : Int))).toNat) tR.dft).fst.snd.fst.snd.snd,
                      CV.str (rows.getD (0 + (IntKind.i64.wrap (i - (1 : Int))).toNat) tR.dft).fst.snd.snd.fst,
                      CV.view tI (2) (0)
                        (List.length
                          (rows.getD (0 + (IntKind.i64.wrap (i - (1 : Int))).toNat) tR.dft).fst.snd.snd.snd)]))
                [HB.cells (59) [CV.view tR (1) (0) rows.length], HB.row (56) tR rows,
                  HB.row (3) tI
                    (rows.getD (0 + (IntKind.i64.wrap (i - (1 : Int))).toNat) tR.dft).fst.snd.snd.snd]) := by kernel_rfl

theorem vc_cpl (m : Nat) (t : List Rw) (r : List Rw) (n : Nd) (x : Nd) (ks : List Int) (at_ : Int) (j : Nat) (K : SS → Prop) (Q : Exit → SS → Prop) :
    (sx Try.prog (gam (gCopy m)) noLam (lp Try.f29 (0 : Nat)) (0 : Nat) (stCp t r n x ks at_ j)
  (thenQ (cq (4 : Nat) [(0 : Nat), (1 : Nat), (3 : Nat), (9 : Nat), (11 : Nat), (27 : Nat), (28 : Nat), (29 : Nat)] K)
    (cQE (4 : Nat) [(1 : Nat), (11 : Nat)] [] Q))) =
    (bif decide ((↑j : Int) < (↑ks.length : Int)) then
  (0 : Int) ≤ (↑j : Int) ∧
    (↑j : Int) < (↑ks.length : Int) ∧
      0 + (↑j : Int).toNat < ks.length ∧
        (t.length = t.length ∧ r.length = r.length ∧ copyO m t r (ks.getD (0 + (↑j : Int).toNat) tI.dft) n) ∧
          ∀ (s : List Rw) (idx : Int),
            CopyOf (nodes t) (ks.getD (0 + (↑j : Int).toNat) tI.dft) at_ n r s idx →
              (0 : Int) ≤ (↑j : Int) ∧
                (↑j : Int) < (↑ks.length : Int) ∧
                  0 + (↑j : Int).toNat < ks.length ∧
                    K
                      { nt := 54,
                        fr :=
                          [(0, SV.p (PV.c (CV.ptr (0) (0)))),
                            (1, SV.p (PV.c (CV.ptr (2) (0)))),
                            (3, SV.p (PV.c (CV.int IntKind.i64 at_))),
                            (9, SV.p (PV.c (CV.ptr (4) (0)))),
                            (11, SV.p (PV.c (CV.ptr (5) (0)))),
                            (27, SV.p (PV.c (CV.view tI (6) (0) ks.length))),
                            (28, SV.p (PV.c (CV.int IntKind.i64 (↑ks.length : Int)))),
                            (29, SV.p (PV.c (CV.int IntKind.i64 (IntKind.i64.wrap ((↑j : Int) + (1 : Int))))))],
                        hp :=
                          [HB.cells (59) [CV.view tR (1) (0) t.length],
                            HB.row (56) tR t,
                            HB.cells (59) [CV.view tR (3) (0) s.length],
                            HB.row (56) tR s,
                            HB.cells (39)
                              [CV.int IntKind.i64 n.fst, CV.int IntKind.i64 n.snd.fst.fst,
                                CV.int IntKind.i64 n.snd.fst.snd.fst, CV.int IntKind.i64 n.snd.fst.snd.snd,
                                CV.str n.snd.snd.fst, CV.row tI n.snd.snd.snd],
                            HB.cells (39)
                              [CV.int IntKind.i64 x.fst, CV.int IntKind.i64 x.snd.fst.fst,
                                CV.int IntKind.i64 x.snd.fst.snd.fst, CV.int IntKind.i64 x.snd.fst.snd.snd,
                                CV.str x.snd.snd.fst, CV.view tI (6) (0) ks.length],
                            HB.row (3) tI (ks.set (0 + (↑j : Int).toNat) idx)] :
                        SS }
else
  Q (Exit.exit (0))
    { nt := 54,
      fr :=
        [(1, SV.p (PV.c (CV.ptr (2) (0)))),
          (11, SV.p (PV.c (CV.ptr (4) (0))))],
      hp :=
        [HB.cells (59) [CV.view tR (1) (0) t.length], HB.row (56) tR t,
          HB.cells (59) [CV.view tR (3) (0) r.length], HB.row (56) tR r,
          HB.cells (39)
            [CV.int IntKind.i64 x.fst, CV.int IntKind.i64 x.snd.fst.fst, CV.int IntKind.i64 x.snd.fst.snd.fst,
              CV.int IntKind.i64 x.snd.fst.snd.snd, CV.str x.snd.snd.fst, CV.view tI (5) (0) ks.length],
          HB.row (3) tI ks] :
      SS }) := by kernel_rfl

theorem vc_copy (m : Nat) (t : List Rw) (r : List Rw) (i : Int) (at_ : Int) (n : Nd) (Q : SV → List HB → Prop) :
    (body Try.prog (gam (gCopy m)) (lam [((0 : Nat), copy_l m)]) Try.f29
  [PV.c (CV.ptr (0 : Nat) (0 : Nat)), PV.c (CV.ptr (2 : Nat) (0 : Nat)), ti i, ti at_, PV.agg (toCV tN n)]
  [HB.cells (59 : TypeId) [CV.view tR (1 : Nat) (0 : Nat) t.length], HB.row (56 : TypeId) tR t,
    HB.cells (59 : TypeId) [CV.view tR (3 : Nat) (0 : Nat) r.length], HB.row (56 : TypeId) tR r]
  Q) =
    (bif i == (0 : Int) then
  Q (SV.p (PV.c (CV.int IntKind.i64 (0 : Int))))
    [HB.cells (59) [CV.view tR (1) (0) t.length], HB.row (56) tR t,
      HB.cells (59) [CV.view tR (3) (0) r.length], HB.row (56) tR r]
else
  (t.length = t.length ∧
      t.length ≤ (65536 : Nat) ∧
        (∀ (r : tR.T), r ∈ t → (kidsOf r.fst).length ≤ (65536 : Nat)) ∧ hasB t.length i = true) ∧
    bif i == at_ then
      (r.length = r.length ∧
          r.length < (65536 : Nat) ∧ RowsOk r ∧ (kidsOf (n.fst, n.snd.fst, n.snd.snd.fst, [])).length ≤ (65536 : Nat)) ∧
        (goodB (n.fst, n.snd.fst, n.snd.snd.fst, []) r.length = false →
            Q (SV.p (PV.c (CV.int IntKind.i64 (0 : Int))))
              [HB.cells (59) [CV.view tR (1) (0) t.length], HB.row (56) tR t,
                HB.cells (59) [CV.view tR (3) (0) r.length], HB.row (56) tR r]) ∧
          (goodB (n.fst, n.snd.fst, n.snd.snd.fst, []) r.length = true →
            Q (SV.p (PV.c (CV.int IntKind.i64 ((↑r.length : Int) + (1 : Int)))))
              [HB.cells (59) [CV.view tR (1) (0) t.length], HB.row (56) tR t,
                HB.cells (59)
                  [CV.view tR (3) (0)
                      (List.length (r ++ [mkRow r (n.fst, n.snd.fst, n.snd.snd.fst, [])]))],
                HB.row (56) tR (r ++ [mkRow r (n.fst, n.snd.fst, n.snd.snd.fst, [])])])
    else
      (kidsOf (Ytmncmmdicpcgmaa.Ch.rowAt t i).fst).length ≤ maxI →
        ∃ (x : CD),
          { nt := 54,
                fr :=
                  [(0, SV.p (PV.c (CV.ptr (0) (0)))),
                    (1, SV.p (PV.c (CV.ptr (2) (0)))),
                    (3, SV.p (PV.c (CV.int IntKind.i64 at_))),
                    (9, SV.p (PV.c (CV.ptr (4) (0)))),
                    (11, SV.p (PV.c (CV.ptr (5) (0)))),
                    (27,
                      SV.p
                        (PV.c
                          (CV.view tI (6) (0) (kidsOf (Ytmncmmdicpcgmaa.Ch.rowAt t i).fst).length))),
                    (28,
                      SV.p (PV.c (CV.int IntKind.i64 (↑(kidsOf (Ytmncmmdicpcgmaa.Ch.rowAt t i).fst).length : Int)))),
                    (29, SV.p (PV.c (CV.int IntKind.i64 (0 : Int))))],
                hp :=
                  [HB.cells (59) [CV.view tR (1) (0) t.length], HB.row (56) tR t,
                    HB.cells (59) [CV.view tR (3) (0) r.length], HB.row (56) tR r,
                    HB.cells (39)
                      [CV.int IntKind.i64 n.fst, CV.int IntKind.i64 n.snd.fst.fst, CV.int IntKind.i64 n.snd.fst.snd.fst,
                        CV.int IntKind.i64 n.snd.fst.snd.snd, CV.str n.snd.snd.fst, CV.row tI n.snd.snd.snd],
                    HB.cells (39)
                      [CV.int IntKind.i64 (Ytmncmmdicpcgmaa.Ch.rowAt t i).fst.fst,
                        CV.int IntKind.i64 (Ytmncmmdicpcgmaa.Ch.rowAt t i).fst.snd.fst.fst,
                        CV.int IntKind.i64 (Ytmncmmdicpcgmaa.Ch.rowAt t i).fst.snd.fst.snd.fst,
                        CV.int IntKind.i64 (Ytmncmmdicpcgmaa.Ch.rowAt t i).fst.snd.fst.snd.snd,
                        CV.str (Ytmncmmdicpcgmaa.Ch.rowAt t i).fst.snd.snd.fst,
                        CV.view tI (6) (0) (kidsOf (Ytmncmmdicpcgmaa.Ch.rowAt t i).fst).length],
                    HB.row (3) tI (kidsOf (Ytmncmmdicpcgmaa.Ch.rowAt t i).fst)] :
                SS } =
              { nt := 54,
                fr :=
                  [(0, SV.p (PV.c (CV.ptr (0) (0)))),
                    (1, SV.p (PV.c (CV.ptr (2) (0)))),
                    (3, SV.p (PV.c (CV.int IntKind.i64 x.at_))),
                    (9, SV.p (PV.c (CV.ptr (4) (0)))),
                    (11, SV.p (PV.c (CV.ptr (5) (0)))),
                    (27, SV.p (PV.c (CV.view tI (6) (0) x.ks.length))),
                    (28, SV.p (PV.c (CV.int IntKind.i64 (↑x.ks.length : Int)))),
                    (29, SV.p (PV.c (CV.int IntKind.i64 (↑(0 : Nat) : Int))))],
                hp :=
                  [HB.cells (59) [CV.view tR (1) (0) x.t.length], HB.row (56) tR x.t,
                    HB.cells (59) [CV.view tR (3) (0) x.r.length], HB.row (56) tR x.r,
                    HB.cells (39)
                      [CV.int IntKind.i64 x.n.fst, CV.int IntKind.i64 x.n.snd.fst.fst,
                        CV.int IntKind.i64 x.n.snd.fst.snd.fst, CV.int IntKind.i64 x.n.snd.fst.snd.snd,
                        CV.str x.n.snd.snd.fst, CV.row tI x.n.snd.snd.snd],
                    HB.cells (39)
                      [CV.int IntKind.i64 x.x.fst, CV.int IntKind.i64 x.x.snd.fst.fst,
                        CV.int IntKind.i64 x.x.snd.fst.snd.fst, CV.int IntKind.i64 x.x.snd.fst.snd.snd,
                        CV.str x.x.snd.snd.fst, CV.view tI (6) (0) x.ks.length],
                    HB.row (3) tI x.ks] :
                SS } ∧
            cdO m x ∧
              ∀ (s : List Rw) (js : List Int),
                LoopOf (nodes x.t) x.ks x.at_ x.n x.r s js →
                  0 + js.length ≤ js.length ∧
                    (s.length = s.length ∧
                        s.length < (65536 : Nat) ∧
                          RowsOk s ∧
                            (kidsOf (x.x.fst, x.x.snd.fst, x.x.snd.snd.fst, vw js (0) js.length)).length ≤
                              (65536 : Nat)) ∧
                      (goodB (x.x.fst, x.x.snd.fst, x.x.snd.snd.fst, vw js (0) js.length) s.length = false →
                          Q (SV.p (PV.c (CV.int IntKind.i64 (0 : Int))))
                            [HB.cells (59) [CV.view tR (1) (0) x.t.length],
                              HB.row (56) tR x.t,
                              HB.cells (59) [CV.view tR (3) (0) s.length],
                              HB.row (56) tR s]) ∧
                        (goodB (x.x.fst, x.x.snd.fst, x.x.snd.snd.fst, vw js (0) js.length) s.length = true →
                          Q (SV.p (PV.c (CV.int IntKind.i64 ((↑s.length : Int) + (1 : Int)))))
                            [HB.cells (59) [CV.view tR (1) (0) x.t.length],
                              HB.row (56) tR x.t,
                              HB.cells (59)
                                [CV.view tR (3) (0)
                                    (List.length
                                      (s ++
                                        [mkRow s
                                            (x.x.fst, x.x.snd.fst, x.x.snd.snd.fst, vw js (0) js.length)]))],
                              HB.row (56) tR
                                (s ++ [mkRow s (x.x.fst, x.x.snd.fst, x.x.snd.snd.fst, vw js (0) js.length)])])) := by kernel_rfl

theorem vc_swap (m : Nat) (t : List Rw) (i : Int) (at_ : Int) (n : Nd) (Q : SV → List HB → Prop) :
    (body Try.prog (gam (gSwap m)) noLam Try.f20 [PV.c (CV.ptr (0 : Nat) (0 : Nat)), ti i, ti at_, PV.agg (toCV tN n)]
  [HB.cells (59 : TypeId) [CV.view tR (1 : Nat) (0 : Nat) t.length], HB.row (56 : TypeId) tR t] Q) =
    (t.length = t.length ∧
  t.length ≤ (65536 : Nat) ∧
    bif !hasB t.length i then
      (true = false →
          (0 : Int) ≤ IntKind.i64.wrap (i - (1 : Int)) ∧ IntKind.i64.wrap (i - (1 : Int)) < (↑t.length : Int) ∧ True) ∧
        (true = false → 0 + (IntKind.i64.wrap (i - (1 : Int))).toNat < t.length ∧ True) ∧
          Q (SV.tup [PV.c CV.nilp, PV.c (CV.int IntKind.i64 (0 : Int))])
            [HB.cells (59) [CV.view tR (1) (0) t.length], HB.row (56) tR t]
    else
      ((false || !kindB n.fst) = false →
          (0 : Int) ≤ IntKind.i64.wrap (i - (1 : Int)) ∧ IntKind.i64.wrap (i - (1 : Int)) < (↑t.length : Int) ∧ True) ∧
        ((false || !kindB n.fst) = false → 0 + (IntKind.i64.wrap (i - (1 : Int))).toNat < t.length ∧ True) ∧
          bif
              false || !kindB n.fst ||
                decide
                  ((t.getD (0 + (IntKind.i64.wrap (i - (1 : Int))).toNat) tR.dft).snd.fst > (65536 : Int)) then
            Q (SV.tup [PV.c CV.nilp, PV.c (CV.int IntKind.i64 (0 : Int))])
              [HB.cells (59) [CV.view tR (1) (0) t.length], HB.row (56) tR t]
          else
            (t.length = t.length ∧ (0 : Nat) = ([] : List Rw).length ∧ copyO m t [] i n) ∧
              ∀ (s : List Rw) (idx : Int),
                CopyOf (nodes t) i at_ n [] s idx →
                  Q (SV.tup [PV.c (CV.ptr (2) (0)), PV.c (CV.int IntKind.i64 idx)])
                    [HB.cells (59) [CV.view tR (1) (0) t.length], HB.row (56) tR t,
                      HB.cells (59) [CV.view tR (3) (0) s.length], HB.row (56) tR s]) := by kernel_rfl

theorem vc_swap0 (m : Nat) (i : Int) (at_ : Int) (n : Nd) (Q : SV → List HB → Prop) :
    (body Try.prog (gam (gSwap m)) noLam Try.f20 [PV.c CV.nilp, ti i, ti at_, PV.agg (toCV tN n)] [] Q) =
    (Q (SV.tup [PV.c CV.nilp, PV.c (CV.int IntKind.i64 (0 : Int))]) []) := by kernel_rfl

end Go.Proofs.Ytmncmmdicpcgmaa.Ch
