/- Statements over the abstract machine, reckoned out: printed by a program of this session. No condition. -/
import Derived.Test.YtmncmmdicpcgmaaTV
namespace Go.Proofs.Ytmncmmdicpcgmaa.Ch
open Go Go.Proofs Go.Proofs.Ytmncmmdicpcgmaa.Sx
set_option linter.unusedVariables false
theorem vc_deepl (l : List Nd) (x : Int) (nd : Nd) (ks : List Int) (w : List Int) (sum : Int) (k : Nat) (K : SS → Prop) (Q : Exit → SS → Prop) :
    (sx Try.prog (gam gLDeep) noLam (lp Try.f6 (0 : Nat)) (0 : Nat) (stD l x nd ks w sum k)
  (thenQ (cq (0 : Nat) [(5 : Nat), (8 : Nat), (9 : Nat), (10 : Nat), (11 : Nat), (12 : Nat)] K)
    (cQE (0 : Nat) [(5 : Nat), (8 : Nat), (10 : Nat), (11 : Nat)] [(4 : Nat)] Q))) =
    (ks.length ≤ maxI →
  bif decide ((↑k : Int) < (↑ks.length : Int)) then
    (0 : Int) ≤ (↑k : Int) ∧
      (↑k : Int) < (↑ks.length : Int) ∧
        0 + (↑k : Int).toNat < ks.length ∧
          bif ks.getD (0 + (↑k : Int).toNat) tI.dft == (0 : Int) then
            K
              { nt := 160,
                fr :=
                  [(5, SV.p (PV.c (CV.ptr (0) (0)))),
                    (8, SV.p (PV.c (CV.int IntKind.i64 x))),
                    (9, SV.p (PV.c (CV.ptr (2) (0)))),
                    (10, SV.p (PV.c (CV.view tI (4) (0) w.length))),
                    (11, SV.p (PV.c (CV.int IntKind.i64 sum))),
                    (12, SV.p (PV.c (CV.int IntKind.i64 (IntKind.i64.wrap ((↑k : Int) + (1 : Int))))))],
                hp :=
                  [HB.cells (59) [CV.view tR (1) (0) (treeOf l).length],
                    HB.row (56) tR (treeOf l),
                    HB.cells (39)
                      [CV.int IntKind.i64 nd.fst, CV.int IntKind.i64 nd.snd.fst.fst,
                        CV.int IntKind.i64 nd.snd.fst.snd.fst, CV.int IntKind.i64 nd.snd.fst.snd.snd,
                        CV.str nd.snd.snd.fst, CV.view tI (3) (0) ks.length],
                    HB.row (3) tI ks, HB.row (3) tI w] :
                SS }
          else
            (0 : Int) ≤ (↑k : Int) ∧
              (↑k : Int) < (↑ks.length : Int) ∧
                0 + (↑k : Int).toNat < ks.length ∧
                  ((treeOf l).length = (treeOf l).length ∧ TreeOk (treeOf l)) ∧
                    ((treeOf l).length = (treeOf l).length ∧ TreeOk (treeOf l)) ∧
                      bif
                          decide
                            ((if hasB (treeOf l).length (ks.getD (0 + (↑k : Int).toNat) tI.dft) = true then
                                dep (nodes (treeOf l)) (ks.getD (0 + (↑k : Int).toNat) tI.dft)
                              else (0 : Int)) ≥
                              if hasB (treeOf l).length x = true then dep (nodes (treeOf l)) x else (0 : Int)) then
                        Q Exit.ret
                          { nt := 160, fr := [(4, SV.p (PV.c (CV.bool false)))], hp := [] : SS }
                      else
                        (0 : Int) ≤ (↑k : Int) ∧
                          (↑k : Int) < (↑ks.length : Int) ∧
                            0 + (↑k : Int).toNat < ks.length ∧
                              ((treeOf l).length = (treeOf l).length ∧ TreeOk (treeOf l)) ∧
                                ((wl (nodes (treeOf l)) (ks.getD (0 + (↑k : Int).toNat) tI.dft)).length ≤ maxI →
                                  K
                                    { nt := 160,
                                      fr :=
                                        [(5, SV.p (PV.c (CV.ptr (0) (0)))),
                                          (8, SV.p (PV.c (CV.int IntKind.i64 x))),
                                          (9, SV.p (PV.c (CV.ptr (2) (0)))),
                                          (10, SV.p (PV.c (CV.view tI (4) (0) w.length))),
                                          (11,
                                            SV.p
                                              (PV.c
                                                (CV.int IntKind.i64
                                                  (IntKind.i64.wrap
                                                    (sum +
                                                      (↑(wl (nodes (treeOf l))
                                                              (ks.getD (0 + (↑k : Int).toNat) tI.dft)).length :
                                                        Int)))))),
                                          (12,
                                            SV.p
                                              (PV.c (CV.int IntKind.i64 (IntKind.i64.wrap ((↑k : Int) + (1 : Int))))))],
                                      hp :=
                                        [HB.cells (59) [CV.view tR (1) (0) (treeOf l).length],
                                          HB.row (56) tR (treeOf l),
                                          HB.cells (39)
                                            [CV.int IntKind.i64 nd.fst, CV.int IntKind.i64 nd.snd.fst.fst,
                                              CV.int IntKind.i64 nd.snd.fst.snd.fst,
                                              CV.int IntKind.i64 nd.snd.fst.snd.snd, CV.str nd.snd.snd.fst,
                                              CV.view tI (3) (0) ks.length],
                                          HB.row (3) tI ks, HB.row (3) tI w] :
                                      SS })
  else
    Q (Exit.exit (0))
      { nt := 160,
        fr :=
          [(5, SV.p (PV.c (CV.ptr (0) (0)))), (8, SV.p (PV.c (CV.int IntKind.i64 x))),
            (10, SV.p (PV.c (CV.view tI (2) (0) w.length))),
            (11, SV.p (PV.c (CV.int IntKind.i64 sum)))],
        hp :=
          [HB.cells (59) [CV.view tR (1) (0) (treeOf l).length],
            HB.row (56) tR (treeOf l), HB.row (3) tI w] :
        SS }) := by kernel_rfl

theorem vc_deep (a : List Nd) (i : Int) (Q : SV → List HB → Prop) :
    (body Try.prog (gam gLDeep) (lam [((0 : Nat), deep_l)]) Try.f6 [PV.c (CV.row tN a), ti i] [] Q) =
    (bif greatB a then Q (SV.p (PV.c (CV.bool true))) []
else
  greatB a = false ∧
    ((laidL a).length ≤ maxI →
      bif (↑(laidL a).length : Int) == (0 : Int) then
        ((treeOf (laidL a)).length = (treeOf (laidL a)).length ∧ TreeOk (treeOf (laidL a))) ∧
          bif
              (if hasB (treeOf (laidL a)).length i = true then dep (nodes (treeOf (laidL a))) i else (0 : Int)) ==
                (0 : Int) then
            ((treeOf (laidL a)).length = (treeOf (laidL a)).length ∧ TreeOk (treeOf (laidL a))) ∧
              Q (SV.p (PV.c (CV.bool (true && (↑(wl (nodes (treeOf (laidL a))) i).length : Int) == (0 : Int))))) []
          else Q (SV.p (PV.c (CV.bool false))) []
      else
        (laidL a).length ≤ maxI →
          IntKind.u64.wrap (↑(laidL a).length : Int) ≠ (0 : Int) ∧
            ((treeOf (laidL a)).length = (treeOf (laidL a)).length ∧
                (treeOf (laidL a)).length ≤ (65536 : Nat) ∧
                  (∀ (r : tR.T), r ∈ treeOf (laidL a) → (kidsOf r.fst).length ≤ (65536 : Nat)) ∧
                    hasB (treeOf (laidL a)).length
                        (IntKind.i64.wrap
                          ((1 : Int) +
                            IntKind.i64.wrap
                              ((IntKind.u64.wrap i).tmod (IntKind.u64.wrap (↑(laidL a).length : Int))))) =
                      true) ∧
              ((treeOf (laidL a)).length = (treeOf (laidL a)).length ∧ TreeOk (treeOf (laidL a))) ∧
                ∃ (x : DD),
                  { nt := 160,
                        fr :=
                          [(5, SV.p (PV.c (CV.ptr (0) (0)))),
                            (8,
                              SV.p
                                (PV.c
                                  (CV.int IntKind.i64
                                    (IntKind.i64.wrap
                                      ((1 : Int) +
                                        IntKind.i64.wrap
                                          ((IntKind.u64.wrap i).tmod (IntKind.u64.wrap (↑(laidL a).length : Int)))))))),
                            (9, SV.p (PV.c (CV.ptr (2) (0)))),
                            (10,
                              SV.p
                                (PV.c
                                  (CV.view tI (4) (0)
                                    (wl (nodes (treeOf (laidL a)))
                                        (IntKind.i64.wrap
                                          ((1 : Int) +
                                            IntKind.i64.wrap
                                              ((IntKind.u64.wrap i).tmod
                                                (IntKind.u64.wrap (↑(laidL a).length : Int)))))).length))),
                            (11, SV.p (PV.c (CV.int IntKind.i64 (1 : Int)))),
                            (12, SV.p (PV.c (CV.int IntKind.i64 (0 : Int))))],
                        hp :=
                          [HB.cells (59) [CV.view tR (1) (0) (treeOf (laidL a)).length],
                            HB.row (56) tR (treeOf (laidL a)),
                            HB.cells (39)
                              [CV.int IntKind.i64
                                  (Ytmncmmdicpcgmaa.Ch.rowAt (treeOf (laidL a))
                                        (IntKind.i64.wrap
                                          ((1 : Int) +
                                            IntKind.i64.wrap
                                              ((IntKind.u64.wrap i).tmod
                                                (IntKind.u64.wrap (↑(laidL a).length : Int)))))).fst.fst,
                                CV.int IntKind.i64
                                  (Ytmncmmdicpcgmaa.Ch.rowAt (treeOf (laidL a))
                                            (IntKind.i64.wrap
                                              ((1 : Int) +
                                                IntKind.i64.wrap
                                                  ((IntKind.u64.wrap i).tmod
                                                    (IntKind.u64.wrap (↑(laidL a).length : Int)))))).fst.snd.fst.fst,
                                CV.int IntKind.i64
                                  (Ytmncmmdicpcgmaa.Ch.rowAt (treeOf (laidL a))
                                              (IntKind.i64.wrap
                                                ((1 : Int) +
                                                  IntKind.i64.wrap
                                                    ((IntKind.u64.wrap i).tmod
                                                      (IntKind.u64.wrap
                                                        (↑(laidL a).length : Int)))))).fst.snd.fst.snd.fst,
                                CV.int IntKind.i64
                                  (Ytmncmmdicpcgmaa.Ch.rowAt (treeOf (laidL a))
                                              (IntKind.i64.wrap
                                                ((1 : Int) +
                                                  IntKind.i64.wrap
                                                    ((IntKind.u64.wrap i).tmod
                                                      (IntKind.u64.wrap
                                                        (↑(laidL a).length : Int)))))).fst.snd.fst.snd.snd,
                                CV.str
                                  (Ytmncmmdicpcgmaa.Ch.rowAt (treeOf (laidL a))
                                            (IntKind.i64.wrap
                                              ((1 : Int) +
                                                IntKind.i64.wrap
                                                  ((IntKind.u64.wrap i).tmod
                                                    (IntKind.u64.wrap (↑(laidL a).length : Int)))))).fst.snd.snd.fst,
                                CV.view tI (3) (0)
                                  (kidsOf
                                      (Ytmncmmdicpcgmaa.Ch.rowAt (treeOf (laidL a))
                                          (IntKind.i64.wrap
                                            ((1 : Int) +
                                              IntKind.i64.wrap
                                                ((IntKind.u64.wrap i).tmod
                                                  (IntKind.u64.wrap (↑(laidL a).length : Int)))))).fst).length],
                            HB.row (3) tI
                              (kidsOf
                                (Ytmncmmdicpcgmaa.Ch.rowAt (treeOf (laidL a))
                                    (IntKind.i64.wrap
                                      ((1 : Int) +
                                        IntKind.i64.wrap
                                          ((IntKind.u64.wrap i).tmod
                                            (IntKind.u64.wrap (↑(laidL a).length : Int)))))).fst),
                            HB.row (3) tI
                              (wl (nodes (treeOf (laidL a)))
                                (IntKind.i64.wrap
                                  ((1 : Int) +
                                    IntKind.i64.wrap
                                      ((IntKind.u64.wrap i).tmod (IntKind.u64.wrap (↑(laidL a).length : Int))))))] :
                        SS } =
                      { nt := 160,
                        fr :=
                          [(5, SV.p (PV.c (CV.ptr (0) (0)))),
                            (8, SV.p (PV.c (CV.int IntKind.i64 x.x))),
                            (9, SV.p (PV.c (CV.ptr (2) (0)))),
                            (10, SV.p (PV.c (CV.view tI (4) (0) x.w.length))),
                            (11, SV.p (PV.c (CV.int IntKind.i64 (1 : Int)))),
                            (12, SV.p (PV.c (CV.int IntKind.i64 (↑(0 : Nat) : Int))))],
                        hp :=
                          [HB.cells (59) [CV.view tR (1) (0) (treeOf x.l).length],
                            HB.row (56) tR (treeOf x.l),
                            HB.cells (39)
                              [CV.int IntKind.i64 x.nd.fst, CV.int IntKind.i64 x.nd.snd.fst.fst,
                                CV.int IntKind.i64 x.nd.snd.fst.snd.fst, CV.int IntKind.i64 x.nd.snd.fst.snd.snd,
                                CV.str x.nd.snd.snd.fst, CV.view tI (3) (0) x.ks.length],
                            HB.row (3) tI x.ks, HB.row (3) tI x.w] :
                        SS } ∧
                    ddO x ∧
                      (x.w.length ≤ maxI →
                        (((↑x.w.length : Int) == (1 : Int) + (↑(List.flatMap (wl x.l) x.ks).length : Int)) = true →
                            (0 : Int) ≤ (0 : Int) ∧ (0 : Int) < (↑x.w.length : Int) ∧ True) ∧
                          (((↑x.w.length : Int) == (1 : Int) + (↑(List.flatMap (wl x.l) x.ks).length : Int)) = true →
                              (0 : Nat) < x.w.length ∧ True) ∧
                            bif
                                (↑x.w.length : Int) == (0 : Int) ||
                                  (↑x.w.length : Int) == (1 : Int) + (↑(List.flatMap (wl x.l) x.ks).length : Int) &&
                                    x.w.getD (0 : Nat) tI.dft == x.x then
                              ((treeOf x.l).length = (treeOf x.l).length ∧ TreeOk (treeOf x.l)) ∧
                                bif
                                    true &&
                                            decide
                                              ((if hasB (treeOf x.l).length x.x = true then dep (nodes (treeOf x.l)) x.x
                                                else (0 : Int)) ≥
                                                (1 : Int)) &&
                                          (2 : Int) == (2 : Int) &&
                                        true &&
                                      (0 : Int) == (0 : Int) then
                                  Q (SV.p (PV.c (CV.bool true))) []
                                else Q (SV.p (PV.c (CV.bool false))) []
                            else Q (SV.p (PV.c (CV.bool false))) []))) := by kernel_rfl

theorem vc_c1 (l : List Nd) (v : List Rw) (x : Int) (y : Int) (j : Int) (w : List Int) (b : Bool) (h : Nat) (K : SS → Prop) (Q : Exit → SS → Prop) :
    (sx Try.prog (gam gLCopies) noLam (lp Try.f5 (0 : Nat)) (0 : Nat) (stC1 l v x y j w b h)
  (thenQ
    (cq (0 : Nat)
      [(7 : Nat), (8 : Nat), (12 : Nat), (13 : Nat), (14 : Nat), (17 : Nat), (18 : Nat), (19 : Nat), (20 : Nat)] K)
    (cQE (0 : Nat) [(7 : Nat), (8 : Nat), (12 : Nat), (13 : Nat), (17 : Nat), (18 : Nat), (19 : Nat)] [] Q))) =
    (w.length ≤ maxI →
  bif decide ((↑h : Int) < (↑w.length : Int)) then
    (b = false → (0 : Int) ≤ (↑h : Int) ∧ (↑h : Int) < (↑w.length : Int) ∧ True) ∧
      (b = false → 0 + (↑h : Int).toNat < w.length ∧ True) ∧
        K
          { nt := 190,
            fr :=
              [(7, SV.p (PV.c (CV.ptr (0) (0)))),
                (8, SV.p (PV.c (CV.view tN (2) (0) l.length))),
                (12, SV.p (PV.c (CV.int IntKind.i64 x))), (13, SV.p (PV.c (CV.int IntKind.i64 y))),
                (14, SV.p (PV.c (CV.view tI (3) (0) w.length))),
                (17, SV.p (PV.c (CV.ptr (4) (0)))),
                (18, SV.p (PV.c (CV.int IntKind.i64 j))),
                (19, SV.p (PV.c (CV.bool (b || w.getD (0 + (↑h : Int).toNat) tI.dft == y)))),
                (20, SV.p (PV.c (CV.int IntKind.i64 (IntKind.i64.wrap ((↑h : Int) + (1 : Int))))))],
            hp :=
              [HB.cells (59) [CV.view tR (1) (0) (treeOf l).length],
                HB.row (56) tR (treeOf l), HB.row (39) tN l, HB.row (3) tI w,
                HB.cells (59) [CV.view tR (5) (0) v.length], HB.row (56) tR v] :
            SS }
  else
    Q (Exit.exit (0))
      { nt := 190,
        fr :=
          [(7, SV.p (PV.c (CV.ptr (0) (0)))),
            (8, SV.p (PV.c (CV.view tN (2) (0) l.length))),
            (12, SV.p (PV.c (CV.int IntKind.i64 x))), (13, SV.p (PV.c (CV.int IntKind.i64 y))),
            (17, SV.p (PV.c (CV.ptr (3) (0)))),
            (18, SV.p (PV.c (CV.int IntKind.i64 j))), (19, SV.p (PV.c (CV.bool b)))],
        hp :=
          [HB.cells (59) [CV.view tR (1) (0) (treeOf l).length],
            HB.row (56) tR (treeOf l), HB.row (39) tN l,
            HB.cells (59) [CV.view tR (4) (0) v.length], HB.row (56) tR v] :
        SS }) := by kernel_rfl

theorem vc_c2 (l : List Nd) (k : Nat) (K : SS → Prop) (Q : Exit → SS → Prop) :
    (sx Try.prog (gam gLCopies) noLam (lp Try.f5 (1 : Nat)) (2 : Nat) (stC2 l k)
  (thenQ (cq (0 : Nat) [(7 : Nat), (8 : Nat), (23 : Nat)] K) (cQE (0 : Nat) [] [(6 : Nat)] Q))) =
    (l.length ≤ maxI →
  bif decide ((↑k : Int) < (↑l.length : Int)) then
    (0 : Int) ≤ (↑k : Int) ∧
      (↑k : Int) < (↑l.length : Int) ∧
        (((treeOf l).length = (treeOf l).length ∧
              (treeOf l).length ≤ (65536 : Nat) ∧
                (∀ (r : tR.T), r ∈ treeOf l → (kidsOf r.fst).length ≤ (65536 : Nat)) ∧
                  hasB (treeOf l).length (IntKind.i64.wrap ((↑k : Int) + (1 : Int))) = true) ∧
            0 + (↑k : Int).toNat < l.length ∧
              0 +
                    (kidsOf
                        (Ytmncmmdicpcgmaa.Ch.rowAt (treeOf l) (IntKind.i64.wrap ((↑k : Int) + (1 : Int)))).fst).length ≤
                  (kidsOf
                      (Ytmncmmdicpcgmaa.Ch.rowAt (treeOf l) (IntKind.i64.wrap ((↑k : Int) + (1 : Int)))).fst).length ∧
                bif
                    !decide
                        (((Ytmncmmdicpcgmaa.Ch.rowAt (treeOf l) (IntKind.i64.wrap ((↑k : Int) + (1 : Int)))).fst.fst,
                            (Ytmncmmdicpcgmaa.Ch.rowAt (treeOf l)
                                    (IntKind.i64.wrap ((↑k : Int) + (1 : Int)))).fst.snd.fst,
                            (Ytmncmmdicpcgmaa.Ch.rowAt (treeOf l)
                                      (IntKind.i64.wrap ((↑k : Int) + (1 : Int)))).fst.snd.snd.fst,
                            vw
                              (kidsOf
                                (Ytmncmmdicpcgmaa.Ch.rowAt (treeOf l) (IntKind.i64.wrap ((↑k : Int) + (1 : Int)))).fst)
                              (0)
                              (kidsOf
                                  (Ytmncmmdicpcgmaa.Ch.rowAt (treeOf l)
                                      (IntKind.i64.wrap ((↑k : Int) + (1 : Int)))).fst).length) =
                          l.getD (0 + (↑k : Int).toNat) tN.dft) then
                  Q Exit.ret { nt := 190, fr := [(6, SV.p (PV.c (CV.bool false)))], hp := [] : SS }
                else
                  K
                    { nt := 190,
                      fr :=
                        [(7, SV.p (PV.c (CV.ptr (0) (0)))),
                          (8, SV.p (PV.c (CV.view tN (2) (0) l.length))),
                          (23, SV.p (PV.c (CV.int IntKind.i64 (IntKind.i64.wrap ((↑k : Int) + (1 : Int))))))],
                      hp :=
                        [HB.cells (59) [CV.view tR (1) (0) (treeOf l).length],
                          HB.row (56) tR (treeOf l), HB.row (39) tN l] :
                      SS }) ∧
          0 + (↑k : Int).toNat < l.length ∧
            ((treeOf l).length = (treeOf l).length ∧
                (treeOf l).length ≤ (65536 : Nat) ∧
                  (∀ (r : tR.T), r ∈ treeOf l → (kidsOf r.fst).length ≤ (65536 : Nat)) ∧
                    hasB (treeOf l).length (IntKind.i64.wrap ((↑k : Int) + (1 : Int))) = true) ∧
              0 +
                    (kidsOf
                        (Ytmncmmdicpcgmaa.Ch.rowAt (treeOf l) (IntKind.i64.wrap ((↑k : Int) + (1 : Int)))).fst).length ≤
                  (kidsOf
                      (Ytmncmmdicpcgmaa.Ch.rowAt (treeOf l) (IntKind.i64.wrap ((↑k : Int) + (1 : Int)))).fst).length ∧
                bif
                    !decide
                        (((Ytmncmmdicpcgmaa.Ch.rowAt (treeOf l) (IntKind.i64.wrap ((↑k : Int) + (1 : Int)))).fst.fst,
                            (Ytmncmmdicpcgmaa.Ch.rowAt (treeOf l)
                                    (IntKind.i64.wrap ((↑k : Int) + (1 : Int)))).fst.snd.fst,
                            (Ytmncmmdicpcgmaa.Ch.rowAt (treeOf l)
                                      (IntKind.i64.wrap ((↑k : Int) + (1 : Int)))).fst.snd.snd.fst,
                            vw
                              (kidsOf
                                (Ytmncmmdicpcgmaa.Ch.rowAt (treeOf l) (IntKind.i64.wrap ((↑k : Int) + (1 : Int)))).fst)
                              (0)
                              (kidsOf
                                  (Ytmncmmdicpcgmaa.Ch.rowAt (treeOf l)
                                      (IntKind.i64.wrap ((↑k : Int) + (1 : Int)))).fst).length) =
                          l.getD (0 + (↑k : Int).toNat) tN.dft) then
                  Q Exit.ret { nt := 190, fr := [(6, SV.p (PV.c (CV.bool false)))], hp := [] : SS }
                else
                  K
                    { nt := 190,
                      fr :=
                        [(7, SV.p (PV.c (CV.ptr (0) (0)))),
                          (8, SV.p (PV.c (CV.view tN (2) (0) l.length))),
                          (23, SV.p (PV.c (CV.int IntKind.i64 (IntKind.i64.wrap ((↑k : Int) + (1 : Int))))))],
                      hp :=
                        [HB.cells (59) [CV.view tR (1) (0) (treeOf l).length],
                          HB.row (56) tR (treeOf l), HB.row (39) tN l] :
                      SS }
  else Q (Exit.exit (2)) { nt := 190, fr := [], hp := [] : SS }) := by kernel_rfl

theorem vc_copies (a : List Nd) (i : Int) (at_ : Int) (Q : SV → List HB → Prop) :
    (body Try.prog (gam gLCopies) (lam [((0 : Nat), c1_l), ((2 : Nat), c2_l)]) Try.f5 [PV.c (CV.row tN a), ti i, ti at_] [] Q) =
    (bif greatB a then Q (SV.p (PV.c (CV.bool true))) []
else
  greatB a = false ∧
    ((laidL a).length ≤ maxI →
      bif (↑(laidL a).length : Int) == (0 : Int) then
        ((treeOf (laidL a)).length = (treeOf (laidL a)).length ∧
            TreeOk (treeOf (laidL a)) ∧ ∀ (r : tR.T), r ∈ treeOf (laidL a) → (kidsOf r.fst).length ≤ (65536 : Nat)) ∧
          (swapB (treeOf (laidL a)) i ((9 : Int), ((0 : Int), (0 : Int), (0 : Int)), { data := #[] : ByteArray }, []) =
                false →
              Q (SV.p (PV.c (CV.bool true))) []) ∧
            (swapB (treeOf (laidL a)) i
                  ((9 : Int), ((0 : Int), (0 : Int), (0 : Int)), { data := #[] : ByteArray }, []) =
                true →
              ∀ (s : List Rw) (idx : Int),
                CopyOf (nodes (treeOf (laidL a))) i at_
                    ((9 : Int), ((0 : Int), (0 : Int), (0 : Int)), { data := #[] : ByteArray }, []) [] s idx →
                  Q (SV.p (PV.c (CV.bool false))) [])
      else
        (laidL a).length ≤ maxI →
          IntKind.u64.wrap (↑(laidL a).length : Int) ≠ (0 : Int) ∧
            ((laidL a).length ≤ maxI →
              IntKind.u64.wrap (↑(laidL a).length : Int) ≠ (0 : Int) ∧
                ((treeOf (laidL a)).length = (treeOf (laidL a)).length ∧ TreeOk (treeOf (laidL a))) ∧
                  ((wl (nodes (treeOf (laidL a)))
                          (IntKind.i64.wrap
                            ((1 : Int) +
                              IntKind.i64.wrap
                                ((IntKind.u64.wrap i).tmod (IntKind.u64.wrap (↑(laidL a).length : Int)))))).length ≤
                      maxI →
                    bif
                        (↑(wl (nodes (treeOf (laidL a)))
                                  (IntKind.i64.wrap
                                    ((1 : Int) +
                                      IntKind.i64.wrap
                                        ((IntKind.u64.wrap i).tmod
                                          (IntKind.u64.wrap (↑(laidL a).length : Int)))))).length :
                            Int) ==
                          (0 : Int) then
                      Q (SV.p (PV.c (CV.bool true))) []
                    else
                      ((treeOf (laidL a)).length = (treeOf (laidL a)).length ∧
                          TreeOk (treeOf (laidL a)) ∧
                            ∀ (r : tR.T), r ∈ treeOf (laidL a) → (kidsOf r.fst).length ≤ (65536 : Nat)) ∧
                        (swapB (treeOf (laidL a))
                                (IntKind.i64.wrap
                                  ((1 : Int) +
                                    IntKind.i64.wrap
                                      ((IntKind.u64.wrap i).tmod (IntKind.u64.wrap (↑(laidL a).length : Int)))))
                                ((9 : Int), ((0 : Int), (0 : Int), (0 : Int)), { data := #[] : ByteArray }, []) =
                              false →
                            Q (SV.p (PV.c (CV.bool false))) []) ∧
                          (swapB (treeOf (laidL a))
                                (IntKind.i64.wrap
                                  ((1 : Int) +
                                    IntKind.i64.wrap
                                      ((IntKind.u64.wrap i).tmod (IntKind.u64.wrap (↑(laidL a).length : Int)))))
                                ((9 : Int), ((0 : Int), (0 : Int), (0 : Int)), { data := #[] : ByteArray }, []) =
                              true →
                            ∀ (s : List Rw) (idx : Int),
                              CopyOf (nodes (treeOf (laidL a)))
                                  (IntKind.i64.wrap
                                    ((1 : Int) +
                                      IntKind.i64.wrap
                                        ((IntKind.u64.wrap i).tmod (IntKind.u64.wrap (↑(laidL a).length : Int)))))
                                  (0 : Int)
                                  ((9 : Int), ((0 : Int), (0 : Int), (0 : Int)), { data := #[] : ByteArray }, []) [] s
                                  idx →
                                ((treeOf (laidL a)).length = (treeOf (laidL a)).length ∧
                                    s.length = s.length ∧
                                      smO (100 : Nat) (treeOf (laidL a)) s
                                        (IntKind.i64.wrap
                                          ((1 : Int) +
                                            IntKind.i64.wrap
                                              ((IntKind.u64.wrap i).tmod
                                                (IntKind.u64.wrap (↑(laidL a).length : Int)))))) ∧
                                  bif
                                      false ||
                                        !sm (nodes (treeOf (laidL a)))
                                            (IntKind.i64.wrap
                                              ((1 : Int) +
                                                IntKind.i64.wrap
                                                  ((IntKind.u64.wrap i).tmod
                                                    (IntKind.u64.wrap (↑(laidL a).length : Int)))))
                                            (nodes s) idx then
                                    Q (SV.p (PV.c (CV.bool false))) []
                                  else
                                    s.length = s.length ∧
                                      bif
                                          false ||
                                            (↑s.length : Int) !=
                                              (↑(wl (nodes (treeOf (laidL a)))
                                                      (IntKind.i64.wrap
                                                        ((1 : Int) +
                                                          IntKind.i64.wrap
                                                            ((IntKind.u64.wrap i).tmod
                                                              (IntKind.u64.wrap (↑(laidL a).length : Int)))))).length :
                                                Int) then
                                        Q (SV.p (PV.c (CV.bool false))) []
                                      else
                                        ((treeOf (laidL a)).length = (treeOf (laidL a)).length ∧
                                            TreeOk (treeOf (laidL a)) ∧
                                              ∀ (r : tR.T),
                                                r ∈ treeOf (laidL a) → (kidsOf r.fst).length ≤ (65536 : Nat)) ∧
                                          (swapB (treeOf (laidL a))
                                                  (IntKind.i64.wrap
                                                    ((1 : Int) +
                                                      IntKind.i64.wrap
                                                        ((IntKind.u64.wrap i).tmod
                                                          (IntKind.u64.wrap (↑(laidL a).length : Int)))))
                                                  ((18 : Int), ((0 : Int), (0 : Int), (0 : Int)),
                                                    {
                                                      data :=
                                                        #[(115 : UInt8), (119 : UInt8), (97 : UInt8), (112 : UInt8),
                                                          (112 : UInt8), (101 : UInt8), (100 : UInt8)] :
                                                      ByteArray },
                                                    []) =
                                                false →
                                              Q (SV.p (PV.c (CV.bool false))) []) ∧
                                            (swapB (treeOf (laidL a))
                                                  (IntKind.i64.wrap
                                                    ((1 : Int) +
                                                      IntKind.i64.wrap
                                                        ((IntKind.u64.wrap i).tmod
                                                          (IntKind.u64.wrap (↑(laidL a).length : Int)))))
                                                  ((18 : Int), ((0 : Int), (0 : Int), (0 : Int)),
                                                    {
                                                      data :=
                                                        #[(115 : UInt8), (119 : UInt8), (97 : UInt8), (112 : UInt8),
                                                          (112 : UInt8), (101 : UInt8), (100 : UInt8)] :
                                                      ByteArray },
                                                    []) =
                                                true →
                                              ∀ (s : List Rw) (idx : Int),
                                                CopyOf (nodes (treeOf (laidL a)))
                                                    (IntKind.i64.wrap
                                                      ((1 : Int) +
                                                        IntKind.i64.wrap
                                                          ((IntKind.u64.wrap i).tmod
                                                            (IntKind.u64.wrap (↑(laidL a).length : Int)))))
                                                    (IntKind.i64.wrap
                                                      ((1 : Int) +
                                                        IntKind.i64.wrap
                                                          ((IntKind.u64.wrap at_).tmod
                                                            (IntKind.u64.wrap (↑(laidL a).length : Int)))))
                                                    ((18 : Int), ((0 : Int), (0 : Int), (0 : Int)),
                                                      {
                                                        data :=
                                                          #[(115 : UInt8), (119 : UInt8), (97 : UInt8), (112 : UInt8),
                                                            (112 : UInt8), (101 : UInt8), (100 : UInt8)] :
                                                        ByteArray },
                                                      [])
                                                    [] s idx →
                                                  ∃ (x : C1D),
                                                    { nt := 190,
                                                          fr :=
                                                            [(7, SV.p (PV.c (CV.ptr (0) (0)))),
                                                              (8,
                                                                SV.p
                                                                  (PV.c
                                                                    (CV.view tN (2) (0)
                                                                      (laidL a).length))),
                                                              (12,
                                                                SV.p
                                                                  (PV.c
                                                                    (CV.int IntKind.i64
                                                                      (IntKind.i64.wrap
                                                                        ((1 : Int) +
                                                                          IntKind.i64.wrap
                                                                            ((IntKind.u64.wrap i).tmod
                                                                              (IntKind.u64.wrap
                                                                                (↑(laidL a).length : Int)))))))),
                                                              (13,
                                                                SV.p
                                                                  (PV.c
                                                                    (CV.int IntKind.i64
                                                                      (IntKind.i64.wrap
                                                                        ((1 : Int) +
                                                                          IntKind.i64.wrap
                                                                            ((IntKind.u64.wrap at_).tmod
                                                                              (IntKind.u64.wrap
                                                                                (↑(laidL a).length : Int)))))))),
                                                              (14,
                                                                SV.p
                                                                  (PV.c
                                                                    (CV.view tI (3) (0)
                                                                      (wl (nodes (treeOf (laidL a)))
                                                                          (IntKind.i64.wrap
                                                                            ((1 : Int) +
                                                                              IntKind.i64.wrap
                                                                                ((IntKind.u64.wrap i).tmod
                                                                                  (IntKind.u64.wrap
                                                                                    (↑(laidL a).length :
                                                                                      Int)))))).length))),
                                                              (17,
                                                                SV.p (PV.c (CV.ptr (4) (0)))),
                                                              (18, SV.p (PV.c (CV.int IntKind.i64 idx))),
                                                              (19, SV.p (PV.c (CV.bool false))),
                                                              (20, SV.p (PV.c (CV.int IntKind.i64 (0 : Int))))],
                                                          hp :=
                                                            [HB.cells (59)
                                                                [CV.view tR (1) (0)
                                                                    (treeOf (laidL a)).length],
                                                              HB.row (56) tR (treeOf (laidL a)),
                                                              HB.row (39) tN (laidL a),
                                                              HB.row (3) tI
                                                                (wl (nodes (treeOf (laidL a)))
                                                                  (IntKind.i64.wrap
                                                                    ((1 : Int) +
                                                                      IntKind.i64.wrap
                                                                        ((IntKind.u64.wrap i).tmod
                                                                          (IntKind.u64.wrap
                                                                            (↑(laidL a).length : Int)))))),
                                                              HB.cells (59)
                                                                [CV.view tR (5) (0) s.length],
                                                              HB.row (56) tR s] :
                                                          SS } =
                                                        { nt := 190,
                                                          fr :=
                                                            [(7, SV.p (PV.c (CV.ptr (0) (0)))),
                                                              (8,
                                                                SV.p
                                                                  (PV.c
                                                                    (CV.view tN (2) (0) x.l.length))),
                                                              (12, SV.p (PV.c (CV.int IntKind.i64 x.x))),
                                                              (13, SV.p (PV.c (CV.int IntKind.i64 x.y))),
                                                              (14,
                                                                SV.p
                                                                  (PV.c
                                                                    (CV.view tI (3) (0) x.w.length))),
                                                              (17,
                                                                SV.p (PV.c (CV.ptr (4) (0)))),
                                                              (18, SV.p (PV.c (CV.int IntKind.i64 x.j))),
                                                              (19, SV.p (PV.c (CV.bool false))),
                                                              (20,
                                                                SV.p (PV.c (CV.int IntKind.i64 (↑(0 : Nat) : Int))))],
                                                          hp :=
                                                            [HB.cells (59)
                                                                [CV.view tR (1) (0)
                                                                    (treeOf x.l).length],
                                                              HB.row (56) tR (treeOf x.l),
                                                              HB.row (39) tN x.l, HB.row (3) tI x.w,
                                                              HB.cells (59)
                                                                [CV.view tR (5) (0) x.v.length],
                                                              HB.row (56) tR x.v] :
                                                          SS } ∧
                                                      x.w.length ≤ (65536 : Nat) ∧
                                                        ((treeOf x.l).length = (treeOf x.l).length ∧
                                                            x.v.length = x.v.length ∧
                                                              smO (100 : Nat) (treeOf x.l) x.v x.x) ∧
                                                          (0 : Int) ≤ IntKind.i64.wrap (x.y - (1 : Int)) ∧
                                                            IntKind.i64.wrap (x.y - (1 : Int)) < (↑x.l.length : Int) ∧
                                                              0 + (IntKind.i64.wrap (x.y - (1 : Int))).toNat <
                                                                  x.l.length ∧
                                                                (((x.l.getD
                                                                            (0 +
                                                                              (IntKind.i64.wrap
                                                                                  (x.y - (1 : Int))).toNat)
                                                                            tN.dft).fst ==
                                                                        (18 : Int)) =
                                                                      true →
                                                                    (0 : Int) ≤ IntKind.i64.wrap (x.y - (1 : Int)) ∧
                                                                      IntKind.i64.wrap (x.y - (1 : Int)) <
                                                                          (↑x.l.length : Int) ∧
                                                                        True) ∧
                                                                  (((x.l.getD
                                                                              (0 +
                                                                                (IntKind.i64.wrap
                                                                                    (x.y - (1 : Int))).toNat)
                                                                              tN.dft).fst ==
                                                                          (18 : Int)) =
                                                                        true →
                                                                      0 +
                                                                            (IntKind.i64.wrap (x.y - (1 : Int))).toNat <
                                                                          x.l.length ∧
                                                                        True) ∧
                                                                    (((x.l.getD
                                                                                  (0 +
                                                                                    (IntKind.i64.wrap
                                                                                        (x.y - (1 : Int))).toNat)
                                                                                  tN.dft).fst ==
                                                                              (18 : Int) &&
                                                                            strEq
                                                                              (x.l.getD
                                                                                      (0 +
                                                                                        (IntKind.i64.wrap
                                                                                            (x.y - (1 : Int))).toNat)
                                                                                      tN.dft).snd.snd.fst
                                                                              {
                                                                                data :=
                                                                                  #[(115 : UInt8), (119 : UInt8),
                                                                                    (97 : UInt8), (112 : UInt8),
                                                                                    (112 : UInt8), (101 : UInt8),
                                                                                    (100 : UInt8)] :
                                                                                ByteArray }) =
                                                                          true →
                                                                        (0 : Int) ≤ IntKind.i64.wrap (x.y - (1 : Int)) ∧
                                                                          IntKind.i64.wrap (x.y - (1 : Int)) <
                                                                              (↑x.l.length : Int) ∧
                                                                            True) ∧
                                                                      (((x.l.getD
                                                                                    (0 +
                                                                                      (IntKind.i64.wrap
                                                                                          (x.y - (1 : Int))).toNat)
                                                                                    tN.dft).fst ==
                                                                                (18 : Int) &&
                                                                              strEq
                                                                                (x.l.getD
                                                                                        (0 +
                                                                                          (IntKind.i64.wrap
                                                                                              (x.y - (1 : Int))).toNat)
                                                                                        tN.dft).snd.snd.fst
                                                                                {
                                                                                  data :=
                                                                                    #[(115 : UInt8), (119 : UInt8),
                                                                                      (97 : UInt8), (112 : UInt8),
                                                                                      (112 : UInt8), (101 : UInt8),
                                                                                      (100 : UInt8)] :
                                                                                  ByteArray }) =
                                                                            true →
                                                                          0 +
                                                                                (IntKind.i64.wrap
                                                                                    (x.y - (1 : Int))).toNat <
                                                                              x.l.length ∧
                                                                            True) ∧
                                                                        bif
                                                                            !(!sm (nodes (treeOf x.l)) x.x (nodes x.v)
                                                                                    x.j) ==
                                                                                (decide (x.y ∈ x.w) &&
                                                                                  !((x.l.getD
                                                                                              (0 +
                                                                                                (IntKind.i64.wrap
                                                                                                    (x.y -
                                                                                                      (1 : Int))).toNat)
                                                                                              tN.dft).fst ==
                                                                                          (18 : Int) &&
                                                                                        strEq
                                                                                          (x.l.getD
                                                                                                  (0 +
                                                                                                    (IntKind.i64.wrap
                                                                                                        (x.y -
                                                                                                          (1 :
                                                                                                            Int))).toNat)
                                                                                                  tN.dft).snd.snd.fst
                                                                                          {
                                                                                            data :=
                                                                                              #[(115 : UInt8),
                                                                                                (119 : UInt8),
                                                                                                (97 : UInt8),
                                                                                                (112 : UInt8),
                                                                                                (112 : UInt8),
                                                                                                (101 : UInt8),
                                                                                                (100 : UInt8)] :
                                                                                            ByteArray } &&
                                                                                      (↑(List.length
                                                                                              (x.l.getD
                                                                                                      (0 +
                                                                                                        (IntKind.i64.wrap
                                                                                                            (x.y -
                                                                                                              (1 :
                                                                                                                Int))).toNat)
                                                                                                      tN.dft).snd.snd.snd) :
                                                                                          Int) ==
                                                                                        (0 : Int))) then
                                                                          Q (SV.p (PV.c (CV.bool false))) []
                                                                        else
                                                                          (treeOf x.l).length = (treeOf x.l).length ∧
                                                                            bif
                                                                                false ||
                                                                                  (↑(treeOf x.l).length : Int) !=
                                                                                    (↑x.l.length : Int) then
                                                                              Q (SV.p (PV.c (CV.bool false))) []
                                                                            else
                                                                              ∃ (x_1 : List Nd),
                                                                                { nt := 190,
                                                                                      fr :=
                                                                                        [(7,
                                                                                            SV.p
                                                                                              (PV.c
                                                                                                (CV.ptr (0)
                                                                                                  (0)))),
                                                                                          (8,
                                                                                            SV.p
                                                                                              (PV.c
                                                                                                (CV.view tN (2)
                                                                                                  (0)
                                                                                                  x.l.length))),
                                                                                          (23,
                                                                                            SV.p
                                                                                              (PV.c
                                                                                                (CV.int IntKind.i64
                                                                                                  (0 : Int))))],
                                                                                      hp :=
                                                                                        [HB.cells (59)
                                                                                            [CV.view tR (1)
                                                                                                (0)
                                                                                                (treeOf x.l).length],
                                                                                          HB.row (56) tR
                                                                                            (treeOf x.l),
                                                                                          HB.row (39) tN x.l] :
                                                                                      SS } =
                                                                                    { nt := 190,
                                                                                      fr :=
                                                                                        [(7,
                                                                                            SV.p
                                                                                              (PV.c
                                                                                                (CV.ptr (0)
                                                                                                  (0)))),
                                                                                          (8,
                                                                                            SV.p
                                                                                              (PV.c
                                                                                                (CV.view tN (2)
                                                                                                  (0)
                                                                                                  x_1.length))),
                                                                                          (23,
                                                                                            SV.p
                                                                                              (PV.c
                                                                                                (CV.int IntKind.i64
                                                                                                  (↑(0 : Nat) :
                                                                                                    Int))))],
                                                                                      hp :=
                                                                                        [HB.cells (59)
                                                                                            [CV.view tR (1)
                                                                                                (0)
                                                                                                (treeOf x_1).length],
                                                                                          HB.row (56) tR
                                                                                            (treeOf x_1),
                                                                                          HB.row (39) tN x_1] :
                                                                                      SS } ∧
                                                                                  listOk x_1 ∧
                                                                                    Q (SV.p (PV.c (CV.bool true)))
                                                                                      [])))))) := by kernel_rfl

end Go.Proofs.Ytmncmmdicpcgmaa.Ch
