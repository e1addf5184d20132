/- Statements over the abstract machine, reckoned out: printed by a program of this session. No condition. -/
import Derived.Test.YtmncmmdicpcgmaaTN
namespace Go.Proofs.Ytmncmmdicpcgmaa.Ch
open Go Go.Proofs Go.Proofs.Ytmncmmdicpcgmaa.Sx
set_option linter.unusedVariables false
theorem vc_rsi (l : List Nd) (m : List Nd) (a : List Int) (b : List Int) (j : Nat) (x : Nd) (y : Nd) (h : Nat) (K : SS → Prop) (Q : Exit → SS → Prop) :
    (sx Try.prog (gam []) noLam (lpIn (lp Try.f12 (0 : Nat)) (0 : Nat) (0 : Nat)) (2 : Nat) (stRI l m a b j x y h)
  (thenQ (cq (0 : Nat) [(0 : Nat), (2 : Nat), (9 : Nat), (10 : Nat), (11 : Nat), (12 : Nat), (13 : Nat), (14 : Nat)] K)
    (cQE (0 : Nat) [(0 : Nat), (2 : Nat), (9 : Nat), (10 : Nat), (11 : Nat)] [(8 : Nat)] Q))) =
    (List.length x.snd.snd.snd ≤ maxI →
  bif decide ((↑h : Int) < (↑(List.length x.snd.snd.snd) : Int)) then
    (0 : Int) ≤ (↑h : Int) ∧
      (↑h : Int) < (↑(List.length x.snd.snd.snd) : Int) ∧
        (↑h : Int).toNat < List.length x.snd.snd.snd ∧
          (0 : Int) ≤ (↑h : Int) ∧
            (↑h : Int) < (↑(List.length y.snd.snd.snd) : Int) ∧
              (↑h : Int).toNat < List.length y.snd.snd.snd ∧
                bif
                    !(List.getD x.snd.snd.snd (↑h : Int).toNat tI.dft == (0 : Int)) ==
                        (List.getD y.snd.snd.snd (↑h : Int).toNat tI.dft == (0 : Int)) then
                  Q Exit.ret { nt := 108, fr := [(8, SV.p (PV.c (CV.bool false)))], hp := [] : SS }
                else
                  K
                    { nt := 108,
                      fr :=
                        [(0, SV.p (PV.c (CV.row tN l))), (2, SV.p (PV.c (CV.row tN m))),
                          (9, SV.p (PV.c (CV.view tI (0) (0) a.length))),
                          (10, SV.p (PV.c (CV.view tI (1) (0) b.length))),
                          (11, SV.p (PV.c (CV.int IntKind.i64 (↑j : Int)))),
                          (12, SV.p (PV.c (CV.ptr (2) (0)))),
                          (13, SV.p (PV.c (CV.ptr (3) (0)))),
                          (14, SV.p (PV.c (CV.int IntKind.i64 (IntKind.i64.wrap ((↑h : Int) + (1 : Int))))))],
                      hp :=
                        [HB.row (3) tI a, HB.row (3) tI b,
                          HB.cells (39)
                            [CV.int IntKind.i64 x.fst, CV.int IntKind.i64 x.snd.fst.fst,
                              CV.int IntKind.i64 x.snd.fst.snd.fst, CV.int IntKind.i64 x.snd.fst.snd.snd,
                              CV.str x.snd.snd.fst, CV.row tI x.snd.snd.snd],
                          HB.cells (39)
                            [CV.int IntKind.i64 y.fst, CV.int IntKind.i64 y.snd.fst.fst,
                              CV.int IntKind.i64 y.snd.fst.snd.fst, CV.int IntKind.i64 y.snd.fst.snd.snd,
                              CV.str y.snd.snd.fst, CV.row tI y.snd.snd.snd]] :
                      SS }
  else
    Q (Exit.exit (2))
      { nt := 108,
        fr :=
          [(0, SV.p (PV.c (CV.row tN l))), (2, SV.p (PV.c (CV.row tN m))),
            (9, SV.p (PV.c (CV.view tI (0) (0) a.length))),
            (10, SV.p (PV.c (CV.view tI (1) (0) b.length))),
            (11, SV.p (PV.c (CV.int IntKind.i64 (↑j : Int))))],
        hp := [HB.row (3) tI a, HB.row (3) tI b] : SS }) := by kernel_rfl

theorem vc_rs (l : List Nd) (m : List Nd) (a : List Int) (b : List Int) (j : Nat) (K : SS → Prop) (Q : Exit → SS → Prop) :
    (sx Try.prog (gam gRW) (lam [((2 : Nat), rsIn_l)]) (lp Try.f12 (0 : Nat)) (0 : Nat) (stRS l m a b j)
  (thenQ (cq (0 : Nat) [(0 : Nat), (2 : Nat), (9 : Nat), (10 : Nat), (11 : Nat)] K) (cQE (0 : Nat) [] [(8 : Nat)] Q))) =
    (a.length ≤ maxI →
  bif decide ((↑j : Int) < (↑a.length : Int)) then
    (0 : Int) ≤ (↑j : Int) ∧
      (↑j : Int) < (↑a.length : Int) ∧
        0 + (↑j : Int).toNat < a.length ∧
          (0 : Int) ≤ IntKind.i64.wrap (a.getD (0 + (↑j : Int).toNat) tI.dft - (1 : Int)) ∧
            IntKind.i64.wrap (a.getD (0 + (↑j : Int).toNat) tI.dft - (1 : Int)) < (↑l.length : Int) ∧
              (IntKind.i64.wrap (a.getD (0 + (↑j : Int).toNat) tI.dft - (1 : Int))).toNat < l.length ∧
                (0 : Int) ≤ (↑j : Int) ∧
                  (↑j : Int) < (↑b.length : Int) ∧
                    0 + (↑j : Int).toNat < b.length ∧
                      (0 : Int) ≤ IntKind.i64.wrap (b.getD (0 + (↑j : Int).toNat) tI.dft - (1 : Int)) ∧
                        IntKind.i64.wrap (b.getD (0 + (↑j : Int).toNat) tI.dft - (1 : Int)) <
                            (↑m.length : Int) ∧
                          (IntKind.i64.wrap (b.getD (0 + (↑j : Int).toNat) tI.dft - (1 : Int))).toNat <
                              m.length ∧
                            bif
                                (l.getD
                                          (IntKind.i64.wrap
                                              (a.getD (0 + (↑j : Int).toNat) tI.dft - (1 : Int))).toNat
                                          tN.dft).fst !=
                                      (m.getD
                                          (IntKind.i64.wrap
                                              (b.getD (0 + (↑j : Int).toNat) tI.dft - (1 : Int))).toNat
                                          tN.dft).fst ||
                                    !strEq
                                        (l.getD
                                                (IntKind.i64.wrap
                                                    (a.getD (0 + (↑j : Int).toNat) tI.dft - (1 : Int))).toNat
                                                tN.dft).snd.snd.fst
                                        (m.getD
                                                (IntKind.i64.wrap
                                                    (b.getD (0 + (↑j : Int).toNat) tI.dft - (1 : Int))).toNat
                                                tN.dft).snd.snd.fst ||
                                  (↑(List.length
                                          (l.getD
                                                  (IntKind.i64.wrap
                                                      (a.getD (0 + (↑j : Int).toNat) tI.dft - (1 : Int))).toNat
                                                  tN.dft).snd.snd.snd) :
                                      Int) !=
                                    (↑(List.length
                                          (m.getD
                                                  (IntKind.i64.wrap
                                                      (b.getD (0 + (↑j : Int).toNat) tI.dft - (1 : Int))).toNat
                                                  tN.dft).snd.snd.snd) :
                                      Int) then
                              Q Exit.ret
                                { nt := 108, fr := [(8, SV.p (PV.c (CV.bool false)))], hp := [] : SS }
                            else
                              ∃ (x : SD),
                                { nt := 108,
                                      fr :=
                                        [(0, SV.p (PV.c (CV.row tN l))), (2, SV.p (PV.c (CV.row tN m))),
                                          (9, SV.p (PV.c (CV.view tI (0) (0) a.length))),
                                          (10, SV.p (PV.c (CV.view tI (1) (0) b.length))),
                                          (11, SV.p (PV.c (CV.int IntKind.i64 (↑j : Int)))),
                                          (12, SV.p (PV.c (CV.ptr (2) (0)))),
                                          (13, SV.p (PV.c (CV.ptr (3) (0)))),
                                          (14, SV.p (PV.c (CV.int IntKind.i64 (0 : Int))))],
                                      hp :=
                                        [HB.row (3) tI a, HB.row (3) tI b,
                                          HB.cells (39)
                                            [CV.int IntKind.i64
                                                (l.getD
                                                    (IntKind.i64.wrap
                                                        (a.getD (0 + (↑j : Int).toNat) tI.dft -
                                                          (1 : Int))).toNat
                                                    tN.dft).fst,
                                              CV.int IntKind.i64
                                                (l.getD
                                                        (IntKind.i64.wrap
                                                            (a.getD (0 + (↑j : Int).toNat) tI.dft -
                                                              (1 : Int))).toNat
                                                        tN.dft).snd.fst.fst,
                                              CV.int IntKind.i64
                                                (l.getD
                                                          (IntKind.i64.wrap
                                                              (a.getD (0 + (↑j : Int).toNat) tI.dft -
                                                                (1 : Int))).toNat
                                                          tN.dft).snd.fst.snd.fst,
                                              CV.int IntKind.i64
                                                (l.getD
                                                          (IntKind.i64.wrap
                                                              (a.getD (0 + (↑j : Int).toNat) tI.dft -
                                                                (1 : Int))).toNat
                                                          tN.dft).snd.fst.snd.snd,
                                              CV.str
                                                (l.getD
                                                        (IntKind.i64.wrap
                                                            (a.getD (0 + (↑j : Int).toNat) tI.dft -
                                                              (1 : Int))).toNat
                                                        tN.dft).snd.snd.fst,
                                              CV.row tI
                                                (l.getD
                                                        (IntKind.i64.wrap
                                                            (a.getD (0 + (↑j : Int).toNat) tI.dft -
                                                              (1 : Int))).toNat
                                                        tN.dft).snd.snd.snd],
                                          HB.cells (39)
                                            [CV.int IntKind.i64
                                                (m.getD
                                                    (IntKind.i64.wrap
                                                        (b.getD (0 + (↑j : Int).toNat) tI.dft -
                                                          (1 : Int))).toNat
                                                    tN.dft).fst,
                                              CV.int IntKind.i64
                                                (m.getD
                                                        (IntKind.i64.wrap
                                                            (b.getD (0 + (↑j : Int).toNat) tI.dft -
                                                              (1 : Int))).toNat
                                                        tN.dft).snd.fst.fst,
                                              CV.int IntKind.i64
                                                (m.getD
                                                          (IntKind.i64.wrap
                                                              (b.getD (0 + (↑j : Int).toNat) tI.dft -
                                                                (1 : Int))).toNat
                                                          tN.dft).snd.fst.snd.fst,
                                              CV.int IntKind.i64
                                                (m.getD
                                                          (IntKind.i64.wrap
                                                              (b.getD (0 + (↑j : Int).toNat) tI.dft -
                                                                (1 : Int))).toNat
                                                          tN.dft).snd.fst.snd.snd,
                                              CV.str
                                                (m.getD
                                                        (IntKind.i64.wrap
                                                            (b.getD (0 + (↑j : Int).toNat) tI.dft -
                                                              (1 : Int))).toNat
                                                        tN.dft).snd.snd.fst,
                                              CV.row tI
                                                (m.getD
                                                        (IntKind.i64.wrap
                                                            (b.getD (0 + (↑j : Int).toNat) tI.dft -
                                                              (1 : Int))).toNat
                                                        tN.dft).snd.snd.snd]] :
                                      SS } =
                                    { nt := 108,
                                      fr :=
                                        [(0, SV.p (PV.c (CV.row tN x.l))),
                                          (2, SV.p (PV.c (CV.row tN x.m))),
                                          (9, SV.p (PV.c (CV.view tI (0) (0) x.a.length))),
                                          (10, SV.p (PV.c (CV.view tI (1) (0) x.b.length))),
                                          (11, SV.p (PV.c (CV.int IntKind.i64 (↑x.j : Int)))),
                                          (12, SV.p (PV.c (CV.ptr (2) (0)))),
                                          (13, SV.p (PV.c (CV.ptr (3) (0)))),
                                          (14, SV.p (PV.c (CV.int IntKind.i64 (↑(0 : Nat) : Int))))],
                                      hp :=
                                        [HB.row (3) tI x.a, HB.row (3) tI x.b,
                                          HB.cells (39)
                                            [CV.int IntKind.i64 x.x.fst, CV.int IntKind.i64 x.x.snd.fst.fst,
                                              CV.int IntKind.i64 x.x.snd.fst.snd.fst,
                                              CV.int IntKind.i64 x.x.snd.fst.snd.snd, CV.str x.x.snd.snd.fst,
                                              CV.row tI x.x.snd.snd.snd],
                                          HB.cells (39)
                                            [CV.int IntKind.i64 x.y.fst, CV.int IntKind.i64 x.y.snd.fst.fst,
                                              CV.int IntKind.i64 x.y.snd.fst.snd.fst,
                                              CV.int IntKind.i64 x.y.snd.fst.snd.snd, CV.str x.y.snd.snd.fst,
                                              CV.row tI x.y.snd.snd.snd]] :
                                      SS } ∧
                                  (kidsOf x.x).length = (kidsOf x.y).length ∧
                                    (((kidsOf x.x).zip (kidsOf x.y)).all zB = true →
                                        K
                                          { nt := 108,
                                            fr :=
                                              [(0, SV.p (PV.c (CV.row tN x.l))),
                                                (2, SV.p (PV.c (CV.row tN x.m))),
                                                (9,
                                                  SV.p (PV.c (CV.view tI (0) (0) x.a.length))),
                                                (10,
                                                  SV.p (PV.c (CV.view tI (1) (0) x.b.length))),
                                                (11,
                                                  SV.p
                                                    (PV.c
                                                      (CV.int IntKind.i64
                                                        (IntKind.i64.wrap ((↑x.j : Int) + (1 : Int))))))],
                                            hp := [HB.row (3) tI x.a, HB.row (3) tI x.b] : SS }) ∧
                                      (((kidsOf x.x).zip (kidsOf x.y)).all zB = false →
                                        Q Exit.ret
                                          { nt := 108, fr := [(8, SV.p (PV.c (CV.bool false)))],
                                            hp := [] : SS })
  else Q (Exit.exit (0)) { nt := 108, fr := [], hp := [] : SS }) := by kernel_rfl

theorem vc_rsame (l : List Nd) (m : List Nd) (i : Int) (k : Int) (Q : SV → List HB → Prop) :
    (body Try.prog (gam gRW) (lam [((0 : Nat), rs_l)]) Try.f12 [PV.c (CV.row tN l), ti i, PV.c (CV.row tN m), ti k] [] Q) =
    ((inOk l ∧ (-9223372036854775808 : Int) ≤ i ∧ i ≤ (9223372036854775807 : Int)) ∧
  (inOk m ∧ (-9223372036854775808 : Int) ≤ k ∧ k ≤ (9223372036854775807 : Int)) ∧
    ((wl l i).length ≤ maxI →
      (wl m k).length ≤ maxI →
        bif
            (↑(wl l i).length : Int) != (↑(wl m k).length : Int) ||
              !(decide (i < (1 : Int)) || decide (i > (↑l.length : Int))) ==
                  (decide (k < (1 : Int)) || decide (k > (↑m.length : Int))) then
          Q (SV.p (PV.c (CV.bool false))) []
        else
          ∃ (x : SD),
            { nt := 108,
                  fr :=
                    [(0, SV.p (PV.c (CV.row tN l))), (2, SV.p (PV.c (CV.row tN m))),
                      (9, SV.p (PV.c (CV.view tI (0) (0) (wl l i).length))),
                      (10, SV.p (PV.c (CV.view tI (1) (0) (wl m k).length))),
                      (11, SV.p (PV.c (CV.int IntKind.i64 (0 : Int))))],
                  hp := [HB.row (3) tI (wl l i), HB.row (3) tI (wl m k)] : SS } =
                { nt := 108,
                  fr :=
                    [(0, SV.p (PV.c (CV.row tN x.l))), (2, SV.p (PV.c (CV.row tN x.m))),
                      (9, SV.p (PV.c (CV.view tI (0) (0) x.a.length))),
                      (10, SV.p (PV.c (CV.view tI (1) (0) x.b.length))),
                      (11, SV.p (PV.c (CV.int IntKind.i64 (↑(0 : Nat) : Int))))],
                  hp := [HB.row (3) tI x.a, HB.row (3) tI x.b] : SS } ∧
              (x.a.length = x.b.length ∧
                  x.a.length ≤ (65536 : Nat) ∧
                    (∀ (k : Int), k ∈ x.a → (1 : Int) ≤ k ∧ k ≤ (↑x.l.length : Int)) ∧
                      (∀ (k : Int), k ∈ x.b → (1 : Int) ≤ k ∧ k ≤ (↑x.m.length : Int)) ∧
                        x.l.length ≤ (1000 : Nat) ∧ x.m.length ≤ (1000 : Nat)) ∧
                (((x.a.zip x.b).all fun (p : Int × Int) => locZ (ndAt x.l p.fst) (ndAt x.m p.snd)) = true →
                    Q (SV.p (PV.c (CV.bool true))) []) ∧
                  (((x.a.zip x.b).all fun (p : Int × Int) => locZ (ndAt x.l p.fst) (ndAt x.m p.snd)) = false →
                    Q (SV.p (PV.c (CV.bool false))) []))) := by kernel_rfl

theorem vc_smUl (m : Nat) (r : List Rw) (s : List Rw) (b : Rw) (ks : List Int) (j : Nat) (K : SS → Prop) (Q : Exit → SS → Prop) :
    (sx Try.prog (gam (gSame m)) noLam (lp Try.f11 (0 : Nat)) (0 : Nat) (stSU r s b ks j)
  (thenQ (cq (4 : Nat) [(0 : Nat), (2 : Nat), (10 : Nat), (89 : Nat), (90 : Nat), (91 : Nat)] K)
    (cQE (4 : Nat) [] [(8 : Nat)] Q))) =
    (bif decide ((↑j : Int) < (↑ks.length : Int)) then
  (0 : Int) ≤ (↑j : Int) ∧
    (↑j : Int) < (↑ks.length : Int) ∧
      (↑j : Int).toNat < ks.length ∧
        (0 : Int) ≤ (↑j : Int) ∧
          (↑j : Int) < (↑(List.length b.fst.snd.snd.snd) : Int) ∧
            (↑j : Int).toNat < List.length b.fst.snd.snd.snd ∧
              (r.length = r.length ∧ s.length = s.length ∧ smO m r s (ks.getD (↑j : Int).toNat tI.dft)) ∧
                bif
                    !sm (nodes r) (ks.getD (↑j : Int).toNat tI.dft) (nodes s)
                        (List.getD b.fst.snd.snd.snd (↑j : Int).toNat tI.dft) then
                  Q Exit.ret
                    { nt := 108, fr := [(8, SV.p (PV.c (CV.bool false)))],
                      hp :=
                        [HB.cells (59) [CV.view tR (1) (0) r.length], HB.row (56) tR r,
                          HB.cells (59) [CV.view tR (3) (0) s.length],
                          HB.row (56) tR s] :
                      SS }
                else
                  K
                    { nt := 108,
                      fr :=
                        [(0, SV.p (PV.c (CV.ptr (0) (0)))),
                          (2, SV.p (PV.c (CV.ptr (2) (0)))),
                          (10, SV.p (PV.c (CV.ptr (4) (0)))),
                          (89, SV.p (PV.c (CV.row tI ks))),
                          (90, SV.p (PV.c (CV.int IntKind.i64 (↑ks.length : Int)))),
                          (91, SV.p (PV.c (CV.int IntKind.i64 (IntKind.i64.wrap ((↑j : Int) + (1 : Int))))))],
                      hp :=
                        [HB.cells (59) [CV.view tR (1) (0) r.length], HB.row (56) tR r,
                          HB.cells (59) [CV.view tR (3) (0) s.length], HB.row (56) tR s,
                          HB.cells (56)
                            [CV.int IntKind.i64 b.fst.fst, CV.int IntKind.i64 b.fst.snd.fst.fst,
                              CV.int IntKind.i64 b.fst.snd.fst.snd.fst, CV.int IntKind.i64 b.fst.snd.fst.snd.snd,
                              CV.str b.fst.snd.snd.fst, CV.row tI b.fst.snd.snd.snd, CV.int IntKind.i64 b.snd.fst,
                              CV.int IntKind.i64 b.snd.snd]] :
                      SS }
else
  Q (Exit.exit (0))
    { nt := 108, fr := [],
      hp :=
        [HB.cells (59) [CV.view tR (1) (0) r.length], HB.row (56) tR r,
          HB.cells (59) [CV.view tR (3) (0) s.length], HB.row (56) tR s] :
      SS }) := by kernel_rfl

theorem vc_smTl (m : Nat) (r : List Rw) (s : List Rw) (b : Rw) (ks : List Int) (j : Nat) (K : SS → Prop) (Q : Exit → SS → Prop) :
    (sx Try.prog (gam (gSame m)) noLam (lp Try.f11 (0 : Nat)) (0 : Nat) (stST r s b ks j)
  (thenQ (cq (2 : Nat) [(0 : Nat), (2 : Nat), (10 : Nat), (89 : Nat), (90 : Nat), (91 : Nat)] K)
    (cQE (2 : Nat) [] [(8 : Nat)] Q))) =
    (bif decide ((↑j : Int) < (↑ks.length : Int)) then
  (0 : Int) ≤ (↑j : Int) ∧
    (↑j : Int) < (↑ks.length : Int) ∧
      (↑j : Int).toNat < ks.length ∧
        (0 : Int) ≤ (↑j : Int) ∧
          (↑j : Int) < (↑(List.length b.fst.snd.snd.snd) : Int) ∧
            (↑j : Int).toNat < List.length b.fst.snd.snd.snd ∧
              (r.length = r.length ∧ smO m r r (ks.getD (↑j : Int).toNat tI.dft)) ∧
                bif
                    !sm (nodes r) (ks.getD (↑j : Int).toNat tI.dft) (nodes r)
                        (List.getD b.fst.snd.snd.snd (↑j : Int).toNat tI.dft) then
                  Q Exit.ret
                    { nt := 108, fr := [(8, SV.p (PV.c (CV.bool false)))],
                      hp :=
                        [HB.cells (59) [CV.view tR (1) (0) r.length],
                          HB.row (56) tR r] :
                      SS }
                else
                  K
                    { nt := 108,
                      fr :=
                        [(0, SV.p (PV.c (CV.ptr (0) (0)))),
                          (2, SV.p (PV.c (CV.ptr (0) (0)))),
                          (10, SV.p (PV.c (CV.ptr (2) (0)))),
                          (89, SV.p (PV.c (CV.row tI ks))),
                          (90, SV.p (PV.c (CV.int IntKind.i64 (↑ks.length : Int)))),
                          (91, SV.p (PV.c (CV.int IntKind.i64 (IntKind.i64.wrap ((↑j : Int) + (1 : Int))))))],
                      hp :=
                        [HB.cells (59) [CV.view tR (1) (0) r.length], HB.row (56) tR r,
                          HB.cells (56)
                            [CV.int IntKind.i64 b.fst.fst, CV.int IntKind.i64 b.fst.snd.fst.fst,
                              CV.int IntKind.i64 b.fst.snd.fst.snd.fst, CV.int IntKind.i64 b.fst.snd.fst.snd.snd,
                              CV.str b.fst.snd.snd.fst, CV.row tI b.fst.snd.snd.snd, CV.int IntKind.i64 b.snd.fst,
                              CV.int IntKind.i64 b.snd.snd]] :
                      SS }
else
  Q (Exit.exit (0))
    { nt := 108, fr := [],
      hp := [HB.cells (59) [CV.view tR (1) (0) r.length], HB.row (56) tR r] : SS }) := by kernel_rfl

theorem vc_smU (m : Nat) (r : List Rw) (s : List Rw) (i : Int) (k : Int) (Q : SV → List HB → Prop) :
    (body Try.prog (gam (gSame m)) (lam [((0 : Nat), smU_l m)]) Try.f11
  [PV.c (CV.ptr (0 : Nat) (0 : Nat)), ti i, PV.c (CV.ptr (2 : Nat) (0 : Nat)), ti k]
  [HB.cells (59 : TypeId) [CV.view tR (1 : Nat) (0 : Nat) r.length], HB.row (56 : TypeId) tR r,
    HB.cells (59 : TypeId) [CV.view tR (3 : Nat) (0 : Nat) s.length], HB.row (56 : TypeId) tR s]
  Q) =
    (r.length = r.length ∧
  r.length ≤ (65536 : Nat) ∧
    bif !hasB r.length i then
      r.length = r.length ∧
        r.length ≤ (65536 : Nat) ∧
          s.length = s.length ∧
            s.length ≤ (65536 : Nat) ∧
              Q (SV.p (PV.c (CV.bool (hasB r.length i == hasB s.length k))))
                [HB.cells (59) [CV.view tR (1) (0) r.length], HB.row (56) tR r,
                  HB.cells (59) [CV.view tR (3) (0) s.length], HB.row (56) tR s]
    else
      s.length = s.length ∧
        s.length ≤ (65536 : Nat) ∧
          bif false || !hasB s.length k then
            r.length = r.length ∧
              r.length ≤ (65536 : Nat) ∧
                s.length = s.length ∧
                  s.length ≤ (65536 : Nat) ∧
                    Q (SV.p (PV.c (CV.bool (hasB r.length i == hasB s.length k))))
                      [HB.cells (59) [CV.view tR (1) (0) r.length], HB.row (56) tR r,
                        HB.cells (59) [CV.view tR (3) (0) s.length], HB.row (56) tR s]
          else
            (0 : Int) ≤ IntKind.i64.wrap (i - (1 : Int)) ∧
              IntKind.i64.wrap (i - (1 : Int)) < (↑r.length : Int) ∧
                0 + (IntKind.i64.wrap (i - (1 : Int))).toNat < r.length ∧
                  (0 : Int) ≤ IntKind.i64.wrap (k - (1 : Int)) ∧
                    IntKind.i64.wrap (k - (1 : Int)) < (↑s.length : Int) ∧
                      0 + (IntKind.i64.wrap (k - (1 : Int))).toNat < s.length ∧
                        (bif
                              (r.getD (0 + (IntKind.i64.wrap (i - (1 : Int))).toNat) tR.dft).fst.fst !=
                                        (s.getD (0 + (IntKind.i64.wrap (k - (1 : Int))).toNat)
                                              tR.dft).fst.fst ||
                                      !strEq
                                          (r.getD (0 + (IntKind.i64.wrap (i - (1 : Int))).toNat)
                                                    tR.dft).fst.snd.snd.fst
                                          (s.getD (0 + (IntKind.i64.wrap (k - (1 : Int))).toNat)
                                                    tR.dft).fst.snd.snd.fst ||
                                    (r.getD (0 + (IntKind.i64.wrap (i - (1 : Int))).toNat) tR.dft).snd.fst !=
                                      (s.getD (0 + (IntKind.i64.wrap (k - (1 : Int))).toNat) tR.dft).snd.fst ||
                                  (r.getD (0 + (IntKind.i64.wrap (i - (1 : Int))).toNat) tR.dft).snd.snd !=
                                    (s.getD (0 + (IntKind.i64.wrap (k - (1 : Int))).toNat) tR.dft).snd.snd ||
                                (↑(List.length
                                        (r.getD (0 + (IntKind.i64.wrap (i - (1 : Int))).toNat)
                                                  tR.dft).fst.snd.snd.snd) :
                                    Int) !=
                                  (↑(List.length
                                        (s.getD (0 + (IntKind.i64.wrap (k - (1 : Int))).toNat)
                                                  tR.dft).fst.snd.snd.snd) :
                                    Int) then
                            Q (SV.p (PV.c (CV.bool false)))
                              [HB.cells (59) [CV.view tR (1) (0) r.length],
                                HB.row (56) tR r,
                                HB.cells (59) [CV.view tR (3) (0) s.length],
                                HB.row (56) tR s]
                          else
                            List.length
                                  (r.getD (0 + (IntKind.i64.wrap (i - (1 : Int))).toNat)
                                            tR.dft).fst.snd.snd.snd ≤
                                maxI →
                              ∃ (x : SB),
                                { nt := 108,
                                      fr :=
                                        [(0, SV.p (PV.c (CV.ptr (0) (0)))),
                                          (2, SV.p (PV.c (CV.ptr (2) (0)))),
                                          (10, SV.p (PV.c (CV.ptr (4) (0)))),
                                          (89,
                                            SV.p
                                              (PV.c
                                                (CV.row tI
                                                  (r.getD (0 + (IntKind.i64.wrap (i - (1 : Int))).toNat)
                                                            tR.dft).fst.snd.snd.snd))),
                                          (90,
                                            SV.p
                                              (PV.c
                                                (CV.int IntKind.i64
                                                  (↑(List.length
                                                        (r.getD (0 + (IntKind.i64.wrap (i - (1 : Int))).toNat)
                                                                  tR.dft).fst.snd.snd.snd) :
                                                    Int)))),
                                          (91, SV.p (PV.c (CV.int IntKind.i64 (0 : Int))))],
                                      hp :=
                                        [HB.cells (59) [CV.view tR (1) (0) r.length],
                                          HB.row (56) tR r,
                                          HB.cells (59) [CV.view tR (3) (0) s.length],
                                          HB.row (56) tR s,
                                          HB.cells (56)
                                            [CV.int IntKind.i64
                                                (s.getD (0 + (IntKind.i64.wrap (k - (1 : Int))).toNat)
                                                      tR.dft).fst.fst,
                                              CV.int IntKind.i64
                                                (s.getD (0 + (IntKind.i64.wrap (k - (1 : Int))).toNat)
                                                          tR.dft).fst.snd.fst.fst,
                                              CV.int IntKind.i64
                                                (s.getD (0 + (IntKind.i64.wrap (k - (1 : Int))).toNat)
                                                            tR.dft).fst.snd.fst.snd.fst,
                                              CV.int IntKind.i64
                                                (s.getD (0 + (IntKind.i64.wrap (k - (1 : Int))).toNat)
                                                            tR.dft).fst.snd.fst.snd.snd,
                                              CV.str
                                                (s.getD (0 + (IntKind.i64.wrap (k - (1 : Int))).toNat)
                                                          tR.dft).fst.snd.snd.fst,
                                              CV.row tI
                                                (s.getD (0 + (IntKind.i64.wrap (k - (1 : Int))).toNat)
                                                          tR.dft).fst.snd.snd.snd,
                                              CV.int IntKind.i64
                                                (s.getD (0 + (IntKind.i64.wrap (k - (1 : Int))).toNat)
                                                      tR.dft).snd.fst,
                                              CV.int IntKind.i64
                                                (s.getD (0 + (IntKind.i64.wrap (k - (1 : Int))).toNat)
                                                      tR.dft).snd.snd]] :
                                      SS } =
                                    { nt := 108,
                                      fr :=
                                        [(0, SV.p (PV.c (CV.ptr (0) (0)))),
                                          (2, SV.p (PV.c (CV.ptr (2) (0)))),
                                          (10, SV.p (PV.c (CV.ptr (4) (0)))),
                                          (89, SV.p (PV.c (CV.row tI x.ks))),
                                          (90, SV.p (PV.c (CV.int IntKind.i64 (↑x.ks.length : Int)))),
                                          (91, SV.p (PV.c (CV.int IntKind.i64 (↑(0 : Nat) : Int))))],
                                      hp :=
                                        [HB.cells (59) [CV.view tR (1) (0) x.r.length],
                                          HB.row (56) tR x.r,
                                          HB.cells (59) [CV.view tR (3) (0) x.s.length],
                                          HB.row (56) tR x.s,
                                          HB.cells (56)
                                            [CV.int IntKind.i64 x.b.fst.fst, CV.int IntKind.i64 x.b.fst.snd.fst.fst,
                                              CV.int IntKind.i64 x.b.fst.snd.fst.snd.fst,
                                              CV.int IntKind.i64 x.b.fst.snd.fst.snd.snd, CV.str x.b.fst.snd.snd.fst,
                                              CV.row tI x.b.fst.snd.snd.snd, CV.int IntKind.i64 x.b.snd.fst,
                                              CV.int IntKind.i64 x.b.snd.snd]] :
                                      SS } ∧
                                  (TreeOk x.r ∧
                                      TreeOk x.s ∧
                                        (∀ (k : Int), k ∈ x.ks → k.toNat < m) ∧
                                          x.ks.length = (kidsOf x.b.fst).length ∧ x.ks.length ≤ maxI ∧ True) ∧
                                    (kidsB x = true →
                                        Q (SV.p (PV.c (CV.bool true)))
                                          [HB.cells (59) [CV.view tR (1) (0) x.r.length],
                                            HB.row (56) tR x.r,
                                            HB.cells (59) [CV.view tR (3) (0) x.s.length],
                                            HB.row (56) tR x.s]) ∧
                                      (kidsB x = false →
                                        Q (SV.p (PV.c (CV.bool false)))
                                          [HB.cells (59) [CV.view tR (1) (0) x.r.length],
                                            HB.row (56) tR x.r,
                                            HB.cells (59) [CV.view tR (3) (0) x.s.length],
                                            HB.row (56) tR x.s])) ∧
                          bif
                              (r.getD (0 + (IntKind.i64.wrap (i - (1 : Int))).toNat) tR.dft).fst.fst !=
                                        (s.getD (0 + (IntKind.i64.wrap (k - (1 : Int))).toNat)
                                              tR.dft).fst.fst ||
                                      !strEq
                                          (r.getD (0 + (IntKind.i64.wrap (i - (1 : Int))).toNat)
                                                    tR.dft).fst.snd.snd.fst
                                          (s.getD (0 + (IntKind.i64.wrap (k - (1 : Int))).toNat)
                                                    tR.dft).fst.snd.snd.fst ||
                                    (r.getD (0 + (IntKind.i64.wrap (i - (1 : Int))).toNat) tR.dft).snd.fst !=
                                      (s.getD (0 + (IntKind.i64.wrap (k - (1 : Int))).toNat) tR.dft).snd.fst ||
                                  (r.getD (0 + (IntKind.i64.wrap (i - (1 : Int))).toNat) tR.dft).snd.snd !=
                                    (s.getD (0 + (IntKind.i64.wrap (k - (1 : Int))).toNat) tR.dft).snd.snd ||
                                (↑(List.length
                                        (r.getD (0 + (IntKind.i64.wrap (i - (1 : Int))).toNat)
                                                  tR.dft).fst.snd.snd.snd) :
                                    Int) !=
                                  (↑(List.length
                                        (s.getD (0 + (IntKind.i64.wrap (k - (1 : Int))).toNat)
                                                  tR.dft).fst.snd.snd.snd) :
                                    Int) then
                            Q (SV.p (PV.c (CV.bool false)))
                              [HB.cells (59) [CV.view tR (1) (0) r.length],
                                HB.row (56) tR r,
                                HB.cells (59) [CV.view tR (3) (0) s.length],
                                HB.row (56) tR s]
                          else
                            List.length
                                  (r.getD (0 + (IntKind.i64.wrap (i - (1 : Int))).toNat)
                                            tR.dft).fst.snd.snd.snd ≤
                                maxI →
                              ∃ (x : SB),
                                { nt := 108,
                                      fr :=
                                        [(0, SV.p (PV.c (CV.ptr (0) (0)))),
                                          (2, SV.p (PV.c (CV.ptr (2) (0)))),
                                          (10, SV.p (PV.c (CV.ptr (4) (0)))),
                                          (89,
                                            SV.p
                                              (PV.c
                                                (CV.row tI
                                                  (r.getD (0 + (IntKind.i64.wrap (i - (1 : Int))).toNat)
                                                            tR.dft).fst.snd.snd.snd))),
                                          (90,
                                            SV.p
                                              (PV.c
                                                (CV.int IntKind.i64
                                                  (↑(List.length
                                                        (r.getD (0 + (IntKind.i64.wrap (i - (1 : Int))).toNat)
                                                                  tR.dft).fst.snd.snd.snd) :
                                                    Int)))),
                                          (91, SV.p (PV.c (CV.int IntKind.i64 (0 : Int))))],
                                      hp :=
                                        [HB.cells (59) [CV.view tR (1) (0) r.length],
                                          HB.row (56) tR r,
                                          HB.cells (59) [CV.view tR (3) (0) s.length],
                                          HB.row (56) tR s,
                                          HB.cells (56)
                                            [CV.int IntKind.i64
                                                (s.getD (0 + (IntKind.i64.wrap (k - (1 : Int))).toNat)
                                                      tR.dft).fst.fst,
                                              CV.int IntKind.i64
                                                (s.getD (0 + (IntKind.i64.wrap (k - (1 : Int))).toNat)
                                                          tR.dft).fst.snd.fst.fst,
                                              CV.int IntKind.i64
                                                (s.getD (0 + (IntKind.i64.wrap (k - (1 : Int))).toNat)
                                                            tR.dft).fst.snd.fst.snd.fst,
                                              CV.int IntKind.i64
                                                (s.getD (0 + (IntKind.i64.wrap (k - (1 : Int))).toNat)
                                                            tR.dft).fst.snd.fst.snd.snd,
                                              CV.str
                                                (s.getD (0 + (IntKind.i64.wrap (k - (1 : Int))).toNat)
                                                          tR.dft).fst.snd.snd.fst,
                                              CV.row tI
                                                (s.getD (0 + (IntKind.i64.wrap (k - (1 : Int))).toNat)
                                                          tR.dft).fst.snd.snd.snd,
                                              CV.int IntKind.i64
                                                (s.getD (0 + (IntKind.i64.wrap (k - (1 : Int))).toNat)
                                                      tR.dft).snd.fst,
                                              CV.int IntKind.i64
                                                (s.getD (0 + (IntKind.i64.wrap (k - (1 : Int))).toNat)
                                                      tR.dft).snd.snd]] :
                                      SS } =
                                    { nt := 108,
                                      fr :=
                                        [(0, SV.p (PV.c (CV.ptr (0) (0)))),
                                          (2, SV.p (PV.c (CV.ptr (2) (0)))),
                                          (10, SV.p (PV.c (CV.ptr (4) (0)))),
                                          (89, SV.p (PV.c (CV.row tI x.ks))),
                                          (90, SV.p (PV.c (CV.int IntKind.i64 (↑x.ks.length : Int)))),
                                          (91, SV.p (PV.c (CV.int IntKind.i64 (↑(0 : Nat) : Int))))],
                                      hp :=
                                        [HB.cells (59) [CV.view tR (1) (0) x.r.length],
                                          HB.row (56) tR x.r,
                                          HB.cells (59) [CV.view tR (3) (0) x.s.length],
                                          HB.row (56) tR x.s,
                                          HB.cells (56)
                                            [CV.int IntKind.i64 x.b.fst.fst, CV.int IntKind.i64 x.b.fst.snd.fst.fst,
                                              CV.int IntKind.i64 x.b.fst.snd.fst.snd.fst,
                                              CV.int IntKind.i64 x.b.fst.snd.fst.snd.snd, CV.str x.b.fst.snd.snd.fst,
                                              CV.row tI x.b.fst.snd.snd.snd, CV.int IntKind.i64 x.b.snd.fst,
                                              CV.int IntKind.i64 x.b.snd.snd]] :
                                      SS } ∧
                                  (TreeOk x.r ∧
                                      TreeOk x.s ∧
                                        (∀ (k : Int), k ∈ x.ks → k.toNat < m) ∧
                                          x.ks.length = (kidsOf x.b.fst).length ∧ x.ks.length ≤ maxI ∧ True) ∧
                                    (kidsB x = true →
                                        Q (SV.p (PV.c (CV.bool true)))
                                          [HB.cells (59) [CV.view tR (1) (0) x.r.length],
                                            HB.row (56) tR x.r,
                                            HB.cells (59) [CV.view tR (3) (0) x.s.length],
                                            HB.row (56) tR x.s]) ∧
                                      (kidsB x = false →
                                        Q (SV.p (PV.c (CV.bool false)))
                                          [HB.cells (59) [CV.view tR (1) (0) x.r.length],
                                            HB.row (56) tR x.r,
                                            HB.cells (59) [CV.view tR (3) (0) x.s.length],
                                            HB.row (56) tR x.s])) := by kernel_rfl

theorem vc_smT (m : Nat) (r : List Rw) (i : Int) (k : Int) (Q : SV → List HB → Prop) :
    (body Try.prog (gam (gSame m)) (lam [((0 : Nat), smT_l m)]) Try.f11
  [PV.c (CV.ptr (0 : Nat) (0 : Nat)), ti i, PV.c (CV.ptr (0 : Nat) (0 : Nat)), ti k]
  [HB.cells (59 : TypeId) [CV.view tR (1 : Nat) (0 : Nat) r.length], HB.row (56 : TypeId) tR r] Q) =
    (r.length = r.length ∧
  r.length ≤ (65536 : Nat) ∧
    bif !hasB r.length i then
      r.length = r.length ∧
        r.length ≤ (65536 : Nat) ∧
          r.length = r.length ∧
            r.length ≤ (65536 : Nat) ∧
              Q (SV.p (PV.c (CV.bool (hasB r.length i == hasB r.length k))))
                [HB.cells (59) [CV.view tR (1) (0) r.length], HB.row (56) tR r]
    else
      r.length = r.length ∧
        r.length ≤ (65536 : Nat) ∧
          bif false || !hasB r.length k then
            r.length = r.length ∧
              r.length ≤ (65536 : Nat) ∧
                r.length = r.length ∧
                  r.length ≤ (65536 : Nat) ∧
                    Q (SV.p (PV.c (CV.bool (hasB r.length i == hasB r.length k))))
                      [HB.cells (59) [CV.view tR (1) (0) r.length], HB.row (56) tR r]
          else
            (0 : Int) ≤ IntKind.i64.wrap (i - (1 : Int)) ∧
              IntKind.i64.wrap (i - (1 : Int)) < (↑r.length : Int) ∧
                0 + (IntKind.i64.wrap (i - (1 : Int))).toNat < r.length ∧
                  (0 : Int) ≤ IntKind.i64.wrap (k - (1 : Int)) ∧
                    IntKind.i64.wrap (k - (1 : Int)) < (↑r.length : Int) ∧
                      0 + (IntKind.i64.wrap (k - (1 : Int))).toNat < r.length ∧
                        (bif
                              (r.getD (0 + (IntKind.i64.wrap (i - (1 : Int))).toNat) tR.dft).fst.fst !=
                                        (r.getD (0 + (IntKind.i64.wrap (k - (1 : Int))).toNat)
                                              tR.dft).fst.fst ||
                                      !strEq
                                          (r.getD (0 + (IntKind.i64.wrap (i - (1 : Int))).toNat)
                                                    tR.dft).fst.snd.snd.fst
                                          (r.getD (0 + (IntKind.i64.wrap (k - (1 : Int))).toNat)
                                                    tR.dft).fst.snd.snd.fst ||
                                    (r.getD (0 + (IntKind.i64.wrap (i - (1 : Int))).toNat) tR.dft).snd.fst !=
                                      (r.getD (0 + (IntKind.i64.wrap (k - (1 : Int))).toNat) tR.dft).snd.fst ||
                                  (r.getD (0 + (IntKind.i64.wrap (i - (1 : Int))).toNat) tR.dft).snd.snd !=
                                    (r.getD (0 + (IntKind.i64.wrap (k - (1 : Int))).toNat) tR.dft).snd.snd ||
                                (↑(List.length
                                        (r.getD (0 + (IntKind.i64.wrap (i - (1 : Int))).toNat)
                                                  tR.dft).fst.snd.snd.snd) :
                                    Int) !=
                                  (↑(List.length
                                        (r.getD (0 + (IntKind.i64.wrap (k - (1 : Int))).toNat)
                                                  tR.dft).fst.snd.snd.snd) :
                                    Int) then
                            Q (SV.p (PV.c (CV.bool false)))
                              [HB.cells (59) [CV.view tR (1) (0) r.length],
                                HB.row (56) tR r]
                          else
                            List.length
                                  (r.getD (0 + (IntKind.i64.wrap (i - (1 : Int))).toNat)
                                            tR.dft).fst.snd.snd.snd ≤
                                maxI →
                              ∃ (x : SB),
                                { nt := 108,
                                      fr :=
                                        [(0, SV.p (PV.c (CV.ptr (0) (0)))),
                                          (2, SV.p (PV.c (CV.ptr (0) (0)))),
                                          (10, SV.p (PV.c (CV.ptr (2) (0)))),
                                          (89,
                                            SV.p
                                              (PV.c
                                                (CV.row tI
                                                  (r.getD (0 + (IntKind.i64.wrap (i - (1 : Int))).toNat)
                                                            tR.dft).fst.snd.snd.snd))),
                                          (90,
                                            SV.p
                                              (PV.c
                                                (CV.int IntKind.i64
                                                  (↑(List.length
                                                        (r.getD (0 + (IntKind.i64.wrap (i - (1 : Int))).toNat)
                                                                  tR.dft).fst.snd.snd.snd) :
                                                    Int)))),
                                          (91, SV.p (PV.c (CV.int IntKind.i64 (0 : Int))))],
                                      hp :=
                                        [HB.cells (59) [CV.view tR (1) (0) r.length],
                                          HB.row (56) tR r,
                                          HB.cells (56)
                                            [CV.int IntKind.i64
                                                (r.getD (0 + (IntKind.i64.wrap (k - (1 : Int))).toNat)
                                                      tR.dft).fst.fst,
                                              CV.int IntKind.i64
                                                (r.getD (0 + (IntKind.i64.wrap (k - (1 : Int))).toNat)
                                                          tR.dft).fst.snd.fst.fst,
                                              CV.int IntKind.i64
                                                (r.getD (0 + (IntKind.i64.wrap (k - (1 : Int))).toNat)
                                                            tR.dft).fst.snd.fst.snd.fst,
                                              CV.int IntKind.i64
                                                (r.getD (0 + (IntKind.i64.wrap (k - (1 : Int))).toNat)
                                                            tR.dft).fst.snd.fst.snd.snd,
                                              CV.str
                                                (r.getD (0 + (IntKind.i64.wrap (k - (1 : Int))).toNat)
                                                          tR.dft).fst.snd.snd.fst,
                                              CV.row tI
                                                (r.getD (0 + (IntKind.i64.wrap (k - (1 : Int))).toNat)
                                                          tR.dft).fst.snd.snd.snd,
                                              CV.int IntKind.i64
                                                (r.getD (0 + (IntKind.i64.wrap (k - (1 : Int))).toNat)
                                                      tR.dft).snd.fst,
                                              CV.int IntKind.i64
                                                (r.getD (0 + (IntKind.i64.wrap (k - (1 : Int))).toNat)
                                                      tR.dft).snd.snd]] :
                                      SS } =
                                    { nt := 108,
                                      fr :=
                                        [(0, SV.p (PV.c (CV.ptr (0) (0)))),
                                          (2, SV.p (PV.c (CV.ptr (0) (0)))),
                                          (10, SV.p (PV.c (CV.ptr (2) (0)))),
                                          (89, SV.p (PV.c (CV.row tI x.ks))),
                                          (90, SV.p (PV.c (CV.int IntKind.i64 (↑x.ks.length : Int)))),
                                          (91, SV.p (PV.c (CV.int IntKind.i64 (↑(0 : Nat) : Int))))],
                                      hp :=
                                        [HB.cells (59) [CV.view tR (1) (0) x.r.length],
                                          HB.row (56) tR x.r,
                                          HB.cells (56)
                                            [CV.int IntKind.i64 x.b.fst.fst, CV.int IntKind.i64 x.b.fst.snd.fst.fst,
                                              CV.int IntKind.i64 x.b.fst.snd.fst.snd.fst,
                                              CV.int IntKind.i64 x.b.fst.snd.fst.snd.snd, CV.str x.b.fst.snd.snd.fst,
                                              CV.row tI x.b.fst.snd.snd.snd, CV.int IntKind.i64 x.b.snd.fst,
                                              CV.int IntKind.i64 x.b.snd.snd]] :
                                      SS } ∧
                                  (TreeOk x.r ∧
                                      TreeOk x.s ∧
                                        (∀ (k : Int), k ∈ x.ks → k.toNat < m) ∧
                                          x.ks.length = (kidsOf x.b.fst).length ∧ x.ks.length ≤ maxI ∧ x.s = x.r) ∧
                                    (kidsB x = true →
                                        Q (SV.p (PV.c (CV.bool true)))
                                          [HB.cells (59) [CV.view tR (1) (0) x.r.length],
                                            HB.row (56) tR x.r]) ∧
                                      (kidsB x = false →
                                        Q (SV.p (PV.c (CV.bool false)))
                                          [HB.cells (59) [CV.view tR (1) (0) x.r.length],
                                            HB.row (56) tR x.r])) ∧
                          bif
                              (r.getD (0 + (IntKind.i64.wrap (i - (1 : Int))).toNat) tR.dft).fst.fst !=
                                        (r.getD (0 + (IntKind.i64.wrap (k - (1 : Int))).toNat)
                                              tR.dft).fst.fst ||
                                      !strEq
                                          (r.getD (0 + (IntKind.i64.wrap (i - (1 : Int))).toNat)
                                                    tR.dft).fst.snd.snd.fst
                                          (r.getD (0 + (IntKind.i64.wrap (k - (1 : Int))).toNat)
                                                    tR.dft).fst.snd.snd.fst ||
                                    (r.getD (0 + (IntKind.i64.wrap (i - (1 : Int))).toNat) tR.dft).snd.fst !=
                                      (r.getD (0 + (IntKind.i64.wrap (k - (1 : Int))).toNat) tR.dft).snd.fst ||
                                  (r.getD (0 + (IntKind.i64.wrap (i - (1 : Int))).toNat) tR.dft).snd.snd !=
                                    (r.getD (0 + (IntKind.i64.wrap (k - (1 : Int))).toNat) tR.dft).snd.snd ||
                                (↑(List.length
                                        (r.getD (0 + (IntKind.i64.wrap (i - (1 : Int))).toNat)
                                                  tR.dft).fst.snd.snd.snd) :
                                    Int) !=
                                  (↑(List.length
                                        (r.getD (0 + (IntKind.i64.wrap (k - (1 : Int))).toNat)
                                                  tR.dft).fst.snd.snd.snd) :
                                    Int) then
                            Q (SV.p (PV.c (CV.bool false)))
                              [HB.cells (59) [CV.view tR (1) (0) r.length],
                                HB.row (56) tR r]
                          else
                            List.length
                                  (r.getD (0 + (IntKind.i64.wrap (i - (1 : Int))).toNat)
                                            tR.dft).fst.snd.snd.snd ≤
                                maxI →
                              ∃ (x : SB),
                                { nt := 108,
                                      fr :=
                                        [(0, SV.p (PV.c (CV.ptr (0) (0)))),
                                          (2, SV.p (PV.c (CV.ptr (0) (0)))),
                                          (10, SV.p (PV.c (CV.ptr (2) (0)))),
                                          (89,
                                            SV.p
                                              (PV.c
                                                (CV.row tI
                                                  (r.getD (0 + (IntKind.i64.wrap (i - (1 : Int))).toNat)
                                                            tR.dft).fst.snd.snd.snd))),
                                          (90,
                                            SV.p
                                              (PV.c
                                                (CV.int IntKind.i64
                                                  (↑(List.length
                                                        (r.getD (0 + (IntKind.i64.wrap (i - (1 : Int))).toNat)
                                                                  tR.dft).fst.snd.snd.snd) :
                                                    Int)))),
                                          (91, SV.p (PV.c (CV.int IntKind.i64 (0 : Int))))],
                                      hp :=
                                        [HB.cells (59) [CV.view tR (1) (0) r.length],
                                          HB.row (56) tR r,
                                          HB.cells (56)
                                            [CV.int IntKind.i64
                                                (r.getD (0 + (IntKind.i64.wrap (k - (1 : Int))).toNat)
                                                      tR.dft).fst.fst,
                                              CV.int IntKind.i64
                                                (r.getD (0 + (IntKind.i64.wrap (k - (1 : Int))).toNat)
                                                          tR.dft).fst.snd.fst.fst,
                                              CV.int IntKind.i64
                                                (r.getD (0 + (IntKind.i64.wrap (k - (1 : Int))).toNat)
                                                            tR.dft).fst.snd.fst.snd.fst,
                                              CV.int IntKind.i64
                                                (r.getD (0 + (IntKind.i64.wrap (k - (1 : Int))).toNat)
                                                            tR.dft).fst.snd.fst.snd.snd,
                                              CV.str
                                                (r.getD (0 + (IntKind.i64.wrap (k - (1 : Int))).toNat)
                                                          tR.dft).fst.snd.snd.fst,
                                              CV.row tI
                                                (r.getD (0 + (IntKind.i64.wrap (k - (1 : Int))).toNat)
                                                          tR.dft).fst.snd.snd.snd,
                                              CV.int IntKind.i64
                                                (r.getD (0 + (IntKind.i64.wrap (k - (1 : Int))).toNat)
                                                      tR.dft).snd.fst,
                                              CV.int IntKind.i64
                                                (r.getD (0 + (IntKind.i64.wrap (k - (1 : Int))).toNat)
                                                      tR.dft).snd.snd]] :
                                      SS } =
                                    { nt := 108,
                                      fr :=
                                        [(0, SV.p (PV.c (CV.ptr (0) (0)))),
                                          (2, SV.p (PV.c (CV.ptr (0) (0)))),
                                          (10, SV.p (PV.c (CV.ptr (2) (0)))),
                                          (89, SV.p (PV.c (CV.row tI x.ks))),
                                          (90, SV.p (PV.c (CV.int IntKind.i64 (↑x.ks.length : Int)))),
                                          (91, SV.p (PV.c (CV.int IntKind.i64 (↑(0 : Nat) : Int))))],
                                      hp :=
                                        [HB.cells (59) [CV.view tR (1) (0) x.r.length],
                                          HB.row (56) tR x.r,
                                          HB.cells (56)
                                            [CV.int IntKind.i64 x.b.fst.fst, CV.int IntKind.i64 x.b.fst.snd.fst.fst,
                                              CV.int IntKind.i64 x.b.fst.snd.fst.snd.fst,
                                              CV.int IntKind.i64 x.b.fst.snd.fst.snd.snd, CV.str x.b.fst.snd.snd.fst,
                                              CV.row tI x.b.fst.snd.snd.snd, CV.int IntKind.i64 x.b.snd.fst,
                                              CV.int IntKind.i64 x.b.snd.snd]] :
                                      SS } ∧
                                  (TreeOk x.r ∧
                                      TreeOk x.s ∧
                                        (∀ (k : Int), k ∈ x.ks → k.toNat < m) ∧
                                          x.ks.length = (kidsOf x.b.fst).length ∧ x.ks.length ≤ maxI ∧ x.s = x.r) ∧
                                    (kidsB x = true →
                                        Q (SV.p (PV.c (CV.bool true)))
                                          [HB.cells (59) [CV.view tR (1) (0) x.r.length],
                                            HB.row (56) tR x.r]) ∧
                                      (kidsB x = false →
                                        Q (SV.p (PV.c (CV.bool false)))
                                          [HB.cells (59) [CV.view tR (1) (0) x.r.length],
                                            HB.row (56) tR x.r])) := by kernel_rfl

end Go.Proofs.Ytmncmmdicpcgmaa.Ch
