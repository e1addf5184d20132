/- Statements over the abstract machine, reckoned out: printed by a program of this session. No condition. -/
import Derived.Test.YtmncmmdicpcgmaaTA
namespace Go.Proofs.Ytmncmmdicpcgmaa.Ch
open Go Go.Proofs Go.Proofs.Ytmncmmdicpcgmaa.Sx
set_option linter.unusedVariables false
theorem vc_new (Q : SV → List HB → Prop) :
    (body Try.prog (gam []) noLam Try.f22 [] [] Q) =
    (Q (SV.p (PV.c (CV.ptr (0) (0)))) [HB.cells (59) [CV.nils]]) := by kernel_rfl

theorem vc_has (rows : List Rw) (i : Int) (Q : SV → List HB → Prop) :
    (body Try.prog (gam []) noLam Try.f25 [PV.c (CV.ptr (0 : Nat) (0 : Nat)), ti i] (treeH rows) Q) =
    (Q (SV.p (PV.c (CV.bool (!false && decide (i ≥ (1 : Int)) && decide (i ≤ (↑rows.length : Int))))))
  [HB.cells (59) [CV.view tR (1) (0) rows.length], HB.row (56) tR rows]) := by kernel_rfl

theorem vc_has0 (i : Int) (Q : SV → List HB → Prop) :
    (body Try.prog (gam []) noLam Try.f25 [PV.c CV.nilp, ti i] [] Q) =
    (Q (SV.p (PV.c (CV.bool false))) []) := by kernel_rfl

theorem vc_isKind (k : Int) (Q : SV → List HB → Prop) :
    (body Try.prog (gam []) noLam Try.f28 [ti k] [] Q) =
    (Q (SV.p (PV.c (CV.bool (decide (k ≥ (1 : Int)) && decide (k ≤ (47 : Int)))))) []) := by kernel_rfl

theorem vc_clone (xs : List Int) (Q : SV → List HB → Prop) :
    (body Try.prog (gam []) noLam Try.f26 [PV.c (CV.row tI xs)] [] Q) =
    (∀ (b : Bool),
  (b = true → xs = []) →
    bif b then Q (SV.p (PV.c CV.nils)) []
    else
      (0 : Nat) ≤ (0 : Nat) ∧
        (vw [] (0 : Nat) (0 : Nat) ++ xs).length * (8 : Nat) ≤ (140737488355328 : Nat) ∧
          Q
            (SV.p
              (PV.c (CV.view (Ty.int IntKind.i64) (0) (0) (vw [] (0 : Nat) (0 : Nat) ++ xs).length)))
            [HB.row (3) (Ty.int IntKind.i64) (vw [] (0 : Nat) (0 : Nat) ++ xs)]) := by kernel_rfl

theorem vc_len (rows : List Rw) (Q : SV → List HB → Prop) :
    (body Try.prog (gam []) noLam Try.f13 [PV.c (CV.ptr (0 : Nat) (0 : Nat))] (treeH rows) Q) =
    (rows.length ≤ maxI →
  Q (SV.p (PV.c (CV.int IntKind.i64 (↑rows.length : Int))))
    [HB.cells (59) [CV.view tR (1) (0) rows.length], HB.row (56) tR rows]) := by kernel_rfl

theorem vc_len0 (Q : SV → List HB → Prop) :
    (body Try.prog (gam []) noLam Try.f13 [PV.c CV.nilp] [] Q) =
    (Q (SV.p (PV.c (CV.int IntKind.i64 (0 : Int)))) []) := by kernel_rfl

theorem vc_bad (k : Int) (rows : List Rw) (Q : SV → List HB → Prop) :
    (body Try.prog (gam []) noLam Try.f30 [ti k, PV.c (CV.ptr (0 : Nat) (0 : Nat))] (boxH rows) Q) =
    (Q (SV.p (PV.c (CV.bool (decide (k < (0 : Int)) || decide (k > (↑rows.length : Int))))))
  [HB.cells (25) [CV.ptr (1) (0)],
    HB.cells (59) [CV.view tR (2) (0) rows.length], HB.row (56) tR rows]) := by kernel_rfl

theorem vc_find (ks : List Int) (rows : List Rw) (Q : SV → List HB → Prop) :
    (body Try.prog (gam [((30 : Nat), [], bad_t)]) (lam [((0 : Nat), find_l)]) Try.f32
  [PV.c (CV.row tI ks), PV.clo (30 : FuncId) [CV.ptr (0 : Nat) (0 : Nat)]] (boxH rows) Q) =
    (ks.length ≤ maxI →
  ∃ (x : List Int × List Rw),
    { nt := 19,
          fr :=
            [(0, SV.p (PV.c (CV.row tI ks))),
              (1, SV.p (PV.clo (30) [CV.ptr (0) (0)])),
              (7, SV.p (PV.c (CV.int IntKind.i64 (↑ks.length : Int)))),
              (8, SV.p (PV.c (CV.int IntKind.i64 (0 : Int))))],
          hp :=
            [HB.cells (25) [CV.ptr (1) (0)],
              HB.cells (59) [CV.view tR (2) (0) rows.length], HB.row (56) tR rows] :
          SS } =
        { nt := 19,
          fr :=
            [(0, SV.p (PV.c (CV.row tI x.fst))),
              (1, SV.p (PV.clo (30) [CV.ptr (0) (0)])),
              (7, SV.p (PV.c (CV.int IntKind.i64 (↑x.fst.length : Int)))),
              (8, SV.p (PV.c (CV.int IntKind.i64 (↑(0 : Nat) : Int))))],
          hp :=
            [HB.cells (25) [CV.ptr (1) (0)],
              HB.cells (59) [CV.view tR (2) (0) x.snd.length], HB.row (56) tR x.snd] :
          SS } ∧
      x.fst.length ≤ maxI ∧
        (x.fst.any (badB x.snd.length) = false →
            Q (SV.p (PV.c (CV.int IntKind.i64 (-1 : Int))))
              [HB.cells (25) [CV.ptr (1) (0)],
                HB.cells (59) [CV.view tR (2) (0) x.snd.length],
                HB.row (56) tR x.snd]) ∧
          ∀ (r : Nat),
            x.fst.any (badB x.snd.length) = true →
              r ≤ maxI →
                Q (SV.p (PV.c (CV.int IntKind.i64 (↑r : Int))))
                  [HB.cells (25) [CV.ptr (1) (0)],
                    HB.cells (59) [CV.view tR (2) (0) x.snd.length],
                    HB.row (56) tR x.snd]) := by kernel_rfl

theorem vc_find_l (ks : List Int) (rows : List Rw) (i : Nat) (K : SS → Prop) (Q : Exit → SS → Prop) :
    (sx Try.prog (gam [((30 : Nat), [], bad_t)]) noLam (lp Try.f32 (0 : Nat)) (0 : Nat) (stFind ks rows i)
  (thenQ (cq (3 : Nat) [(0 : Nat), (1 : Nat), (7 : Nat), (8 : Nat)] K) (cQE (3 : Nat) [] [(4 : Nat)] Q))) =
    (bif decide ((↑i : Int) < (↑ks.length : Int)) then
  (0 : Int) ≤ (↑i : Int) ∧
    (↑i : Int) < (↑ks.length : Int) ∧
      (↑i : Int).toNat < ks.length ∧
        rows.length = rows.length ∧
          bif badB rows.length (ks.getD (↑i : Int).toNat tI.dft) then
            Q Exit.ret
              { nt := 19, fr := [(4, SV.p (PV.c (CV.int IntKind.i64 (↑i : Int))))],
                hp :=
                  [HB.cells (25) [CV.ptr (1) (0)],
                    HB.cells (59) [CV.view tR (2) (0) rows.length],
                    HB.row (56) tR rows] :
                SS }
          else
            K
              { nt := 19,
                fr :=
                  [(0, SV.p (PV.c (CV.row tI ks))),
                    (1, SV.p (PV.clo (30) [CV.ptr (0) (0)])),
                    (7, SV.p (PV.c (CV.int IntKind.i64 (↑ks.length : Int)))),
                    (8, SV.p (PV.c (CV.int IntKind.i64 (IntKind.i64.wrap ((↑i : Int) + (1 : Int))))))],
                hp :=
                  [HB.cells (25) [CV.ptr (1) (0)],
                    HB.cells (59) [CV.view tR (2) (0) rows.length],
                    HB.row (56) tR rows] :
                SS }
else
  Q (Exit.exit (0))
    { nt := 19, fr := [],
      hp :=
        [HB.cells (25) [CV.ptr (1) (0)],
          HB.cells (59) [CV.view tR (2) (0) rows.length], HB.row (56) tR rows] :
      SS }) := by kernel_rfl

theorem vc_contains (ks : List Int) (rows : List Rw) (Q : SV → List HB → Prop) :
    (body Try.prog (gam [((32 : Nat), [], index_t)]) noLam Try.f31
  [PV.c (CV.row tI ks), PV.clo (30 : FuncId) [CV.ptr (0 : Nat) (0 : Nat)]] (boxH rows) Q) =
    (rows.length = rows.length ∧
  ∀ (r : Int),
    ks.any (badB rows.length) = decide ((0 : Int) ≤ r) →
      Q (SV.p (PV.c (CV.bool (decide (r ≥ (0 : Int))))))
        [HB.cells (25) [CV.ptr (1) (0)],
          HB.cells (59) [CV.view tR (2) (0) rows.length], HB.row (56) tR rows]) := by kernel_rfl

end Go.Proofs.Ytmncmmdicpcgmaa.Ch
