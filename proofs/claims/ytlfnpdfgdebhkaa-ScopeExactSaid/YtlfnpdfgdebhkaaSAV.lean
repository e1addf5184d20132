/- Statements over the abstract machine, reckoned out: printed by a program of this session. No condition. -/
import Derived.Test.YtlfnpdfgdebhkaaSA
namespace Go.Proofs.Ytlfnpdfgdebhkaa.Ch
open Go Go.Proofs Go.Proofs.Ytlfnpdfgdebhkaa.Sx
set_option linter.unusedVariables false
theorem vc_has (o : List Int) (l : List Ob) (es : Es) (i : Int) (Q : SV → List HB → Prop) :
    (body Try.prog (gam []) noLam Try.f23 [PV.c (CV.ptr (0 : Nat) (0 : Nat)), ti i]
  [HB.cells (67 : TypeId)
      [CV.view tI (1 : Nat) (0 : Nat) o.length, CV.view tO (2 : Nat) (0 : Nat) l.length, CV.mp (3 : Nat)],
    HB.row (3 : TypeId) tI o, HB.row (40 : TypeId) tO l, HB.map true tKy false tI es]
  Q) =
    (Q (SV.p (PV.c (CV.bool (!false && decide (i ≥ (1 : Int)) && decide (i < (↑o.length : Int))))))
  [HB.cells (67)
      [CV.view tI (1) (0) o.length, CV.view tO (2) (0) l.length, CV.mp (3)],
    HB.row (3) tI o, HB.row (40) tO l, HB.map true tKy false tI es]) := by kernel_rfl

theorem vc_holds (o : List Int) (l : List Ob) (es : Es) (i : Int) (Q : SV → List HB → Prop) :
    (body Try.prog (gam []) noLam Try.f29 [PV.c (CV.ptr (0 : Nat) (0 : Nat)), ti i]
  [HB.cells (67 : TypeId)
      [CV.view tI (1 : Nat) (0 : Nat) o.length, CV.view tO (2 : Nat) (0 : Nat) l.length, CV.mp (3 : Nat)],
    HB.row (3 : TypeId) tI o, HB.row (40 : TypeId) tO l, HB.map true tKy false tI es]
  Q) =
    (Q (SV.p (PV.c (CV.bool (!false && decide (i ≥ (1 : Int)) && decide (i < (↑l.length : Int))))))
  [HB.cells (67)
      [CV.view tI (1) (0) o.length, CV.view tO (2) (0) l.length, CV.mp (3)],
    HB.row (3) tI o, HB.row (40) tO l, HB.map true tKy false tI es]) := by kernel_rfl

theorem vc_has0 (i : Int) (Q : SV → List HB → Prop) :
    (body Try.prog (gam []) noLam Try.f23 [PV.c CV.nilp, ti i] [] Q) =
    (Q (SV.p (PV.c (CV.bool false))) []) := by kernel_rfl

theorem vc_holds0 (i : Int) (Q : SV → List HB → Prop) :
    (body Try.prog (gam []) noLam Try.f29 [PV.c CV.nilp, ti i] [] Q) =
    (Q (SV.p (PV.c (CV.bool false))) []) := by kernel_rfl

theorem vc_kind (k : Int) (Q : SV → List HB → Prop) :
    (body Try.prog (gam []) noLam Try.f24 [ti k] [] Q) =
    (Q (SV.p (PV.c (CV.bool (decide (k ≥ (1 : Int)) && decide (k ≤ (9 : Int)))))) []) := by kernel_rfl

theorem vc_len (o : List Int) (l : List Ob) (es : Es) (Q : SV → List HB → Prop) :
    (body Try.prog (gam []) noLam Try.f14 [PV.c (CV.ptr (0 : Nat) (0 : Nat))]
  [HB.cells (67 : TypeId)
      [CV.view tI (1 : Nat) (0 : Nat) o.length, CV.view tO (2 : Nat) (0 : Nat) l.length, CV.mp (3 : Nat)],
    HB.row (3 : TypeId) tI o, HB.row (40 : TypeId) tO l, HB.map true tKy false tI es]
  Q) =
    (l.length ≤ maxI →
  Q (SV.p (PV.c (CV.int IntKind.i64 (IntKind.i64.wrap ((↑l.length : Int) - (1 : Int))))))
    [HB.cells (67)
        [CV.view tI (1) (0) o.length, CV.view tO (2) (0) l.length, CV.mp (3)],
      HB.row (3) tI o, HB.row (40) tO l, HB.map true tKy false tI es]) := by kernel_rfl

theorem vc_len0 (Q : SV → List HB → Prop) :
    (body Try.prog (gam []) noLam Try.f14 [PV.c CV.nilp] [] Q) =
    (Q (SV.p (PV.c (CV.int IntKind.i64 (0 : Int)))) []) := by kernel_rfl

theorem vc_outer (o : List Int) (l : List Ob) (es : Es) (i : Int) (Q : SV → List HB → Prop) :
    (body Try.prog (gam gHas) noLam Try.f16 [PV.c (CV.ptr (0 : Nat) (0 : Nat)), ti i]
  [HB.cells (67 : TypeId)
      [CV.view tI (1 : Nat) (0 : Nat) o.length, CV.view tO (2 : Nat) (0 : Nat) l.length, CV.mp (3 : Nat)],
    HB.row (3 : TypeId) tI o, HB.row (40 : TypeId) tO l, HB.map true tKy false tI es]
  Q) =
    ((o.length = o.length ∧ l.length = l.length ∧ o.length ≤ (1000 : Nat) ∧ l.length ≤ (1000 : Nat) ∧ (1 : Nat) ≤ l.length) ∧
  bif !inB o.length i then
    Q (SV.p (PV.c (CV.int IntKind.i64 (0 : Int))))
      [HB.cells (67)
          [CV.view tI (1) (0) o.length, CV.view tO (2) (0) l.length, CV.mp (3)],
        HB.row (3) tI o, HB.row (40) tO l, HB.map true tKy false tI es]
  else
    (0 : Int) ≤ i ∧
      i < (↑o.length : Int) ∧
        0 + i.toNat < o.length ∧
          Q (SV.p (PV.c (CV.int IntKind.i64 (o.getD (0 + i.toNat) tI.dft))))
            [HB.cells (67)
                [CV.view tI (1) (0) o.length, CV.view tO (2) (0) l.length,
                  CV.mp (3)],
              HB.row (3) tI o, HB.row (40) tO l, HB.map true tKy false tI es]) := by kernel_rfl

theorem vc_outer0 (i : Int) (Q : SV → List HB → Prop) :
    (body Try.prog (gam gHas) noLam Try.f16 [PV.c CV.nilp, ti i] [] Q) =
    (Q (SV.p (PV.c (CV.int IntKind.i64 (0 : Int)))) []) := by kernel_rfl

theorem vc_object (o : List Int) (l : List Ob) (es : Es) (i : Int) (Q : SV → List HB → Prop) :
    (body Try.prog (gam gHas) noLam Try.f15 [PV.c (CV.ptr (0 : Nat) (0 : Nat)), ti i]
  [HB.cells (67 : TypeId)
      [CV.view tI (1 : Nat) (0 : Nat) o.length, CV.view tO (2 : Nat) (0 : Nat) l.length, CV.mp (3 : Nat)],
    HB.row (3 : TypeId) tI o, HB.row (40 : TypeId) tO l, HB.map true tKy false tI es]
  Q) =
    ((o.length = o.length ∧ l.length = l.length ∧ o.length ≤ (1000 : Nat) ∧ l.length ≤ (1000 : Nat) ∧ (1 : Nat) ≤ l.length) ∧
  bif !inB l.length i then
    Q
      (SV.p
        (PV.agg
          [CV.int IntKind.i64 (0 : Int), CV.str { data := #[] : ByteArray }, CV.int IntKind.i64 (0 : Int),
            CV.int IntKind.i64 (0 : Int), CV.int IntKind.i64 (0 : Int), CV.int IntKind.i64 (0 : Int),
            CV.int IntKind.u64 (0 : Int), CV.int IntKind.u64 (0 : Int), CV.bool false,
            CV.str { data := #[] : ByteArray }, CV.int IntKind.i64 (0 : Int), CV.int IntKind.i64 (0 : Int),
            CV.int IntKind.i64 (0 : Int)]))
      [HB.cells (67)
          [CV.view tI (1) (0) o.length, CV.view tO (2) (0) l.length, CV.mp (3)],
        HB.row (3) tI o, HB.row (40) tO l, HB.map true tKy false tI es]
  else
    (0 : Int) ≤ i ∧
      i < (↑l.length : Int) ∧
        0 + i.toNat < l.length ∧
          Q
            (SV.p
              (PV.agg
                [CV.int IntKind.i64 (l.getD (0 + i.toNat) tO.dft).fst,
                  CV.str (l.getD (0 + i.toNat) tO.dft).snd.fst,
                  CV.int IntKind.i64 (l.getD (0 + i.toNat) tO.dft).snd.snd.fst,
                  CV.int IntKind.i64 (l.getD (0 + i.toNat) tO.dft).snd.snd.snd.fst,
                  CV.int IntKind.i64 (l.getD (0 + i.toNat) tO.dft).snd.snd.snd.snd.fst,
                  CV.int IntKind.i64 (l.getD (0 + i.toNat) tO.dft).snd.snd.snd.snd.snd.fst.fst,
                  CV.int IntKind.u64 (l.getD (0 + i.toNat) tO.dft).snd.snd.snd.snd.snd.fst.snd.fst.fst,
                  CV.int IntKind.u64 (l.getD (0 + i.toNat) tO.dft).snd.snd.snd.snd.snd.fst.snd.fst.snd,
                  CV.bool (l.getD (0 + i.toNat) tO.dft).snd.snd.snd.snd.snd.fst.snd.snd.fst,
                  CV.str (l.getD (0 + i.toNat) tO.dft).snd.snd.snd.snd.snd.fst.snd.snd.snd,
                  CV.int IntKind.i64 (l.getD (0 + i.toNat) tO.dft).snd.snd.snd.snd.snd.snd.fst,
                  CV.int IntKind.i64 (l.getD (0 + i.toNat) tO.dft).snd.snd.snd.snd.snd.snd.snd.fst,
                  CV.int IntKind.i64 (l.getD (0 + i.toNat) tO.dft).snd.snd.snd.snd.snd.snd.snd.snd]))
            [HB.cells (67)
                [CV.view tI (1) (0) o.length, CV.view tO (2) (0) l.length,
                  CV.mp (3)],
              HB.row (3) tI o, HB.row (40) tO l, HB.map true tKy false tI es]) := by kernel_rfl

theorem vc_object0 (i : Int) (Q : SV → List HB → Prop) :
    (body Try.prog (gam gHas) noLam Try.f15 [PV.c CV.nilp, ti i] [] Q) =
    (Q
  (SV.p
    (PV.agg
      [CV.int IntKind.i64 (0 : Int), CV.str { data := #[] : ByteArray }, CV.int IntKind.i64 (0 : Int),
        CV.int IntKind.i64 (0 : Int), CV.int IntKind.i64 (0 : Int), CV.int IntKind.i64 (0 : Int),
        CV.int IntKind.u64 (0 : Int), CV.int IntKind.u64 (0 : Int), CV.bool false, CV.str { data := #[] : ByteArray },
        CV.int IntKind.i64 (0 : Int), CV.int IntKind.i64 (0 : Int), CV.int IntKind.i64 (0 : Int)]))
  []) := by kernel_rfl

theorem vc_open (o : List Int) (l : List Ob) (es : Es) (i : Int) (Q : SV → List HB → Prop) :
    (body Try.prog (gam gHas) noLam Try.f10 [PV.c (CV.ptr (0 : Nat) (0 : Nat)), ti i]
  [HB.cells (67 : TypeId)
      [CV.view tI (1 : Nat) (0 : Nat) o.length, CV.view tO (2 : Nat) (0 : Nat) l.length, CV.mp (3 : Nat)],
    HB.row (3 : TypeId) tI o, HB.row (40 : TypeId) tO l, HB.map true tKy false tI es]
  Q) =
    ((o.length = o.length ∧ l.length = l.length ∧ o.length ≤ (1000 : Nat) ∧ l.length ≤ (1000 : Nat) ∧ (1 : Nat) ≤ l.length) ∧
  bif !inB o.length i then
    Q (SV.tup [PV.c (CV.int IntKind.i64 (0 : Int)), PV.c (CV.int IntKind.i64 (1 : Int))])
      [HB.cells (67)
          [CV.view tI (1) (0) o.length, CV.view tO (2) (0) l.length, CV.mp (3)],
        HB.row (3) tI o, HB.row (40) tO l, HB.map true tKy false tI es]
  else
    o.length ≤ maxI →
      bif decide ((↑o.length : Int) > (65536 : Int)) then
        Q (SV.tup [PV.c (CV.int IntKind.i64 (0 : Int)), PV.c (CV.int IntKind.i64 (3 : Int))])
          [HB.cells (67)
              [CV.view tI (1) (0) o.length, CV.view tO (2) (0) l.length,
                CV.mp (3)],
            HB.row (3) tI o, HB.row (40) tO l, HB.map true tKy false tI es]
      else
        (1 : Nat) ≤ [i].length ∧
          0 + o.length ≤ o.length ∧
            (vw o (0) o.length ++ [i]).length * (8 : Nat) ≤ (140737488355328 : Nat) ∧
              ((vw o (0) o.length ++ [i]).length ≤ maxI →
                Q
                  (SV.tup
                    [PV.c
                        (CV.int IntKind.i64
                          (IntKind.i64.wrap ((↑(vw o (0) o.length ++ [i]).length : Int) - (1 : Int)))),
                      PV.c (CV.int IntKind.i64 (0 : Int))])
                  [HB.cells (67)
                      [CV.view tI (1) (0) (vw o (0) o.length ++ [i]).length,
                        CV.view tO (2) (0) l.length, CV.mp (3)],
                    HB.row (3) tI (vw o (0) o.length ++ [i]), HB.row (40) tO l,
                    HB.map true tKy false tI es])) := by kernel_rfl

theorem vc_open0 (i : Int) (Q : SV → List HB → Prop) :
    (body Try.prog (gam gHas) noLam Try.f10 [PV.c CV.nilp, ti i] [] Q) =
    (Q (SV.tup [PV.c (CV.int IntKind.i64 (0 : Int)), PV.c (CV.int IntKind.i64 (2 : Int))]) []) := by kernel_rfl

theorem vc_here (o : List Int) (l : List Ob) (es : Es) (i : Int) (nm : ByteArray) (Q : SV → List HB → Prop) :
    (body Try.prog (gam [((23 : Nat), [], orNil has0_t has_t)]) noLam Try.f19
  [PV.c (CV.ptr (0 : Nat) (0 : Nat)), ti i, PV.c (CV.str nm)]
  [HB.cells (67 : TypeId)
      [CV.view tI (1 : Nat) (0 : Nat) o.length, CV.view tO (2 : Nat) (0 : Nat) l.length, CV.mp (3 : Nat)],
    HB.row (3 : TypeId) tI o, HB.row (40 : TypeId) tO l, HB.map true tKy false tI es]
  Q) =
    ((o.length = o.length ∧ l.length = l.length ∧ o.length ≤ (1000 : Nat) ∧ l.length ≤ (1000 : Nat) ∧ (1 : Nat) ≤ l.length) ∧
  bif !inB o.length i then
    Q (SV.tup [PV.c (CV.int IntKind.i64 (0 : Int)), PV.c (CV.bool false)])
      [HB.cells (67)
          [CV.view tI (1) (0) o.length, CV.view tO (2) (0) l.length, CV.mp (3)],
        HB.row (3) tI o, HB.row (40) tO l, HB.map true tKy false tI es]
  else
    Q (SV.tup [PV.c (CV.int IntKind.i64 ((lookM (kt := tKy) (i, nm) es).getD (0 : Int))), PV.c (CV.bool (lookM (kt := tKy) (i, nm) es).isSome)])
      [HB.cells (67)
          [CV.view tI (1) (0) o.length, CV.view tO (2) (0) l.length, CV.mp (3)],
        HB.row (3) tI o, HB.row (40) tO l, HB.map true tKy false tI es]) := by kernel_rfl

theorem vc_here0 (i : Int) (nm : ByteArray) (Q : SV → List HB → Prop) :
    (body Try.prog (gam [((23 : Nat), [], orNil has0_t has_t)]) noLam Try.f19 [PV.c CV.nilp, ti i, PV.c (CV.str nm)] [] Q) =
    (Q (SV.tup [PV.c (CV.int IntKind.i64 (0 : Int)), PV.c (CV.bool false)]) []) := by kernel_rfl

end Go.Proofs.Ytlfnpdfgdebhkaa.Ch
