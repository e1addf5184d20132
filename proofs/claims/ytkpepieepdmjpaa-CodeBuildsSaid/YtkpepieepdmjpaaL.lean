/- Chapter 11 (code): the builder: contracts. No condition. -/
import Derived.Test.YtkpepieepdmjpaaN
namespace Go.Proofs.Ytkpepieepdmjpaa.Ch
open Go Go.Proofs Go.Proofs.Ytkpepieepdmjpaa.Sx
set_option linter.unusedVariables false

abbrev Bld := List Ins × List Int × Int × List Stm × Int
abbrev bS : List HS := [.cells 68 [.all tIns 1, .all tI 2, .int .i64, .all tStm 3, .int .i64], .row 38 tIns, .row 3 tI, .row 47 tStm]
abbrev bH (b : Bld) : List HB := [.cells 68 [.view tIns 1 0 b.1.length, .view tI 2 0 b.2.1.length, .int .i64 b.2.2.1, .view tStm 3 0 b.2.2.2.1.length, .int .i64 b.2.2.2.2], .row 38 tIns b.1, .row 3 tI b.2.1, .row 47 tStm b.2.2.2.1]
def yB (y : HS.TL bS) : Bld := (y.2.1, y.2.2.1, y.1.2.2.1, y.2.2.2.1, y.1.2.2.2.2.1)
def okB (y : HS.TL bS) : Prop := y.1.1 = y.2.1.length ∧ y.1.2.1 = y.2.2.1.length ∧ y.1.2.2.2.1 = y.2.2.2.1.length
def smallB (b : Bld) : Prop := b.1.length ≤ 1000 ∧ b.2.1.length ≤ 1000 ∧ b.2.2.2.1.length ≤ 1000
/-- A builder that is read alone. -/
abbrev dS : List HS := [.cells 68 [.row tIns, .row tI, .int .i64, .row tStm, .int .i64]]
abbrev dC (b : Bld) : HB := .cells 68 [.row tIns b.1, .row tI b.2.1, .int .i64 b.2.2.1, .row tStm b.2.2.2.1, .int .i64 b.2.2.2.2]
def dB (y : HS.TL dS) : Bld := (y.1.1, y.1.2.1, y.1.2.2.1, y.1.2.2.2.1, y.1.2.2.2.2.1)
noncomputable def new_t : Tr := trH [] [] fun _ _ Q => Q (.p (.c (.ptr 0 0))) (bH ([], [], 0, [], -1))
def Ins.setTo (x : Ins) (t : Int) : Ins := (x.1, x.2.1, x.2.2.1, x.2.2.2.1, x.2.2.2.2.1, x.2.2.2.2.2.1, x.2.2.2.2.2.2.1, x.2.2.2.2.2.2.2.1, x.2.2.2.2.2.2.2.2.1, x.2.2.2.2.2.2.2.2.2.1, t, x.2.2.2.2.2.2.2.2.2.2.2)
def Ins.setA (x : Ins) (l : List Arm) : Ins := (x.1, x.2.1, x.2.2.1, x.2.2.2.1, x.2.2.2.2.1, x.2.2.2.2.2.1, x.2.2.2.2.2.2.1, x.2.2.2.2.2.2.2.1, x.2.2.2.2.2.2.2.2.1, x.2.2.2.2.2.2.2.2.2.1, x.2.2.2.2.2.2.2.2.2.2.1, l, x.2.2.2.2.2.2.2.2.2.2.2.2)
def Arm.setTo (a : Arm) (t : Int) : Arm := (a.1, a.2.1, a.2.2.1, a.2.2.2.1, a.2.2.2.2.1, t)
noncomputable def put_t : Tr := trH [.ptr 0, .data tIns] bS fun x y Q => (okB y ∧ smallB (yB y) ∧ smallI x.2.1) ∧ Q (.tup []) (bH ((yB y).1 ++ [Ins.setS x.2.1 (yB y).2.2.2.2], (yB y).2))
def placeV (l : List Int) (n : Nat) (k : Int) : Int := if k < 0 ∨ (l.length : Int) ≤ k ∨ (n : Int) ≤ l.getD k.toNat 0 then -1 else l.getD k.toNat 0
noncomputable def place_t : Tr := trH [.ptr 0, .int .i64] dS fun x y Q => smallB (dB y) ∧ Q (.p (ti (placeV (dB y).2.1 (dB y).1.length x.2.1))) [dC (dB y)]
noncomputable def cloneAO_t : Tr := trH [.row tArm] [] fun x _ Q => x.1.length ≤ 1000000 ∧ Q (.p (.c (.view tArm 0 0 x.1.length))) [.row 51 tArm x.1]
def rArmsV (l : List Int) (n : Nat) (av : List Arm) : List Arm := av.map fun a => a.setTo (placeV l n a.to)
def resV (l : List Int) (n : Nat) (x : Ins) : Ins × Bool :=
  if x.op = 19 ∨ x.op = 20 then (x.setTo (placeV l n x.to), decide (0 ≤ placeV l n x.to)) else
  if x.op = 37 then (x.setA (rArmsV l n x.arms), (rArmsV l n x.arms).all fun a => decide (0 ≤ a.to)) else (x, true)
noncomputable def res_t : Tr := trH [.ptr 0, .data tIns] dS fun x y Q => (smallB (dB y) ∧ smallI x.2.1) ∧
  (x.2.1.1 ≠ 37 → Q (.tup [.agg (toCV tIns (resV (dB y).2.1 (dB y).1.length x.2.1).1), tb (resV (dB y).2.1 (dB y).1.length x.2.1).2]) [dC (dB y)]) ∧
  (x.2.1.1 = 37 → Q (.tup [.agg (toCV tIns (resV (dB y).2.1 (dB y).1.length x.2.1).1), tb (resV (dB y).2.1 (dB y).1.length x.2.1).2]) [dC (dB y), .gone])
@[reducible] noncomputable def armCV (x : Ins) (b n : Nat) : List CV := [.int .i64 x.1, .int .i64 x.2.1, .int .i64 x.2.2.1, .int .i64 x.2.2.2.1, .int .i64 x.2.2.2.2.1, .int .i64 x.2.2.2.2.2.1, .str x.2.2.2.2.2.2.1, .int .i64 x.2.2.2.2.2.2.2.1.1, .int .i64 x.2.2.2.2.2.2.2.1.2.1, .int .i64 x.2.2.2.2.2.2.2.1.2.2.1, .int .i64 x.2.2.2.2.2.2.2.1.2.2.2.1, .str x.2.2.2.2.2.2.2.1.2.2.2.2, .row tI x.2.2.2.2.2.2.2.2.1, .int .i64 x.2.2.2.2.2.2.2.2.2.1, .int .i64 x.2.2.2.2.2.2.2.2.2.2.1, .view tArm b 0 n, .int .i64 x.2.2.2.2.2.2.2.2.2.2.2.2.1, .int .i64 x.2.2.2.2.2.2.2.2.2.2.2.2.2.1.1, .int .i64 x.2.2.2.2.2.2.2.2.2.2.2.2.2.1.2.1, .int .i64 x.2.2.2.2.2.2.2.2.2.2.2.2.2.1.2.2, .int .i64 x.2.2.2.2.2.2.2.2.2.2.2.2.2.2.1, .int .i64 x.2.2.2.2.2.2.2.2.2.2.2.2.2.2.2]
abbrev zCV : List CV := [.int .i64 0, .int .i64 0, .int .i64 0, .int .i64 0, .int .i64 0, .int .i64 0, .str ⟨#[]⟩, .int .i64 0, .int .i64 0, .int .i64 0, .int .i64 0, .str ⟨#[]⟩, .nils, .int .i64 0, .int .i64 0, .nils, .int .i64 0, .int .i64 0, .int .i64 0, .int .i64 0, .int .i64 0, .int .i64 0]
@[reducible] noncomputable def stRs (b : Bld) (x : Ins) (av : List Arm) (ok : Bool) (i : Nat) : SS := { nt := 59, fr := [(0, .p (.c (.ptr 0 0))), (3, .p (.c (.ptr 1 0))), (4, .p (.c (.ptr 3 0))), (6, .p (tb ok)), (29, .p (ti av.length)), (30, .p (ti i))], hp := [dC b, .cells 38 (armCV x 2 av.length), .row 51 tArm av, .cells 38 zCV] }
noncomputable def rs_l : SS → (Exit → SS → Prop) → Prop := lamOf 1 [0, 3, 4, 6, 29, 30] (fun z : Bld × Ins × List Arm => stRs z.1 z.2.1 z.2.2 true 0) (fun z => smallB z.1 ∧ z.2.2.length ≤ 20) fun z Q =>
  Q (.exit 1) (⟨59, [(3, .p (.c (.ptr 1 0))), (4, .p (.c (.ptr 3 0))), (6, .p (tb ((rArmsV z.1.2.1 z.1.1.length z.2.2).all fun a => decide (0 ≤ a.to))))], [dC z.1, .cells 38 (armCV z.2.1 2 z.2.2.length), .row 51 tArm (rArmsV z.1.2.1 z.1.1.length z.2.2), .cells 38 zCV]⟩ : SS)
def resL (l : List Int) (n : Nat) (c : List Ins) : List Ins := c.map fun x => (resV l n x).1
def resA (l : List Int) (n : Nat) (c : List Ins) : Bool := c.all fun x => (resV l n x).2
abbrev gH (b : Bld) : List HB := [dC b, .gone, .gone, .gone]
@[reducible] noncomputable def stFi (b : Bld) (out : List Ins) (i : Nat) : SS := { nt := 76, fr := [(0, .p (.c (.ptr 0 0))), (7, .p (.c (.view tIns 4 0 out.length))), (34, .p (.c (.row tIns b.1))), (35, .p (ti b.1.length)), (36, .p (ti i))], hp := [dC b, .gone, .gone, .gone, .row 38 tIns out] }
@[reducible] noncomputable def stFi0 (b : Bld) : SS := { nt := 76, fr := [(0, .p (.c (.ptr 0 0))), (7, .p (.c .nils)), (34, .p (.c (.row tIns b.1))), (35, .p (ti b.1.length)), (36, .p (ti 0))], hp := gH b }
noncomputable def fi_l : SS → (Exit → SS → Prop) → Prop := lamOf 4 [0, 7, 34, 35, 36] (fun b : Bld => stFi0 b) (fun b => smallB b ∧ ∀ x ∈ b.1, smallI x) fun b Q =>
  (resA b.2.1 b.1.length b.1 = true → Q (.exit 0) (⟨76, [(0, .p (.c (.ptr 0 0))), (7, .p (.c (.view tIns 4 0 (resL b.2.1 b.1.length b.1).length)))], [dC b, .gone, .gone, .gone, .row 38 tIns (resL b.2.1 b.1.length b.1)]⟩ : SS)) ∧
  (resA b.2.1 b.1.length b.1 = false → Q .ret (⟨76, [(2, .p (.c .nils)), (3, .p (ti 0)), (4, .p (.c .nils)), (5, .p (ti 15))], gH b⟩ : SS))
def finE (b : Bld) : Int := if b.1.length = 0 ∨ endsV (b.1.getD (b.1.length - 1) tIns.dft) = false ∨ resA b.2.1 b.1.length b.1 = false then 15 else if 65536 < b.2.2.1 ∨ 65536 < (b.1.length : Int) then 3 else 0
noncomputable def fin_t : Tr := trH [.ptr 0] bS fun x y Q => (okB y ∧ smallB (yB y) ∧ ∀ x ∈ (yB y).1, smallI x) ∧
  (finE (yB y) = 0 → Q (.tup [.c (.view tIns 4 0 (resL (yB y).2.1 (yB y).1.length (yB y).1).length), ti (yB y).2.2.1, .c (.row tStm (yB y).2.2.2.1), ti 0]) [dC (yB y), .gone, .gone, .gone, .row 38 tIns (resL (yB y).2.1 (yB y).1.length (yB y).1)]) ∧ (finE (yB y) ≠ 0 → Q (.tup [.c .nils, ti 0, .c .nils, ti (finE (yB y))]) (gH (yB y)))
/-! ### the other methods -/
noncomputable def reg_t : Tr := trH [.ptr 0, .int .i64] bS fun x y Q => (okB y ∧ smallB (yB y)) ∧ Q (.p (ti (yB y).2.2.1)) (bH ((yB y).1, (yB y).2.1, IntKind.i64.wrap ((yB y).2.2.1 + min (max x.2.1 0) 65537), (yB y).2.2.2))
noncomputable def label_t : Tr := trH [.ptr 0] bS fun x y Q => (okB y ∧ smallB (yB y)) ∧ Q (.p (ti ((yB y).2.1.length : Nat))) (bH ((yB y).1, (yB y).2.1 ++ [-1], (yB y).2.2))
def markV (l : List Int) (n : Nat) (k : Int) : List Int := if 0 ≤ k ∧ k < (l.length : Int) then l.set k.toNat n else l
noncomputable def mark_t : Tr := trH [.ptr 0, .int .i64] bS fun x y Q => (okB y ∧ smallB (yB y)) ∧ Q (.tup []) (bH ((yB y).1, markV (yB y).2.1 (yB y).1.length x.2.1, (yB y).2.2))
noncomputable def stmt_t : Tr := trH [.ptr 0, .int .i64] bS fun x y Q => okB y ∧ Q (.p (ti (yB y).2.2.2.2)) (bH ((yB y).1, (yB y).2.1, (yB y).2.2.1, (yB y).2.2.2.1, x.2.1))
noncomputable def add_t : Tr := trH [.ptr 0, .data tStm] bS fun x y Q => (okB y ∧ smallB (yB y)) ∧ Q (.p (ti ((yB y).2.2.2.1.length : Nat))) (bH ((yB y).1, (yB y).2.1, (yB y).2.2.1, (yB y).2.2.2.1 ++ [x.2.1], (yB y).2.2.2.2))
end Go.Proofs.Ytkpepieepdmjpaa.Ch
