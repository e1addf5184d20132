/- Chapter 11 (code): the law CodeBuilds: states. No condition. -/
import Derived.Test.YtkpepieepdmjpaaRA
namespace Go.Proofs.Ytkpepieepdmjpaa.Ch
open Go Go.Proofs Go.Proofs.Ytkpepieepdmjpaa.Sx
set_option linter.unusedVariables false

/-- The way that the i-th instruction goes. -/
def wayK (to : List Int) (n i : Nat) : Int := (IntKind.u64.wrap (to.getD i 0)).tmod ((n : Int) + 1)
def wants (to : List Int) (n i : Nat) : List Int := (List.range i).map fun j => wayK to n j
def zIns (op n : Int) : Ins := (op, 0, 0, 0, n, 0, ⟨#[]⟩, (0, 0, 0, 0, ⟨#[]⟩), [], 0, 0, [], 0, (0, 0, 0), 0, 0)
def defArm (to : Int) : Arm := (3, 0, 0, 0, 0, to)
/-- The i-th instruction that is put: of a statement already. -/
def insB (ops to : List Int) (n i : Nat) : Ins :=
  if (IntKind.u64.wrap (ops.getD i 0)).tmod 4 = 0 then (19, 0, 0, 0, (i : Int), 0, ⟨#[]⟩, (0, 0, 0, 0, ⟨#[]⟩), [], 0, wayK to n i, [], 0, (0, 0, 0), 0, 0)
  else if (IntKind.u64.wrap (ops.getD i 0)).tmod 4 = 1 then (20, 0, 3, 0, (i : Int), 0, ⟨#[]⟩, (0, 0, 0, 0, ⟨#[]⟩), [], 0, wayK to n i, [], 0, (0, 0, 0), 0, 0)
  else if (IntKind.u64.wrap (ops.getD i 0)).tmod 4 = 2 then (37, 0, 0, 0, (i : Int), 0, ⟨#[]⟩, (0, 0, 0, 0, ⟨#[]⟩), [], 0, 0, [defArm (wayK to n i), defArm (n : Int)], 0, (0, 0, 0), 0, 0)
  else zIns 40 (i : Int)
def codesB (ops to : List Int) (n i : Nat) : List Ins := (List.range i).map (insB ops to n)
/-- Labels: i of them are told. -/
def labsI (n i : Nat) : List Int := (List.range i).map (fun j : Nat => (j : Int)) ++ List.replicate (n + 1 - i) 0
/-- Labels of the builder: i of them are marked. -/
def marksI (n i : Nat) : List Int := (List.range i).map (fun j : Nat => (j : Int)) ++ List.replicate (n + 1 - i) (-1)
def stm5 : Stm := (5, 0, 0, 0)
@[reducible] noncomputable def stB1 (ops to : List Int) (b : Bld) (ls : List Int) (n : Nat) (i : Nat) : SS := { nt := 253, fr := [(0, .p (.c (.row tI ops))), (1, .p (.c (.row tI to))), (5, .p (ti n)), (6, .p (.c (.ptr 0 0))), (7, .p (ti 0)), (8, .p (.c (.view tI 4 0 ls.length))), (9, .p (ti i))], hp := bH b ++ [.row 3 tI ls] }
noncomputable def b1_l : SS → (Exit → SS → Prop) → Prop := lamOf 0 [0, 1, 5, 6, 7, 8, 9] (fun z : (List Int × List Int) × Bld × List Int => stB1 z.1.1 z.1.2 z.2.1 z.2.2 z.1.1.length 0) (fun z => z.1.1.length ≤ 60 ∧ z.2.1 = ([], [], 4, [], -1) ∧ z.2.2 = labsI z.1.1.length 0) fun z Q =>
  ∀ (b : Bld) (ls : List Int), b = ([], marksI z.1.1.length 0, 4, [], -1) → ls = labsI z.1.1.length (z.1.1.length + 1) → Q (.exit 0) (⟨253, [(0, .p (.c (.row tI z.1.1))), (1, .p (.c (.row tI z.1.2))), (5, .p (ti z.1.1.length)), (6, .p (.c (.ptr 0 0))), (7, .p (ti 0)), (8, .p (.c (.view tI 4 0 ls.length)))], bH b ++ [.row 3 tI ls]⟩ : SS)
@[reducible] noncomputable def stB2 (ops to : List Int) (b : Bld) (ls ws : List Int) (n : Nat) (i : Nat) : SS := { nt := 253, fr := [(0, .p (.c (.row tI ops))), (1, .p (.c (.row tI to))), (5, .p (ti n)), (6, .p (.c (.ptr 0 0))), (7, .p (ti 0)), (8, .p (.c (.view tI 4 0 ls.length))), (10, .p (ti 0)), (11, .p (ti (-1))), (12, .p (.c (.view tI 5 0 ws.length))), (13, .p (ti i))], hp := bH b ++ [.row 3 tI ls, .row 3 tI ws] }
def b2I (n : Nat) : Bld := ([], List.replicate (n + 1) (-1), 4, [stm5], 0)
noncomputable def b2B (ops to : List Int) (n i : Nat) : Bld := (codesB ops to n i, marksI n i, 4, [stm5], 0)
/-- What holds behind the instructions. -/
def B2Ok (ops to : List Int) (b : Bld) (ls ws : List Int) (i : Nat) : Prop := b = (codesB ops to ops.length i, marksI ops.length i, 4, [stm5], 0) ∧ ls = labsI ops.length (ops.length + 1) ∧ ws = wants to ops.length i
noncomputable def b2_l : SS → (Exit → SS → Prop) → Prop := lamOf 0 [0, 1, 5, 6, 7, 8, 10, 11, 12, 13] (fun z : (List Int × List Int) × Bld × List Int => stB2 z.1.1 z.1.2 z.2.1 z.2.2 [] z.1.1.length 0) (fun z => (z.1.1.length ≤ 60 ∧ z.1.1.length ≤ z.1.2.length) ∧ B2Ok z.1.1 z.1.2 z.2.1 z.2.2 [] 0) fun z Q =>
  ∀ (b : Bld) (ws : List Int), B2Ok z.1.1 z.1.2 b z.2.2 ws z.1.1.length → Q (.exit 2) (⟨253, [(5, .p (ti z.1.1.length)), (6, .p (.c (.ptr 0 0))), (7, .p (ti 0)), (8, .p (.c (.view tI 4 0 z.2.2.length))), (10, .p (ti 0)), (11, .p (ti (-1))), (12, .p (.c (.view tI 5 0 ws.length)))], bH b ++ [.row 3 tI z.2.2, .row 3 tI ws]⟩ : SS)
@[reducible] noncomputable def stB5 (r : Int) (st : List Stm) (c : List Ins) (ws : List Int) (n : Nat) (i : Nat) : SS := { nt := 253, fr := [(5, .p (ti n)), (12, .p (.c (.view tI 0 0 ws.length))), (16, .p (.c (.view tIns 1 0 c.length))), (17, .p (ti r)), (18, .p (.c (.row tStm st))), (20, .p (ti i))], hp := [.row 3 tI ws, .row 38 tIns c] }
/-- What is built is what was put, with places in the place of labels. -/
def WayOk (c : List Ins) (ws : List Int) (n : Nat) : Prop := c.length = n + 1 ∧ ws.length = n ∧ n ≤ 60 ∧ ∀ i, i < n → (c.getD i tIns.dft).n = (i : Int) ∧ (c.getD i tIns.dft).stmt = 0 ∧
  ((c.getD i tIns.dft).op = 19 ∨ (c.getD i tIns.dft).op = 20 → (c.getD i tIns.dft).to = ws.getD i 0) ∧
  ((c.getD i tIns.dft).op = 37 → (c.getD i tIns.dft).arms = [defArm (ws.getD i 0), defArm (n : Int)])
noncomputable def b5_l : SS → (Exit → SS → Prop) → Prop := lamOf 0 [5, 12, 16, 17, 18, 20] (fun z : (Int × List Stm) × List Ins × List Int × Nat => stB5 z.1.1 z.1.2 z.2.1 z.2.2.1 z.2.2.2 0) (fun z => WayOk z.2.1 z.2.2.1 z.2.2.2) fun z Q =>
  Q (.exit 5) (⟨253, [(16, .p (.c (.view tIns 0 0 z.2.1.length))), (17, .p (ti z.1.1)), (18, .p (.c (.row tStm z.1.2)))], [.row 38 tIns z.2.1]⟩ : SS)
/-! ### the methods once more, told of named builders -/
noncomputable def mark2_t : Tr := trH [.ptr 0, .int .i64] bS fun x y Q => (okB y ∧ smallB (yB y)) ∧ ∀ b : Bld, b = ((yB y).1, markV (yB y).2.1 (yB y).1.length x.2.1, (yB y).2.2) → Q (.tup []) (bH b)
noncomputable def put2_t : Tr := trH [.ptr 0, .data tIns] bS fun x y Q => (okB y ∧ smallB (yB y) ∧ smallI x.2.1) ∧ ∀ b : Bld, b = ((yB y).1 ++ [Ins.setS x.2.1 (yB y).2.2.2.2], (yB y).2) → Q (.tup []) (bH b)
noncomputable def reg2_t : Tr := trH [.ptr 0, .int .i64] bS fun x y Q => (okB y ∧ smallB (yB y)) ∧ ∀ b : Bld, b = ((yB y).1, (yB y).2.1, IntKind.i64.wrap ((yB y).2.2.1 + min (max x.2.1 0) 65537), (yB y).2.2.2) → Q (.p (ti (yB y).2.2.1)) (bH b)
noncomputable def stmt2_t : Tr := trH [.ptr 0, .int .i64] bS fun x y Q => okB y ∧ ∀ b : Bld, b = ((yB y).1, (yB y).2.1, (yB y).2.2.1, (yB y).2.2.2.1, x.2.1) → ∀ w : Int, w = (yB y).2.2.2.2 → Q (.p (ti w)) (bH b)
noncomputable def add2_t : Tr := trH [.ptr 0, .data tStm] bS fun x y Q => (okB y ∧ smallB (yB y)) ∧ ∀ b : Bld, b = ((yB y).1, (yB y).2.1, (yB y).2.2.1, (yB y).2.2.2.1 ++ [x.2.1], (yB y).2.2.2.2) → ∀ k : Int, k = ((yB y).2.2.2.1.length : Nat) → Q (.p (ti k)) (bH b)
noncomputable def fin2_t : Tr := trH [.ptr 0] bS fun x y Q => (okB y ∧ smallB (yB y) ∧ ∀ x ∈ (yB y).1, smallI x) ∧ finE (yB y) = 0 ∧
  ∀ (b : Bld) (c : List Ins) (r : Int) (s : List Stm), b = yB y → c = resL (yB y).2.1 (yB y).1.length (yB y).1 → r = (yB y).2.2.1 → s = (yB y).2.2.2.1 → Q (.tup [.c (.view tIns 4 0 c.length), ti r, .c (.row tStm s), ti 0]) [dC b, .gone, .gone, .gone, .row 38 tIns c]
noncomputable def gBd : List (Nat × List Bool × Tr) := [(6, [], awake_t), (11, [], new_t), (12, [], reg2_t), (14, [], add2_t), (15, [], stmt2_t), (16, [], mark2_t), (17, [], put2_t), (18, [], fin2_t), (8, [], good_t)]
end Go.Proofs.Ytkpepieepdmjpaa.Ch
