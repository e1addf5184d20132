/- Chapter 22 (reach): the graph of a func's code (flow.Of): plain functions, contracts. No condition. -/
import Derived.Test.YtckijackbldkhaaH
namespace Go.Proofs.Ytckijackbldkhaa.Ch
open Go Go.Proofs Go.Proofs.Ytckijackbldkhaa.Sx
set_option linter.unusedVariables false

abbrev fsB : List FT := [.pure tI, .pure tI, .own 3 tI, .own 3 tI]
abbrev tBlk : Ty := .prod tI (.prod tI (.prod (.row tI) (.prod (.row tI) .unit)))
abbrev tGra : Ty := .prod (.row tBlk) (.prod (.row tI) (.row tI))
abbrev Blk := tBlk.T
abbrev Gra := tGra.T
def partsV (i : Ins) : Bool := endsV i || decide (i.op = 20)
noncomputable def parts_t : Tr := trH [.data tIns] [] fun x _ Q => Q (.p (tb (partsV x.1))) []
def setT (o : List Bool) (k : Int) : List Bool := o.set k.toNat true
noncomputable def begStep (p : Pro) (out : List Bool) (pc : Nat) : List Bool :=
  if partsV (p.code.getD pc tIns.dft) then (nextV (p.code.getD pc tIns.dft) pc).foldl setT (out.set (pc + 1) true) else out
noncomputable def begV (p : Pro) : List Bool := (List.range p.code.length).foldl (begStep p) ((List.replicate (p.code.length + 1) false).set 0 true)
noncomputable def begins_t : Tr := trH [.data tPro] [] fun x _ Q => (smallP x.1 ∧ goodV x.1 = true) ∧ Q (.p (.c (.row .bool (begV x.1)))) []
@[reducible] noncomputable def stBe (c : List Ins) (out : List Bool) (i : Nat) : SS := { nt := 44, fr := [(3, .p (.c (.view .bool 0 0 out.length))), (16, .p (.c (.row tIns c))), (17, .p (ti c.length)), (18, .p (ti i))], hp := [.row 4 .bool out] }
@[reducible] noncomputable def stBi (c : List Ins) (out : List Bool) (i : Nat) (l : List Int) (j : Nat) : SS := { nt := 44, fr := [(3, .p (.c (.view .bool 0 0 out.length))), (16, .p (.c (.row tIns c))), (17, .p (ti c.length)), (18, .p (ti i)), (32, .p (.c (.row tI l))), (33, .p (ti l.length)), (34, .p (ti j))], hp := [.row 4 .bool out] }
@[reducible] noncomputable def stBe2 (c : List Ins) (out : List Bool) (i : Nat) : SS := { nt := 44, fr := [(3, .p (.c (.view .bool 0 0 out.length))), (16, .p (.c (.row tIns c))), (17, .p (ti c.length)), (18, .p (ti i))], hp := [.row 4 .bool out] }
def inR (n : Nat) (l : List Int) : Prop := ∀ k ∈ l, 0 ≤ k ∧ k < (n : Int)
noncomputable def bi_l : SS → (Exit → SS → Prop) → Prop := lamOf 0 [3, 16, 17, 18, 32, 33, 34] (fun x : List Ins × List Bool × Nat × List Int => stBi x.1 x.2.1 x.2.2.1 x.2.2.2 0) (fun x => inR x.2.1.length x.2.2.2 ∧ x.2.2.2.length ≤ 1000000)
  fun x Q => Q (.exit 2) (stBe2 x.1 (x.2.2.2.foldl setT x.2.1) x.2.2.1)
noncomputable def be_l : SS → (Exit → SS → Prop) → Prop := lamOf 0 [3, 16, 17, 18] (fun x : Pro => stBe x.code ((List.replicate (x.code.length + 1) false).set 0 true) 0) (fun x => smallP x ∧ goodV x = true)
  fun x Q => Q (.exit 0) (⟨44, [(3, .p (.c (.view .bool 0 0 (begV x).length)))], [.row 4 .bool (begV x)]⟩ : SS)
/-- The blocks and of each instruction its block, up to an instruction. -/
noncomputable def b1Step (beg : List Bool) (s : List Blk × List Int) (pc : Nat) : List Blk × List Int :=
  let bl : List Blk := if beg.getD pc false then s.1 ++ [((pc : Int), (0 : Int), [], [], ())] else s.1
  (bl.set (bl.length - 1) ((bl.getD (bl.length - 1) tBlk.dft).1, (pc : Int) + 1, (bl.getD (bl.length - 1) tBlk.dft).2.2), s.2.set pc ((bl.length : Int) - 1))
noncomputable def b1V (p : Pro) (n : Nat) : List Blk × List Int := (List.range n).foldl (b1Step (begV p)) ([], List.replicate p.code.length 0)
/-- An edge. -/
noncomputable def edge (b : Nat) (bl : List Blk) (to : Int) : List Blk :=
  let x := bl.getD b tBlk.dft
  let bl' : List Blk := bl.set b (x.1, x.2.1, x.2.2.1 ++ [to], x.2.2.2)
  let y := bl'.getD to.toNat tBlk.dft
  bl'.set to.toNat (y.1, y.2.1, y.2.2.1, y.2.2.2.1 ++ [(b : Int)], ())
noncomputable def b2Step (p : Pro) (at_ : List Int) (bl : List Blk) (b : Nat) : List Blk :=
  (nextV (p.code.getD ((bl.getD b tBlk.dft).2.1 - 1).toNat tIns.dft) ((bl.getD b tBlk.dft).2.1 - 1)).foldl (fun bl k => edge b bl (at_.getD k.toNat 0)) bl
noncomputable def b2V (p : Pro) (n : Nat) : List Blk := (List.range n).foldl (b2Step p (b1V p p.code.length).2) (b1V p p.code.length).1
@[reducible] noncomputable def stOf (p : Pro) (beg : List Bool) (bl : List Blk) (at_ : List Int) (i : Nat) : SS := { nt := 121, fr := [(1, .p (.c (.ptr 0 0))), (2, .p (.c (.ptr 1 0))), (3, .p (.c (.ptr 2 0))), (4, .p (.c (.row .bool beg))), (25, .p (ti p.code.length)), (26, .p (ti i))], hp := [.cells 29 (toCV tPro p), .cells 34 [.nils, .nils, .nils], .cells 34 [.view tBlk 3 0 bl.length, .view tI 4 0 at_.length, .nils], .nest 37 none fsB bl none, .row 3 tI at_] }
@[reducible] noncomputable def stOf0 (p : Pro) (beg : List Bool) (at_ : List Int) : SS := { nt := 121, fr := [(1, .p (.c (.ptr 0 0))), (2, .p (.c (.ptr 1 0))), (3, .p (.c (.ptr 2 0))), (4, .p (.c (.row .bool beg))), (25, .p (ti p.code.length)), (26, .p (ti 0))], hp := [.cells 29 (toCV tPro p), .cells 34 [.nils, .nils, .nils], .cells 34 [.nils, .view tI 3 0 at_.length, .nils], .row 3 tI at_] }
@[reducible] noncomputable def stOf2 (p : Pro) (bl : List Blk) (at_ : List Int) (b : Nat) : SS := { nt := 121, fr := [(1, .p (.c (.ptr 0 0))), (2, .p (.c (.ptr 1 0))), (3, .p (.c (.ptr 2 0))), (59, .p (ti bl.length)), (60, .p (ti b))], hp := [.cells 29 (toCV tPro p), .cells 34 [.nils, .nils, .nils], .cells 34 [.view tBlk 3 0 bl.length, .view tI 4 0 at_.length, .nils], .nest 37 none fsB bl none, .row 3 tI at_] }
@[reducible] noncomputable def stOf3 (p : Pro) (bl : List Blk) (at_ : List Int) (b : Nat) (l : List Int) (j : Nat) : SS := { nt := 121, fr := [(1, .p (.c (.ptr 0 0))), (2, .p (.c (.ptr 1 0))), (3, .p (.c (.ptr 2 0))), (7, .p (ti b)), (59, .p (ti bl.length)), (60, .p (ti b)), (76, .p (.c (.row tI l))), (77, .p (ti l.length)), (78, .p (ti j))], hp := [.cells 29 (toCV tPro p), .cells 34 [.nils, .nils, .nils], .cells 34 [.view tBlk 3 0 bl.length, .view tI 4 0 at_.length, .nils], .nest 37 none fsB bl none, .row 3 tI at_] }
/-- Depth first: seen, left, the way. -/
abbrev Dfs := List Bool × List Int × List (Int × Int)
def topW (st : List (Int × Int)) : Int × Int := st.getD (st.length - 1) (0, 0)
noncomputable def nxt (bl : List Blk) (b : Int) : List Int := (bl.getD b.toNat tBlk.dft).2.2.1
noncomputable def ordStep (bl : List Blk) (x : Dfs) : Dfs :=
  let w := topW x.2.2
  if w.2 = ((nxt bl w.1).length : Int) then (x.1, x.2.1 ++ [w.1], x.2.2.take (x.2.2.length - 1)) else
    let k := (nxt bl w.1).getD w.2.toNat 0
    let st : List (Int × Int) := x.2.2.set (x.2.2.length - 1) (w.1, w.2 + 1)
    if x.1.getD k.toNat false then (x.1, x.2.1, st) else (x.1.set k.toNat true, x.2.1, st ++ [(k, 0)])
noncomputable def ordRun (bl : List Blk) : Nat → Dfs → Dfs
  | 0, x => x
  | n + 1, x => if x.2.2.length = 0 then x else ordRun bl n (ordStep bl x)
def dfs0 (n : Nat) : Dfs := ((List.replicate n false).set 0 true, [], [(0, 0)])
noncomputable def fuelV (bl : List Blk) : Nat := bl.length * 10000 + 10000
noncomputable def orderV (bl : List Blk) : List Int := (ordRun bl (fuelV bl) (dfs0 bl.length)).2.1.reverse
/-- Blocks that go on within themselves. -/
def OkB (bl : List Blk) : Prop := 0 < bl.length ∧ bl.length ≤ 1000 ∧ ∀ b ∈ bl, b.2.2.1.length ≤ 100 ∧ inR bl.length b.2.2.1
noncomputable def order_t : Tr := trH [.data tGra] [] fun x _ Q => OkB x.1.1 ∧ Q (.p (.c (.view tI 0 0 (orderV x.1.1).length))) [.row 3 tI (orderV x.1.1)]
abbrev tWay : Ty := .prod tI tI
@[reducible] noncomputable def stOr (g : Gra) (s : List Bool) (l : List Int) (xs : List (Int × Int)) (n : Nat) : SS := { nt := 83, fr := [(1, .p (.c (.ptr 0 0))), (3, .p (.c (.view .bool 1 0 s.length))), (4, .p (.c (.view tI 2 0 l.length))), (5, .p (.c (.view tWay 3 0 n)))], hp := [.cells 34 (toCV tGra g), .row 4 .bool s, .row 3 tI l, .row 93 tWay xs] }
@[reducible] noncomputable def stOr0 (g : Gra) : SS := { nt := 83, fr := [(1, .p (.c (.ptr 0 0))), (3, .p (.c (.view .bool 1 0 (dfs0 g.1.length).1.length))), (4, .p (.c .nils)), (5, .p (.c (.view tWay 2 0 1)))], hp := [.cells 34 (toCV tGra g), .row 4 .bool (dfs0 g.1.length).1, .row 93 tWay [(0, 0)]] }
noncomputable def or_l : SS → (Exit → SS → Prop) → Prop := lamOf 0 [1, 3, 4, 5] (fun g : Gra => stOr0 g) (fun g => OkB g.1) fun g Q => ∀ l : List Int, l.length ≤ 1000000 → orderV g.1 = l.reverse → Q (.exit 0) (⟨83, [(4, .p (.c (.view tF 0 0 l.length)))], [.row 3 tF l]⟩ : SS)
noncomputable def rev_t : Tr := trH [.cell (.view tF 0)] [.row 3 tF] fun x y Q => (x.1 = (0, y.1.length) ∧ y.1.length ≤ 1000000) ∧ Q (.tup []) [.row 3 tF y.1.reverse]
@[reducible] noncomputable def stRv (l : List Int) (i j : Int) : SS := { nt := 28, fr := [(0, .p (.c (.view tF 0 0 l.length))), (2, .p (ti i)), (3, .p (ti j))], hp := [.row 3 tF l] }
noncomputable def rv_l : SS → (Exit → SS → Prop) → Prop := lamOf 1 [0, 2, 3] (fun l : List Int => stRv l 0 ((l.length : Int) - 1)) (fun l => l.length ≤ 1000000) fun l Q => Q (.exit 0) (⟨28, [], [.row 3 tF l.reverse]⟩ : SS)
noncomputable def ofV (p : Pro) : Gra := (b2V p (b1V p p.code.length).1.length, (b1V p p.code.length).2, orderV (b2V p (b1V p p.code.length).1.length))
noncomputable def of_t : Tr := trH [.data tPro] [] fun x _ Q => smallP x.1 ∧ (goodV x.1 = false → Q (.p (.agg (toCV tGra ([], [], [])))) []) ∧ (goodV x.1 = true → Q (.p (.agg (toCV tGra (ofV x.1)))) [])
end Go.Proofs.Ytckijackbldkhaa.Ch
