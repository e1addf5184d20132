/- Chapter 3 (tree): contracts: great, Good, Ints, Alike, Node, Depth, Walk, laid. No condition. -/
import Derived.Test.YtmncmmdicpcgmaaTE
namespace Go.Proofs.Ytmncmmdicpcgmaa.Ch
open Go Go.Proofs Go.Proofs.Ytmncmmdicpcgmaa.Sx
set_option linter.unusedVariables false

def greatN (n : Nd) : Bool := decide (20 < (kidsOf n).length) || decide (200 < n.2.2.1.size)
def greatB (l : List Nd) : Bool := decide (60 < l.length) || l.any greatN
noncomputable def great_t : Tr := trH [.row tN] [] fun x _ Q => Q (.p (tb (greatB x.1))) []
@[reducible] noncomputable def stGreat (l : List Nd) (i : Nat) : SS := { nt := 29, fr := [(0, .p (.c (.row tN l))), (3, .p (ti i))], hp := [] }
@[reducible] noncomputable def stR (nt s : Nat) (p : PV) (h : List HB) : SS := { nt := nt, fr := [(s, .p p)], hp := h }
@[reducible] noncomputable def stE (nt : Nat) (h : List HB) : SS := { nt := nt, fr := [], hp := h }
noncomputable def great_l : SS → (Exit → SS → Prop) → Prop := lamOf 0 [0, 3] (fun l : List Nd => stGreat l 0) (fun l => l.length ≤ 60)
  fun l Q => (l.any greatN = false → Q (.exit 0) (stE 29 [])) ∧ (l.any greatN = true → Q .ret (stR 29 2 (tb true) []))
noncomputable def good_t : Tr := trH [.data tN, .int .i64] [] fun x _ Q => (0 : Int) ≤ x.2.1 ∧ Q (.p (tb (goodB x.1 x.2.1.toNat))) []
abbrev nodeR (n : Nd) : List CV := toCV tN n
@[reducible] noncomputable def stGood (n : Nd) (hv : Nat) (i : Nat) : SS := { nt := 36, fr := [(1, .p (ti hv)), (2, .p (.c (.ptr 0 0))), (5, .p (ti i))], hp := [.cells 39 (nodeR n)] }
noncomputable def good_l : SS → (Exit → SS → Prop) → Prop := lamOf 0 [1, 2, 5] (fun x : Nd × Nat => stGood x.1 x.2 0) (fun x => True)
  fun x Q => ((kidsOf x.1).any (badB x.2) = false → Q (.exit 0) (stE 36 [])) ∧ ((kidsOf x.1).any (badB x.2) = true → Q .ret (stR 36 4 (tb false) []))
noncomputable def ints_t : Tr := trH [.row tI, .row tI] [] fun x _ Q => Q (.p (tb (decide (x.1 = x.2.1)))) []
@[reducible] noncomputable def stInts (a b : List Int) (i : Nat) : SS := { nt := 26, fr := [(0, .p (.c (.row tI a))), (1, .p (.c (.row tI b))), (5, .p (ti i))], hp := [] }
noncomputable def ints_l : SS → (Exit → SS → Prop) → Prop := lamOf 0 [0, 1, 5] (fun x : List Int × List Int => stInts x.1 x.2 0) (fun x => x.1.length = x.2.length)
  fun x Q => (x.1 = x.2 → Q (.exit 0) (stE 26 [])) ∧ (x.1 ≠ x.2 → Q .ret (stR 26 4 (tb false) []))
noncomputable def alike_t : Tr := trH [.data tN, .data tN] [] fun x _ Q => Q (.p (tb (decide (x.1 = x.2.1)))) []
@[reducible] noncomputable def stAlike (a b : Nd) (i : Nat) : SS := { nt := 52, fr := [(2, .p (.c (.ptr 0 0))), (3, .p (.c (.ptr 1 0))), (5, .p (ti i))], hp := [.cells 39 (nodeR a), .cells 39 (nodeR b)] }
noncomputable def alike_l : SS → (Exit → SS → Prop) → Prop := lamOf 0 [2, 3, 5] (fun x : Nd × Nd => stAlike x.1 x.2 0) (fun x => (kidsOf x.1).length = (kidsOf x.2).length)
  fun x Q => (kidsOf x.1 = kidsOf x.2 → Q (.exit 0) (stE 52 [])) ∧ (kidsOf x.1 ≠ kidsOf x.2 → Q .ret (stR 52 4 (tb false) []))
noncomputable def nodes (rows : List Rw) : List Nd := rows.map (·.1)
def TreeOk (rows : List Rw) : Prop := Valid (nodes rows) ∧ rows = treeOf (nodes rows) ∧ rows.length ≤ 65536
noncomputable def node_t : Tr := trH [.ptr 0, .int .i64] treeS fun x y Q => (y.1.1 = y.2.1.length ∧ y.2.1.length ≤ 65536 ∧ ∀ r ∈ y.2.1, (kidsOf r.1).length ≤ 65536) ∧
  (hasB y.2.1.length x.2.1 = false → Q (.p (.agg [.int .i64 0, .int .i64 0, .int .i64 0, .int .i64 0, .str ⟨#[]⟩, .nils])) (treeH y.2.1)) ∧
  (hasB y.2.1.length x.2.1 = true → Q (.p (.agg (nodeC (rowAt y.2.1 x.2.1).1 2))) (treeH y.2.1 ++ [.row 3 tI (kidsOf (rowAt y.2.1 x.2.1).1)]))
noncomputable def node0_t : Tr := trH [.nilp, .int .i64] [] fun x y Q => Q (.p (.agg [.int .i64 0, .int .i64 0, .int .i64 0, .int .i64 0, .str ⟨#[]⟩, .nils])) []
noncomputable def depth_t : Tr := trH [.ptr 0, .int .i64] treeS fun x y Q => (y.1.1 = y.2.1.length ∧ y.2.1.length ≤ 65536) ∧
  (hasB y.2.1.length x.2.1 = false → Q (.p (ti 0)) (treeH y.2.1)) ∧ (hasB y.2.1.length x.2.1 = true → Q (.p (ti (rowAt y.2.1 x.2.1).2.2)) (treeH y.2.1))
noncomputable def depth0_t : Tr := trH [.nilp, .int .i64] [] fun x y Q => Q (.p (ti 0)) []
/-- walk of a node ahead of m. -/
noncomputable def walkO (m : Nat) (rows : List Rw) (i : Int) (out : List Int) : Prop := TreeOk rows ∧ 1 ≤ i ∧ i ≤ rows.length ∧ i.toNat < m ∧ out.length + cnt (nodes rows) i ≤ 1000000
noncomputable def walk_t (m : Nat) : Tr := trH [.ptr 0, .cell (.all tI 2), .int .i64] [.cells 59 [.all tR 1], .row 56 tR, .row 3 tI] fun x y Q => (y.1.1 = y.2.1.length ∧ x.2.1 = y.2.2.1.length ∧ walkO m y.2.1 x.2.2.1 y.2.2.1) ∧
  Q (.p (.c (.view tI 2 0 (y.2.2.1 ++ pre (nodes y.2.1) x.2.2.1).length))) (treeH y.2.1 ++ [.row 3 tI (y.2.2.1 ++ pre (nodes y.2.1) x.2.2.1)])
noncomputable def walkN_t (m : Nat) : Tr := trH [.ptr 0, .cell .nils, .int .i64] treeS fun x y Q => (y.1.1 = y.2.1.length ∧ walkO m y.2.1 x.2.2.1 []) ∧
  Q (.p (.c (.view tI 2 0 (pre (nodes y.2.1) x.2.2.1).length))) (treeH y.2.1 ++ [.row 3 tI (pre (nodes y.2.1) x.2.2.1)])
noncomputable def walks_t (m : Nat) : Tr := orLen 2 (walkN_t m) (walk_t m)
@[reducible] noncomputable def stWalk (rows : List Rw) (out : List Int) (ks : List Int) (j : Nat) : SS :=
  { nt := 36, fr := [(0, .p (.c (.ptr 0 0))), (1, .p (.c (.view tI 2 0 out.length))), (22, .p (.c (.row tI ks))), (23, .p (ti ks.length)), (24, .p (ti j))], hp := treeH rows ++ [.row 3 tI out] }
@[reducible] noncomputable def stWalk1 (rows : List Rw) (out : List Int) : SS := { nt := 36, fr := [(1, .p (.c (.view tI 2 0 out.length)))], hp := treeH rows ++ [.row 3 tI out] }
noncomputable def walk2_l (m : Nat) : SS → (Exit → SS → Prop) → Prop := lamOf 2 [0, 1, 22, 23, 24] (fun x : List Rw × List Int × List Int => stWalk x.1 x.2.1 x.2.2 0)
  (fun x => TreeOk x.1 ∧ x.2.2.length ≤ maxI ∧ (∀ k ∈ x.2.2, k.toNat < m ∧ 0 ≤ k ∧ k ≤ x.1.length) ∧ x.2.1.length + ((x.2.2.filter Ch.part).flatMap (pre (nodes x.1))).length ≤ 1000000)
  fun x Q => Q (.exit 0) (stWalk1 x.1 (x.2.1 ++ (x.2.2.filter Ch.part).flatMap (pre (nodes x.1))))
noncomputable def walk3_l (m : Nat) : SS → (Exit → SS → Prop) → Prop := lamOf 3 [0, 1, 22, 23, 24] (fun x : List Rw × List Int × List Int => stWalk x.1 x.2.1 x.2.2 0)
  (fun x => TreeOk x.1 ∧ x.2.2.length ≤ maxI ∧ (∀ k ∈ x.2.2, k.toNat < m ∧ 0 ≤ k ∧ k ≤ x.1.length) ∧ x.2.1.length + ((x.2.2.filter Ch.part).flatMap (pre (nodes x.1))).length ≤ 1000000)
  fun x Q => Q (.exit 0) (stWalk1 x.1 (x.2.1 ++ (x.2.2.filter Ch.part).flatMap (pre (nodes x.1))))
noncomputable def walkT_t : Tr := trH [.ptr 0, .int .i64] treeS fun x y Q => (y.1.1 = y.2.1.length ∧ TreeOk y.2.1) ∧
  ((hasB y.2.1.length x.2.1 && decide (cnt (nodes y.2.1) x.2.1 ≤ 65536)) = false → Q (.p (.c .nils)) (treeH y.2.1)) ∧
  ((hasB y.2.1.length x.2.1 && decide (cnt (nodes y.2.1) x.2.1 ≤ 65536)) = true → Q (.p (.c (.view tI 2 0 (pre (nodes y.2.1) x.2.1).length))) (treeH y.2.1 ++ [.row 3 tI (pre (nodes y.2.1) x.2.1)]))
noncomputable def walkT0_t : Tr := trH [.nilp, .int .i64] [] fun x y Q => Q (.p (.c .nils)) []
noncomputable def laidL (list : List Nd) : List Nd := list.foldl (fun l n => if goodB n l.length = true then l ++ [n] else l) []
@[reducible] noncomputable def stLaid (list l : List Nd) (i : Nat) : SS :=
  { nt := 58, fr := [(0, .p (.c (.row tN list))), (5, .p (.c (.ptr 0 0))), (6, .p (.c (.view tN 2 0 l.length))), (7, .p (ti i))], hp := treeH (treeOf l) ++ [.row 39 tN l] }
@[reducible] noncomputable def stLaid1 (l : List Nd) : SS := { nt := 58, fr := [(5, .p (.c (.ptr 0 0))), (6, .p (.c (.view tN 2 0 l.length)))], hp := treeH (treeOf l) ++ [.row 39 tN l] }
noncomputable def laid_l : SS → (Exit → SS → Prop) → Prop := lamOf 0 [0, 5, 6, 7] (fun list : List Nd => stLaid list [] 0) (fun list => greatB list = false)
  fun list Q => Q (.exit 0) (stLaid1 (laidL list))
noncomputable def laid_t : Tr := trH [.row tN] [] fun x _ Q => greatB x.1 = false ∧ Q (.tup [.c (.ptr 0 0), .c (.view tN 2 0 (laidL x.1).length), tb true]) (treeH (treeOf (laidL x.1)) ++ [.row 39 tN (laidL x.1)])
noncomputable def gHas : List (Nat × List Bool × Tr) := [(25, [], orNil has0_t has_t), (26, [], clone_t)]
noncomputable def gWalk (m : Nat) : List (Nat × List Bool × Tr) := [(27, [true, true, true], walks_t m), (25, [], orNil has0_t has_t)]
/-- Add where there is room. -/
noncomputable def addS_t : Tr := trH [.ptr 0, .data tN] treeS fun x y Q => (y.1.1 = y.2.1.length ∧ y.2.1.length < 65536 ∧ RowsOk y.2.1 ∧ (kidsOf x.2.1).length ≤ 65536) ∧
  (goodB x.2.1 y.2.1.length = false → Q (.tup [ti 0, ti 1]) (treeH y.2.1)) ∧
  (goodB x.2.1 y.2.1.length = true → Q (.tup [ti (y.2.1.length + 1), ti 0]) (treeH (y.2.1 ++ [mkRow y.2.1 x.2.1])))
noncomputable def gLaid : List (Nat × List Bool × Tr) := [(22, [], new_t), (21, [], orNil add0_t addS_t), (23, [], good_t)]
end Go.Proofs.Ytmncmmdicpcgmaa.Ch
