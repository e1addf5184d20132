/- Chapter 3 (tree): copy, Swap: states. No condition. -/
import Derived.Test.YtmncmmdicpcgmaaTO
namespace Go.Proofs.Ytmncmmdicpcgmaa.Ch
open Go Go.Proofs Go.Proofs.Ytmncmmdicpcgmaa.Sx
set_option linter.unusedVariables false

abbrev nodeV (n : Nd) (b len : Nat) : List CV := [.int .i64 n.1, .int .i64 n.2.1.1, .int .i64 n.2.1.2.1, .int .i64 n.2.1.2.2, .str n.2.2.1, .view tI b 0 len]
noncomputable def nodeS_t : Tr := trH [.ptr 0, .int .i64] treeS fun x y Q => (y.1.1 = y.2.1.length ∧ y.2.1.length ≤ 65536 ∧ (∀ r ∈ y.2.1, (kidsOf r.1).length ≤ 65536) ∧ hasB y.2.1.length x.2.1 = true) ∧
  Q (.p (.agg (nodeV (rowAt y.2.1 x.2.1).1 2 (kidsOf (rowAt y.2.1 x.2.1).1).length))) (treeH y.2.1 ++ [.row 3 tI (kidsOf (rowAt y.2.1 x.2.1).1)])
/-- Whether the node that comes in is as the one that it stands for. -/
def bareP (l : List Nd) (at_ : Int) (n : Nd) : Prop := (ndAt l at_).1 = n.1 ∧ (ndAt l at_).2.2.1 = n.2.2.1 ∧ kidsOf (ndAt l at_) = []
/-- The nodes with the one that comes in at its place. -/
noncomputable def swl (l : List Nd) (at_ : Int) (n : Nd) : List Nd := if 1 ≤ at_ then l.set (at_ - 1).toNat (n.1, n.2.1, n.2.2.1, []) else l
def ExtP (r s : List Rw) : Prop := ∃ more, nodes s = nodes r ++ more ∧ ∀ n ∈ more, (kidsOf n).length ≤ 65536
def KidOk (l : List Nd) (at_ : Int) (n : Nd) (s : List Rw) (k k' : Int) : Prop := 0 ≤ k' ∧ k' ≤ s.length ∧ (k = 0 ↔ k' = 0) ∧ (sm l k (nodes s) k' = true ↔ (at_ ∈ pre l k → bareP l at_ n)) ∧ sm (swl l at_ n) k (nodes s) k' = true
def CopyOf (l : List Nd) (i at_ : Int) (n : Nd) (r s : List Rw) (idx : Int) : Prop := TreeOk s ∧ ExtP r s ∧ KidOk l at_ n s i idx ∧ s.length ≤ r.length + cnt l i ∧ (at_ = 0 → s.length = r.length + cnt l i)
def LoopOf (l : List Nd) (ks : List Int) (at_ : Int) (n : Nd) (r s : List Rw) (js : List Int) : Prop := TreeOk s ∧ ExtP r s ∧ All2 (KidOk l at_ n s) ks js ∧ s.length ≤ r.length + (flat l ks).length ∧ (at_ = 0 → s.length = r.length + (flat l ks).length)
def copyO (m : Nat) (t r : List Rw) (i : Int) (n : Nd) : Prop := TreeOk t ∧ TreeOk r ∧ (∀ x ∈ t, (kidsOf x.1).length ≤ 65536) ∧ 0 ≤ i ∧ i ≤ t.length ∧ i.toNat < m ∧ r.length + cnt (nodes t) i ≤ 65536 ∧ kindB n.1 = true
noncomputable def copy_t (m : Nat) : Tr := trH [.ptr 0, .ptr 2, .int .i64, .int .i64, .data tN] treeS2 fun x y Q => (y.1.1 = y.2.1.length ∧ y.2.2.1.1 = y.2.2.2.1.length ∧ copyO m y.2.1 y.2.2.2.1 x.2.2.1 x.2.2.2.2.1) ∧
  ∀ s idx, CopyOf (nodes y.2.1) x.2.2.1 x.2.2.2.1 x.2.2.2.2.1 y.2.2.2.1 s idx → Q (.p (ti idx)) (treeH2 y.2.1 s)
noncomputable def gCopy (m : Nat) : List (Nat × List Bool × Tr) := [(29, [], copy_t m), (15, [], nodeS_t), (21, [], orNil add0_t addS_t)]
@[reducible] noncomputable def stCp (t r : List Rw) (n x : Nd) (ks : List Int) (at_ : Int) (j : Nat) : SS :=
  { nt := 54, fr := [(0, .p (.c (.ptr 0 0))), (1, .p (.c (.ptr 2 0))), (3, .p (ti at_)), (9, .p (.c (.ptr 4 0))), (11, .p (.c (.ptr 5 0))), (27, .p (.c (.view tI 6 0 ks.length))), (28, .p (ti ks.length)), (29, .p (ti j))],
    hp := [.cells 59 [.view tR 1 0 t.length], .row 56 tR t, .cells 59 [.view tR 3 0 r.length], .row 56 tR r, .cells 39 (toCV tN n), .cells 39 (nodeV x 6 ks.length), .row 3 tI ks] }
@[reducible] noncomputable def stCpX (t r : List Rw) (x : Nd) (ks : List Int) : SS :=
  { nt := 54, fr := [(1, .p (.c (.ptr 2 0))), (11, .p (.c (.ptr 4 0)))],
    hp := [.cells 59 [.view tR 1 0 t.length], .row 56 tR t, .cells 59 [.view tR 3 0 r.length], .row 56 tR r, .cells 39 (nodeV x 5 ks.length), .row 3 tI ks] }
structure CD where
  t : List Rw
  r : List Rw
  n : Nd
  x : Nd
  ks : List Int
  at_ : Int
def cdO (m : Nat) (d : CD) : Prop := TreeOk d.t ∧ TreeOk d.r ∧ (∀ x ∈ d.t, (kidsOf x.1).length ≤ 65536) ∧ d.ks.length ≤ 65536 ∧ (∀ k ∈ d.ks, 0 ≤ k ∧ k ≤ d.t.length ∧ k.toNat < m) ∧ d.r.length + (flat (nodes d.t) d.ks).length ≤ 65536 ∧ kindB d.n.1 = true
noncomputable def copyV_l (m : Nat) : SS → (Exit → SS → Prop) → Prop := lamOf 4 [0, 1, 3, 9, 11, 27, 28, 29] (fun d : CD => stCp d.t d.r d.n d.x d.ks d.at_ 0) (cdO m)
  fun d Q => ∀ s js, LoopOf (nodes d.t) d.ks d.at_ d.n d.r s js → Q (.exit 0) (stCpX d.t s d.x js)
/-- One contract where the slot holds nil, another one where it doesn't. -/
def orSlot (i : Nat) (t0 t : SS → (Exit → SS → Prop) → Prop) : SS → (Exit → SS → Prop) → Prop := fun s Q => match lk s.fr i with
  | some (.p (.c .nils)) => t0 s Q
  | _ => t s Q
noncomputable def copy_l (m : Nat) : SS → (Exit → SS → Prop) → Prop := orSlot 27 (unr Try.prog (gam (gCopy m)) noLam (lp Try.f29 0) 0 1) (copyV_l m)
noncomputable def swapB (t : List Rw) (i : Int) (n : Nd) : Bool := hasB t.length i && kindB n.1 && decide ((rowAt t i).2.1 ≤ 65536)
noncomputable def swap_t : Tr := trH [.ptr 0, .int .i64, .int .i64, .data tN] treeS fun x y Q => (y.1.1 = y.2.1.length ∧ TreeOk y.2.1 ∧ (∀ r ∈ y.2.1, (kidsOf r.1).length ≤ 65536)) ∧
  (swapB y.2.1 x.2.1 x.2.2.2.1 = false → Q (.tup [.c .nilp, ti 0]) (treeH y.2.1)) ∧
  (swapB y.2.1 x.2.1 x.2.2.2.1 = true → ∀ s idx, CopyOf (nodes y.2.1) x.2.1 x.2.2.1 x.2.2.2.1 [] s idx → Q (.tup [.c (.ptr 2 0), ti idx]) (treeH2 y.2.1 s))
noncomputable def swap0_t : Tr := trH [.nilp, .int .i64, .int .i64, .data tN] [] fun x y Q => Q (.tup [.c .nilp, ti 0]) []
noncomputable def gSwap (m : Nat) : List (Nat × List Bool × Tr) := [(29, [], copy_t m), (22, [], new_t), (25, [], orNil has0_t has_t), (28, [], isKind_t)]
end Go.Proofs.Ytmncmmdicpcgmaa.Ch
