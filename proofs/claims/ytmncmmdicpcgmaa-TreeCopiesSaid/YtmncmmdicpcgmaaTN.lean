/- Chapter 3 (tree): Same, the reference's and the tree's: states. No condition. -/
import Derived.Test.YtmncmmdicpcgmaaTM
namespace Go.Proofs.Ytmncmmdicpcgmaa.Ch
open Go Go.Proofs Go.Proofs.Ytmncmmdicpcgmaa.Sx
set_option linter.unusedVariables false

/-- What a walk gives. -/
noncomputable def wl (l : List Nd) (i : Int) : List Int := if (hasB l.length i && decide (cnt l i ≤ 65536)) = true then pre l i else []
noncomputable def rwalkU_t : Tr := trH [.row tN, .int .i64] [] fun x _ Q => (inOk x.1 ∧ i64 x.2.1) ∧ Q (.p (.c (.view tI 0 0 (wl x.1 x.2.1).length))) [.row 3 tI (wl x.1 x.2.1)]
noncomputable def walkU_t : Tr := trH [.ptr 0, .int .i64] treeS fun x y Q => (y.1.1 = y.2.1.length ∧ TreeOk y.2.1) ∧
  Q (.p (.c (.view tI 2 0 (wl (nodes y.2.1) x.2.1).length))) (treeH y.2.1 ++ [.row 3 tI (wl (nodes y.2.1) x.2.1)])
noncomputable def gRW : List (Nat × List Bool × Tr) := [(10, [], rwalkU_t)]
noncomputable def rsame_t : Tr := trH [.row tN, .int .i64, .row tN, .int .i64] [] fun x _ Q => (inOk x.1 ∧ i64 x.2.1 ∧ inOk x.2.2.1 ∧ i64 x.2.2.2.1 ∧ (hasB x.1.length x.2.1 = true → cnt x.1 x.2.1 ≤ 65536) ∧ (hasB x.2.2.1.length x.2.2.2.1 = true → cnt x.2.2.1 x.2.2.2.1 ≤ 65536)) ∧ Q (.p (tb (sm x.1 x.2.1 x.2.2.1 x.2.2.2.1))) []
@[reducible] noncomputable def stRS (l m : List Nd) (a b : List Int) (j : Nat) : SS :=
  { nt := 108, fr := [(0, .p (.c (.row tN l))), (2, .p (.c (.row tN m))), (9, .p (.c (.view tI 0 0 a.length))), (10, .p (.c (.view tI 1 0 b.length))), (11, .p (ti j))], hp := [.row 3 tI a, .row 3 tI b] }
@[reducible] noncomputable def stRI (l m : List Nd) (a b : List Int) (j : Nat) (x y : Nd) (h : Nat) : SS :=
  { nt := 108, fr := [(0, .p (.c (.row tN l))), (2, .p (.c (.row tN m))), (9, .p (.c (.view tI 0 0 a.length))), (10, .p (.c (.view tI 1 0 b.length))), (11, .p (ti j)), (12, .p (.c (.ptr 2 0))), (13, .p (.c (.ptr 3 0))), (14, .p (ti h))],
    hp := [.row 3 tI a, .row 3 tI b, .cells 39 (nodeR x), .cells 39 (nodeR y)] }
def zB (p : Int × Int) : Bool := decide (p.1 = 0) == decide (p.2 = 0)
structure SD where
  l : List Nd
  m : List Nd
  a : List Int
  b : List Int
  j : Nat
  x : Nd
  y : Nd
noncomputable def rsIn_l : SS → (Exit → SS → Prop) → Prop := lamOf 0 [0, 2, 9, 10, 11, 12, 13, 14] (fun d : SD => stRI d.l d.m d.a d.b d.j d.x d.y 0) (fun d => (kidsOf d.x).length = (kidsOf d.y).length)
  fun d Q => (((kidsOf d.x).zip (kidsOf d.y)).all zB = true → Q (.exit 2) (stRS d.l d.m d.a d.b d.j)) ∧ (((kidsOf d.x).zip (kidsOf d.y)).all zB = false → Q .ret (stR 108 8 (tb false) []))
noncomputable def rs_l : SS → (Exit → SS → Prop) → Prop := lamOf 0 [0, 2, 9, 10, 11] (fun d : SD => stRS d.l d.m d.a d.b 0) (fun d => d.a.length = d.b.length ∧ d.a.length ≤ 65536 ∧ (∀ k ∈ d.a, 1 ≤ k ∧ k ≤ d.l.length) ∧ (∀ k ∈ d.b, 1 ≤ k ∧ k ≤ d.m.length) ∧ d.l.length ≤ 1000 ∧ d.m.length ≤ 1000)
  fun d Q => ((d.a.zip d.b).all (fun p => locZ (ndAt d.l p.1) (ndAt d.m p.2)) = true → Q (.exit 0) (stE 108 [])) ∧ ((d.a.zip d.b).all (fun p => locZ (ndAt d.l p.1) (ndAt d.m p.2)) = false → Q .ret (stR 108 8 (tb false) []))
/-! ### the tree's -/
abbrev treeH2 (a b : List Rw) : List HB := [.cells 59 [.view tR 1 0 a.length], .row 56 tR a, .cells 59 [.view tR 3 0 b.length], .row 56 tR b]
abbrev treeS2 : List HS := [.cells 59 [.all tR 1], .row 56 tR, .cells 59 [.all tR 3], .row 56 tR]
noncomputable def smO (m : Nat) (a b : List Rw) (i : Int) : Prop := TreeOk a ∧ TreeOk b ∧ i.toNat < m
noncomputable def sameT_t (m : Nat) : Tr := trH [.ptr 0, .int .i64, .ptr 0, .int .i64] treeS fun x y Q => (y.1.1 = y.2.1.length ∧ smO m y.2.1 y.2.1 x.2.1) ∧ Q (.p (tb (sm (nodes y.2.1) x.2.1 (nodes y.2.1) x.2.2.2.1))) (treeH y.2.1)
noncomputable def sameU_t (m : Nat) : Tr := trH [.ptr 0, .int .i64, .ptr 2, .int .i64] treeS2 fun x y Q => (y.1.1 = y.2.1.length ∧ y.2.2.1.1 = y.2.2.2.1.length ∧ smO m y.2.1 y.2.2.2.1 x.2.1) ∧
  Q (.p (tb (sm (nodes y.2.1) x.2.1 (nodes y.2.2.2.1) x.2.2.2.1))) (treeH2 y.2.1 y.2.2.2.1)
noncomputable def same_t (m : Nat) : Tr := orLen 2 (sameT_t m) (sameU_t m)
noncomputable def gSame (m : Nat) : List (Nat × List Bool × Tr) := [(11, [], same_t m), (25, [], orNil has0_t has_t)]
@[reducible] noncomputable def stSU (r s : List Rw) (b : Rw) (ks : List Int) (j : Nat) : SS :=
  { nt := 108, fr := [(0, .p (.c (.ptr 0 0))), (2, .p (.c (.ptr 2 0))), (10, .p (.c (.ptr 4 0))), (89, .p (.c (.row tI ks))), (90, .p (ti ks.length)), (91, .p (ti j))],
    hp := [.cells 59 [.view tR 1 0 r.length], .row 56 tR r, .cells 59 [.view tR 3 0 s.length], .row 56 tR s, .cells 56 (toCV tR b)] }
@[reducible] noncomputable def stST (r s : List Rw) (b : Rw) (ks : List Int) (j : Nat) : SS :=
  { nt := 108, fr := [(0, .p (.c (.ptr 0 0))), (2, .p (.c (.ptr 0 0))), (10, .p (.c (.ptr 2 0))), (89, .p (.c (.row tI ks))), (90, .p (ti ks.length)), (91, .p (ti j))],
    hp := [.cells 59 [.view tR 1 0 r.length], .row 56 tR r, .cells 56 (toCV tR b)] }
structure SB where
  r : List Rw
  s : List Rw
  b : Rw
  ks : List Int
noncomputable def kidsB (d : SB) : Bool := (d.ks.zip (kidsOf d.b.1)).all fun p => sm (nodes d.r) p.1 (nodes d.s) p.2
@[reducible] noncomputable def stXU (r s : List Rw) : SS := { nt := 108, fr := [], hp := treeH2 r s }
@[reducible] noncomputable def stYU (r s : List Rw) : SS := { nt := 108, fr := [(8, .p (tb false))], hp := treeH2 r s }
noncomputable def smU_l (m : Nat) : SS → (Exit → SS → Prop) → Prop := lamOf 4 [0, 2, 10, 89, 90, 91] (fun d : SB => stSU d.r d.s d.b d.ks 0)
  (fun d => TreeOk d.r ∧ TreeOk d.s ∧ (∀ k ∈ d.ks, k.toNat < m) ∧ d.ks.length = (kidsOf d.b.1).length ∧ d.ks.length ≤ maxI ∧ ((fun r s => True) d.r d.s : Prop))
  fun d Q => (kidsB d = true → Q (.exit 0) (stXU d.r d.s)) ∧ (kidsB d = false → Q .ret (stYU d.r d.s))
@[reducible] noncomputable def stXT (r s : List Rw) : SS := { nt := 108, fr := [], hp := treeH r }
@[reducible] noncomputable def stYT (r s : List Rw) : SS := { nt := 108, fr := [(8, .p (tb false))], hp := treeH r }
noncomputable def smT_l (m : Nat) : SS → (Exit → SS → Prop) → Prop := lamOf 2 [0, 2, 10, 89, 90, 91] (fun d : SB => stST d.r d.s d.b d.ks 0)
  (fun d => TreeOk d.r ∧ TreeOk d.s ∧ (∀ k ∈ d.ks, k.toNat < m) ∧ d.ks.length = (kidsOf d.b.1).length ∧ d.ks.length ≤ maxI ∧ ((fun r s => s = r) d.r d.s : Prop))
  fun d Q => (kidsB d = true → Q (.exit 0) (stXT d.r d.s)) ∧ (kidsB d = false → Q .ret (stYT d.r d.s))
end Go.Proofs.Ytmncmmdicpcgmaa.Ch
