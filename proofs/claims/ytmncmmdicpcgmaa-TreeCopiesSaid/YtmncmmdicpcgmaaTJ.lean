/- Chapter 3 (tree): the reference's counts, walks and depths: states. No condition. -/
import Derived.Test.YtmncmmdicpcgmaaTI
namespace Go.Proofs.Ytmncmmdicpcgmaa.Ch
open Go Go.Proofs Go.Proofs.Ytmncmmdicpcgmaa.Sx
set_option linter.unusedVariables false

/-- What the reference keeps of each node: g of those up to k. -/
noncomputable def upto (g : Int → Int) (n k : Nat) : List Int := (List.range (n + 1)).map fun j => if 1 ≤ j ∧ j ≤ k then g (j : Int) else 0
noncomputable def gC (l : List Nd) (k : Int) : Int := min (cnt l k : Int) 131072
abbrev inOk (l : List Nd) : Prop := Valid l ∧ l.length ≤ 1000 ∧ ∀ n ∈ l, (kidsOf n).length ≤ 65536
noncomputable def rcount_t : Tr := trH [.row tN, .int .i64] [] fun x _ Q => (inOk x.1 ∧ (1 : Int) ≤ x.2.1 ∧ (x.2.1 : Int) ≤ (x.1.length : Int)) ∧ Q (.p (ti (gC x.1 x.2.1))) []
noncomputable def rdepth_t : Tr := trH [.row tN, .int .i64] [] fun x _ Q => (inOk x.1 ∧ i64 x.2.1) ∧ Q (.p (ti (if hasB x.1.length x.2.1 = true then dep x.1 x.2.1 else 0))) []
@[reducible] noncomputable def stO24 (l : List Nd) (i : Int) (c : List Int) (k : Nat) : SS :=
  { nt := 56, fr := [(0, .p (.c (.row tN l))), (1, .p (ti i)), (5, .p (.c (.view tI 0 0 c.length))), (6, .p (ti k))], hp := [.row 3 tI c] }
@[reducible] noncomputable def stI24 (l : List Nd) (i : Int) (c : List Int) (k j : Nat) : SS :=
  { nt := 56, fr := [(0, .p (.c (.row tN l))), (1, .p (ti i)), (5, .p (.c (.view tI 0 0 c.length))), (6, .p (ti k)), (7, .p (ti j))], hp := [.row 3 tI c] }
@[reducible] noncomputable def stX24 (i : Int) (c : List Int) : SS := { nt := 56, fr := [(1, .p (ti i)), (5, .p (.c (.view tI 0 0 c.length)))], hp := [.row 3 tI c] }
noncomputable def in24_l : SS → (Exit → SS → Prop) → Prop := lamOf 0 [0, 1, 5, 6, 7] (fun x : List Nd × Int × Nat => stI24 x.1 x.2.1 ((upto (gC x.1) x.1.length (x.2.2 - 1)).set x.2.2 1) x.2.2 0)
  (fun x => inOk x.1 ∧ 1 ≤ x.2.2 ∧ x.2.2 ≤ x.1.length) fun x Q => Q (.exit 2) (stO24 x.1 x.2.1 (upto (gC x.1) x.1.length x.2.2) x.2.2)
noncomputable def out24_l : SS → (Exit → SS → Prop) → Prop := lamOf 0 [0, 1, 5, 6] (fun x : List Nd × Int => stO24 x.1 x.2 (upto (gC x.1) x.1.length 0) 1)
  (fun x => inOk x.1 ∧ 1 ≤ x.2 ∧ x.2 ≤ x.1.length) fun x Q => Q (.exit 0) (stX24 x.2 (upto (gC x.1) x.1.length x.2.toNat))
@[reducible] noncomputable def stO19 (l : List Nd) (i : Int) (c : List Int) (k : Nat) : SS :=
  { nt := 64, fr := [(0, .p (.c (.row tN l))), (1, .p (ti i)), (5, .p (.c (.view tI 0 0 c.length))), (6, .p (ti k))], hp := [.row 3 tI c] }
@[reducible] noncomputable def stI19 (l : List Nd) (i : Int) (c : List Int) (k j : Nat) : SS :=
  { nt := 64, fr := [(0, .p (.c (.row tN l))), (1, .p (ti i)), (5, .p (.c (.view tI 0 0 c.length))), (6, .p (ti k)), (7, .p (ti j))], hp := [.row 3 tI c] }
@[reducible] noncomputable def stX19 (i : Int) (c : List Int) : SS := { nt := 64, fr := [(1, .p (ti i)), (5, .p (.c (.view tI 0 0 c.length)))], hp := [.row 3 tI c] }
noncomputable def in19_l : SS → (Exit → SS → Prop) → Prop := lamOf 0 [0, 1, 5, 6, 7] (fun x : List Nd × Int × Nat => stI19 x.1 x.2.1 ((upto (dep x.1) x.1.length (x.2.2 - 1)).set x.2.2 1) x.2.2 0)
  (fun x => inOk x.1 ∧ 1 ≤ x.2.2 ∧ x.2.2 ≤ x.1.length) fun x Q => Q (.exit 2) (stO19 x.1 x.2.1 (upto (dep x.1) x.1.length x.2.2) x.2.2)
noncomputable def out19_l : SS → (Exit → SS → Prop) → Prop := lamOf 0 [0, 1, 5, 6] (fun x : List Nd × Int => stO19 x.1 x.2 (upto (dep x.1) x.1.length 0) 1)
  (fun x => inOk x.1 ∧ 1 ≤ x.2 ∧ x.2 ≤ x.1.length) fun x Q => Q (.exit 0) (stX19 x.2 (upto (dep x.1) x.1.length x.2.toNat))
noncomputable def rwalk_t : Tr := trH [.row tN, .int .i64] [] fun x _ Q => (inOk x.1 ∧ i64 x.2.1) ∧
  ((hasB x.1.length x.2.1 && decide (cnt x.1 x.2.1 ≤ 65536)) = false → Q (.p (.c .nils)) []) ∧
  ((hasB x.1.length x.2.1 && decide (cnt x.1 x.2.1 ≤ 65536)) = true → Q (.p (.c (.view tI 0 0 (pre x.1 x.2.1).length))) [.row 3 tI (pre x.1 x.2.1)])
@[reducible] noncomputable def stW (l : List Nd) (out todo : List Int) (a n : Nat) : SS :=
  { nt := 71, fr := [(0, .p (.c (.row tN l))), (5, .p (.c (.view tI 0 0 out.length))), (6, .p (.c (.view tI 1 a n)))], hp := [.row 3 tI out, .row 3 tI todo] }
@[reducible] noncomputable def stWI (l : List Nd) (out todo : List Int) (n : Nat) (ks : List Int) (j : Int) : SS :=
  { nt := 71, fr := [(0, .p (.c (.row tN l))), (5, .p (.c (.view tI 0 0 out.length))), (6, .p (.c (.view tI 1 0 n))), (8, .p (.c (.row tI ks))), (9, .p (ti j))], hp := [.row 3 tI out, .row 3 tI todo] }
@[reducible] noncomputable def stWX (out : List Int) : SS := { nt := 71, fr := [(5, .p (.c (.view tI 0 0 out.length)))], hp := [.row 3 tI out] }
structure WD where
  l : List Nd
  out : List Int
  todo : List Int
  n : Nat
  ks : List Int
noncomputable def rwalkIn_l : SS → (Exit → SS → Prop) → Prop := lamOf 0 [0, 5, 6, 8, 9] (fun d : WD => stWI d.l d.out d.todo d.n d.ks ((d.ks.length : Int) - 1)) (fun d => d.n ≤ d.todo.length ∧ d.ks.length ≤ 65536 ∧ d.n ≤ 100000000)
  fun d Q => ∀ todo : List Int, todo.take (d.n + (d.ks.filter Ch.part).length) = d.todo.take d.n ++ (d.ks.filter Ch.part).reverse → d.n + (d.ks.filter Ch.part).length ≤ todo.length → Q (.exit 2) (stW d.l d.out todo 0 (d.n + (d.ks.filter Ch.part).length))
noncomputable def rwalk_l : SS → (Exit → SS → Prop) → Prop := lamOf 0 [0, 5, 6] (fun x : List Nd × Int => stW x.1 [] [x.2] 0 1) (fun x => inOk x.1 ∧ 1 ≤ x.2 ∧ x.2 ≤ x.1.length ∧ cnt x.1 x.2 ≤ 65536)
  fun x Q => Q (.exit 0) (stWX (pre x.1 x.2))
noncomputable def gCount : List (Nat × List Bool × Tr) := [(24, [], rcount_t)]
end Go.Proofs.Ytmncmmdicpcgmaa.Ch
