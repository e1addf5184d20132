/- Chapter 3 (tree): the laws TreeDeeper, TreeCopies: states. No condition. -/
import Derived.Test.YtmncmmdicpcgmaaTU
namespace Go.Proofs.Ytmncmmdicpcgmaa.Ch
open Go Go.Proofs Go.Proofs.Ytmncmmdicpcgmaa.Sx
set_option linter.unusedVariables false

noncomputable def gLDeep : List (Nat × List Bool × Tr) := [(7, [], awake_t), (8, [], great_t), (9, [], laid_t), (18, [], orNil depth0_t depthA_t), (17, [], orNil walkT0_t walkU_t), (15, [], orNil node0_t nodeS_t), (21, [], orNil add0_t failT), (20, [], orNil swap0_t failT), (13, [], orNil len0_t failT)]
@[reducible] noncomputable def stD (l : List Nd) (x : Int) (nd : Nd) (ks w : List Int) (sum : Int) (k : Nat) : SS :=
  { nt := 160, fr := [(5, .p (.c (.ptr 0 0))), (8, .p (ti x)), (9, .p (.c (.ptr 2 0))), (10, .p (.c (.view tI 4 0 w.length))), (11, .p (ti sum)), (12, .p (ti k))],
    hp := [.cells 59 [.view tR 1 0 (treeOf l).length], .row 56 tR (treeOf l), .cells 39 (nodeV nd 3 ks.length), .row 3 tI ks, .row 3 tI w] }
@[reducible] noncomputable def stDX (l : List Nd) (x : Int) (w : List Int) (sum : Int) : SS :=
  { nt := 160, fr := [(5, .p (.c (.ptr 0 0))), (8, .p (ti x)), (10, .p (.c (.view tI 2 0 w.length))), (11, .p (ti sum))], hp := [.cells 59 [.view tR 1 0 (treeOf l).length], .row 56 tR (treeOf l), .row 3 tI w] }
structure DD where
  l : List Nd
  x : Int
  nd : Nd
  ks : List Int
  w : List Int
def ddO (d : DD) : Prop := listOk d.l ∧ 1 ≤ d.x ∧ d.x ≤ d.l.length ∧ d.ks = kidsOf (ndAt d.l d.x)
noncomputable def deep_l : SS → (Exit → SS → Prop) → Prop := lamOf 0 [5, 8, 9, 10, 11, 12] (fun d : DD => stD d.l d.x d.nd d.ks d.w 1 0) ddO
  fun d Q => Q (.exit 0) (stDX d.l d.x d.w (1 + (d.ks.flatMap (wl d.l)).length))
noncomputable def gLCopies : List (Nat × List Bool × Tr) := [(7, [], awake_t), (8, [], great_t), (9, [], laid_t), (20, [], swap_t), (17, [], walkU_t), (11, [], same_t 100), (13, [], len_t), (15, [], nodeS_t), (14, [], alike_t)]
@[reducible] noncomputable def stC1 (l : List Nd) (v : List Rw) (x y j : Int) (w : List Int) (b : Bool) (h : Nat) : SS :=
  { nt := 190, fr := [(7, .p (.c (.ptr 0 0))), (8, .p (.c (.view tN 2 0 l.length))), (12, .p (ti x)), (13, .p (ti y)), (14, .p (.c (.view tI 3 0 w.length))), (17, .p (.c (.ptr 4 0))), (18, .p (ti j)), (19, .p (tb b)), (20, .p (ti h))],
    hp := [.cells 59 [.view tR 1 0 (treeOf l).length], .row 56 tR (treeOf l), .row 39 tN l, .row 3 tI w, .cells 59 [.view tR 5 0 v.length], .row 56 tR v] }
@[reducible] noncomputable def stC1X (l : List Nd) (v : List Rw) (x y j : Int) (b : Bool) : SS :=
  { nt := 190, fr := [(7, .p (.c (.ptr 0 0))), (8, .p (.c (.view tN 2 0 l.length))), (12, .p (ti x)), (13, .p (ti y)), (17, .p (.c (.ptr 3 0))), (18, .p (ti j)), (19, .p (tb b))],
    hp := [.cells 59 [.view tR 1 0 (treeOf l).length], .row 56 tR (treeOf l), .row 39 tN l, .cells 59 [.view tR 4 0 v.length], .row 56 tR v] }
structure C1D where
  l : List Nd
  v : List Rw
  x : Int
  y : Int
  j : Int
  w : List Int
noncomputable def c1_l : SS → (Exit → SS → Prop) → Prop := lamOf 0 [7, 8, 12, 13, 14, 17, 18, 19, 20] (fun d : C1D => stC1 d.l d.v d.x d.y d.j d.w false 0) (fun d => d.w.length ≤ 65536)
  fun d Q => Q (.exit 0) (stC1X d.l d.v d.x d.y d.j (decide (d.y ∈ d.w)))
@[reducible] noncomputable def stC2 (l : List Nd) (k : Nat) : SS :=
  { nt := 190, fr := [(7, .p (.c (.ptr 0 0))), (8, .p (.c (.view tN 2 0 l.length))), (23, .p (ti k))], hp := [.cells 59 [.view tR 1 0 (treeOf l).length], .row 56 tR (treeOf l), .row 39 tN l] }
noncomputable def c2_l : SS → (Exit → SS → Prop) → Prop := lamOf 0 [7, 8, 23] (fun l : List Nd => stC2 l 0) (fun l => listOk l) fun _ Q => Q (.exit 2) (stE 190 [])
end Go.Proofs.Ytmncmmdicpcgmaa.Ch
