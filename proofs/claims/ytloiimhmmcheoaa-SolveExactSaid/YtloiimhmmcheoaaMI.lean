/- Chapter 21 (solve): Solve: what it does, contracts. No condition. -/
import Derived.Test.YtloiimhmmcheoaaMH
namespace Go.Proofs.Ytloiimhmmcheoaa.Ch
open Go Go.Proofs Go.Proofs.Ytloiimhmmcheoaa.Sx
set_option linter.unusedVariables false

abbrev pNext (p : Pb) : List (List Int) := p.1
abbrev pActs (p : Pb) : List (List Ac) := p.2.1
abbrev pEdges (p : Pb) : List (List (List Ac)) := p.2.2.1
abbrev pStart (p : Pb) : List Int := p.2.2.2.1
abbrev pFirst (p : Pb) : Kn := p.2.2.2.2.1
abbrev pTag (p : Pb) : Int := p.2.2.2.2.2.1
abbrev pN (p : Pb) : Int := p.2.2.2.2.2.2
def initS (n : Nat) : St := ⟨List.replicate n (false, []), [], List.replicate n false⟩
def startL (t : Int) (first : Kn) : St → List Int → St
  | s, [] => s
  | s, b :: r => startL t first (riseS t b.toNat first s) r
def startS (p : Pb) : St := startL (pTag p) (pFirst p) (initS (pNext p).length) (pStart p)
def edgeV (t : Int) (out : Kn) (E : List (List Ac)) (i : Nat) : Kn := if 0 < E.length then doV t out (E.getD i []) else out
def foldS (t : Int) (out : Kn) (E : List (List Ac)) (nx : List Int) : Nat → St → St
  | 0, s => s
  | i + 1, s => riseS t (nx.getD i 0).toNat (edgeV t out E i) (foldS t out E nx i s)
def stepS (p : Pb) (s : St) : St := foldS (pTag p) (doV (pTag p) (s.F.getD (s.L.headD 0).toNat (false, [])) ((pActs p).getD (s.L.headD 0).toNat [])) ((pEdges p).getD (s.L.headD 0).toNat []) ((pNext p).getD (s.L.headD 0).toNat []) ((pNext p).getD (s.L.headD 0).toNat []).length ⟨s.F, s.L.tail, s.I.set (s.L.headD 0).toNat false⟩
def runV (p : Pb) : Nat → St → St × Nat
  | 0, s => (s, 0)
  | k + 1, s => match s.L with
    | [] => (s, 0)
    | _ :: _ => ((runV p k (stepS p s)).1, (runV p k (stepS p s)).2 + 1)
def sumK (t : Int) : List Kn → Nat
  | [] => 0
  | f :: r => rankV t f + sumK t r
/-- What is right of what Solve knows. -/
structure SI (p : Pb) (s : St) : Prop where
  lf : s.F.length = (pNext p).length
  li : s.I.length = (pNext p).length
  gd : ∀ f ∈ s.F, Gd (pTag p) (pN p) f
  ml : ∀ b ∈ s.L, 0 ≤ b ∧ b < ((pNext p).length : Int)
  ll : s.L.length ≤ sumK (pTag p) s.F
/-- A problem of the size that is asked. -/
def smallP (p : Pb) : Prop := goodP p = true ∧ (pNext p).length ≤ 20 ∧ pN p ≤ 20 ∧ (pStart p).length ≤ 20 ∧ ∀ x ∈ pNext p, x.length ≤ 20
abbrev soB (u l : Int) (p : Pb) (F : List Kn) (r : List Int) (a n : Nat) (I : List Bool) : List HB := [.cells 67 [.int .i64 u, .int .i64 l], .cells 29 (toCV tPb p), .cells 30 [.view tKF 3 0 F.length], .row 27 tKF F, .cells 52 [.ptr 5 0], .cells 55 [.view tI 6 a n, .view .bool 7 0 I.length], .row 3 tI r, .row 4 .bool I]
abbrev soF : List (Nat × SV) := [(1, .p (.c (.ptr 0 0))), (2, .p (.c (.ptr 1 0))), (6, .p (.c (.ptr 2 0))), (7, .p (.c (.ptr 4 0))), (8, .p (.clo 22 [.ptr 1 0, .ptr 2 0, .ptr 4 0]))]
@[reducible] noncomputable def stSE (u l : Int) (p : Pb) : SS := { nt := 107, fr := soF ++ [(35, .p (.c (.row tI (pStart p)))), (36, .p (ti (pStart p).length)), (37, .p (ti 0))], hp := [.cells 67 [.int .i64 u, .int .i64 l], .cells 29 (toCV tPb p), .cells 30 [.view tKn 3 0 (pNext p).length], .row 27 tKn (List.replicate (pNext p).length (false, [])), .cells 52 [.ptr 5 0], .cells 55 [.nils, .view .bool 6 0 (pNext p).length], .row 4 .bool (List.replicate (pNext p).length false)] }
@[reducible] noncomputable def stS0 (u l : Int) (p : Pb) (s : St) (r : List Int) (a : Nat) (i : Nat) : SS := { nt := 107, fr := soF ++ [(35, .p (.c (.row tI (pStart p)))), (36, .p (ti (pStart p).length)), (37, .p (ti i))], hp := soB u l p s.F r a s.L.length s.I }
@[reducible] noncomputable def stS2 (u l : Int) (p : Pb) (s : St) (r : List Int) (a : Nat) : SS := { nt := 107, fr := soF, hp := soB u l p s.F r a s.L.length s.I }
@[reducible] noncomputable def stS4 (u l : Int) (p : Pb) (s : St) (r : List Int) (a : Nat) (b : Nat) (out : Kn) (nx : List Int) (i : Nat) : SS := { nt := 107, fr := soF ++ [(11, .p (ti b)), (12, .p (.c (.ptr 8 0))), (74, .p (.c (.row tI nx))), (75, .p (ti nx.length)), (76, .p (ti i))], hp := soB u l p s.F r a s.L.length s.I ++ [.cells 27 [.bool out.1, .row tI out.2]] }
@[reducible] noncomputable def stSX (u l : Int) (F : List Kn) : SS := { nt := 107, fr := [(6, .p (.c (.ptr 1 0)))], hp := [.cells 67 [.int .i64 u, .int .i64 l], .cells 30 [.view tKF 2 0 F.length], .row 27 tKF F] }
@[reducible] noncomputable def stSR (l : Int) : SS := { nt := 107, fr := [(4, .p (.c .nils)), (5, .p (ti 18))], hp := [.cells 67 [.int .i64 l, .int .i64 l]] }
abbrev repL (s : St) (r : List Int) (a : Nat) : Prop := a + s.L.length ≤ r.length ∧ vw r a s.L.length = s.L
structure SD where
  u : Int
  l : Int
  p : Pb
  s : St
  r : List Int
  a : Nat
structure SD4 where
  d : SD
  b : Nat
  out : Kn
def mOk (u l : Int) : Prop := 0 ≤ u ∧ u ≤ l ∧ l ≤ 1000000
noncomputable def s0_l : SS → (Exit → SS → Prop) → Prop := lamOf 1 [1, 2, 6, 7, 8, 35, 36, 37] (fun d : Int × Int × Pb => stSE d.1 d.2.1 d.2.2) (fun d => smallP d.2.2)
  fun d Q => ∀ r a, SI d.2.2 (startS d.2.2) → repL (startS d.2.2) r a → Q (.exit 0) (stS2 d.1 d.2.1 d.2.2 (startS d.2.2) r a)
/-- So many steps are more than enough. -/
def fuelV : Nat := 1000
noncomputable def s2_l : SS → (Exit → SS → Prop) → Prop := lamOf 1 [1, 2, 6, 7, 8] (fun d : SD => stS2 d.u d.l d.p d.s d.r d.a) (fun d => smallP d.p ∧ mOk d.u d.l ∧ SI d.p d.s ∧ repL d.s d.r d.a)
  fun d Q => (d.u + (runV d.p fuelV d.s).2 ≤ d.l → Q (.exit 2) (stSX (d.u + (runV d.p fuelV d.s).2) d.l (runV d.p fuelV d.s).1.F)) ∧ (d.l < d.u + (runV d.p fuelV d.s).2 → Q .ret (stSR d.l))
noncomputable def s4_l : SS → (Exit → SS → Prop) → Prop := lamOf 1 [1, 2, 6, 7, 8, 11, 12, 74, 75, 76] (fun x : SD4 => stS4 x.d.u x.d.l x.d.p x.d.s x.d.r x.d.a x.b x.out ((pNext x.d.p).getD x.b []) 0) (fun x => smallP x.d.p ∧ SI x.d.p x.d.s ∧ repL x.d.s x.d.r x.d.a ∧ x.b < (pNext x.d.p).length ∧ Gd (pTag x.d.p) (pN x.d.p) x.out)
  fun x Q => ∀ r a, SI x.d.p (foldS (pTag x.d.p) x.out ((pEdges x.d.p).getD x.b []) ((pNext x.d.p).getD x.b []) ((pNext x.d.p).getD x.b []).length x.d.s) → repL (foldS (pTag x.d.p) x.out ((pEdges x.d.p).getD x.b []) ((pNext x.d.p).getD x.b []) ((pNext x.d.p).getD x.b []).length x.d.s) r a → Q (.exit 4) (stS2 x.d.u x.d.l x.d.p (foldS (pTag x.d.p) x.out ((pEdges x.d.p).getD x.b []) ((pNext x.d.p).getD x.b []) ((pNext x.d.p).getD x.b []).length x.d.s) r a)
noncomputable def gSol : List (Nat × List Bool × Tr) := [(8, [], goodP_t), (22, [], rise_t), (26, [], take_t), (27, [], pop_t), (28, [], doR_t)]
end Go.Proofs.Ytloiimhmmcheoaa.Ch
