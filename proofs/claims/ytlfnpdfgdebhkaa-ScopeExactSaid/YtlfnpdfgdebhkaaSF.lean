/- Chapter 7 (scope): what is built in, proved; Start: states. No condition. -/
import Derived.Test.YtlfnpdfgdebhkaaSEV
namespace Go.Proofs.Ytlfnpdfgdebhkaa.Ch
open Go Go.Proofs Go.Proofs.Ytlfnpdfgdebhkaa.Sx
set_option linter.unusedVariables false
set_option linter.unusedSimpArgs false

theorem built_ok : ∀ args h Q, built_t args h Q → FSpec Try.prog 22 args h Q := trH_ok fun _ _ Q h => by
  refine spec_body (Λ := lam [(0, unr Try.prog (gam []) noLam (lp Try.f22 0) 0 5), (2, unr Try.prog (gam []) noLam (lp Try.f22 1) 2 3), (4, unr Try.prog (gam []) noLam (lp Try.f22 2) 4 3), (6, unr Try.prog (gam []) noLam (lp Try.f22 3) 6 10)]) gok0 Try.func22 rfl ?_ ?_
  · exact lokl (l := [(0, lp Try.f22 0), (2, lp Try.f22 1), (4, lp Try.f22 2), (6, lp Try.f22 3)]) ⟨unr_all gok0 noLam_ok, unr_all gok0 noLam_ok, unr_all gok0 noLam_ok, unr_all gok0 noLam_ok, trivial⟩
  show body Try.prog (gam []) (lam [(0, unr Try.prog (gam []) noLam (lp Try.f22 0) 0 5), (2, unr Try.prog (gam []) noLam (lp Try.f22 1) 2 3), (4, unr Try.prog (gam []) noLam (lp Try.f22 2) 4 3), (6, unr Try.prog (gam []) noLam (lp Try.f22 3) 6 10)]) Try.f22 [] [] _
  rw [vc_built]
  repeat (first | exact h | refine ⟨by decide, ?_⟩)
noncomputable def stepS (s : List Ob × Es) (ob : Ob) : List Ob × Es := (s.1 ++ [ob], putEs s.2 1 ob.2.1 s.1.length)
noncomputable def atS (i : Nat) : List Ob × Es := (builtL.take i).foldl stepS ([zeroO], [])
noncomputable def startEs : Es := (atS 18).2
abbrev startL : List Ob := zeroO :: builtL
noncomputable def start_t : Tr := trH [] [] fun _ _ Q => Q (.p (.c (.ptr 0 0))) (scH [0, 0] startL startEs)
@[reducible] noncomputable def stSt (l : List Ob) (es : Es) (bl : List Ob) (i : Nat) : SS :=
  { nt := 20, fr := [(1, .p (.c (.ptr 0 0))), (9, .p (.c (.view tO 4 0 bl.length))), (10, .p (ti bl.length)), (11, .p (ti i))], hp := [.cells 67 [.view tI 1 0 2, .view tO 2 0 l.length, .mp 3], .row 3 tI [0, 0], .row 40 tO l, .map true tKy false tI es, .row 40 tO bl] }
@[reducible] noncomputable def stStX (l : List Ob) (es : Es) : SS :=
  { nt := 20, fr := [(1, .p (.c (.ptr 0 0)))], hp := [.cells 67 [.view tI 1 0 2, .view tO 2 0 l.length, .mp 3], .row 3 tI [0, 0], .row 40 tO l, .map true tKy false tI es] }
noncomputable def start_l : SS → (Exit → SS → Prop) → Prop := lamOf 0 [1, 9, 10, 11] (fun _ : Unit => stSt [zeroO] [] builtL 0) (fun _ => True) fun _ Q => Q (.exit 0) (stStX startL startEs)
noncomputable def gStart : List (Nat × List Bool × Tr) := [(22, [], built_t), (11, [], orNil put0_t put_t)]
end Go.Proofs.Ytlfnpdfgdebhkaa.Ch
