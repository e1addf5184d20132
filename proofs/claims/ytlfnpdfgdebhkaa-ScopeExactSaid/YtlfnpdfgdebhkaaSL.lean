/- Chapter 7 (scope): the reference's Start: statement. No condition. -/
import Derived.Test.YtlfnpdfgdebhkaaSK
namespace Go.Proofs.Ytlfnpdfgdebhkaa.Ch
open Go Go.Proofs Go.Proofs.Ytlfnpdfgdebhkaa.Sx
set_option linter.unusedVariables false

/-- Put of what is known, and of which it is reckoned that it goes. -/
noncomputable def rputB_t : Tr := trH [.ptr 0, .int .i64, .data tO] rfS fun x y Q => (y.1.1 = y.2.1.length ∧ y.1.2.1 = y.2.2.1.length ∧ y.1.2.2.1 = y.2.2.2.1.length ∧ y.2.1.length ≤ 1000 ∧ y.2.2.1.length = y.2.2.2.1.length ∧ y.2.2.2.1.length < 1000 ∧ 1 ≤ y.2.2.2.1.length) ∧
  bif decide (rputE y.2.1.length y.2.2.1 y.2.2.2.1 x.2.1 x.2.2.1 = 0) then Q (.tup [ti y.2.2.2.1.length, ti 0]) (rfH y.2.1 (y.2.2.1 ++ [x.2.1]) (y.2.2.2.1 ++ [x.2.2.1])) else False
theorem rputB_ok : ∀ args h Q, rputB_t args h Q → FSpec Try.prog 27 args h Q := trH_ok fun ((_, i, ob, _) : Unit × Int × Ob × Unit) ((n, m, k, _), o, ins, l, _) Q ⟨hok, h⟩ => by
  dsimp only at hok h
  obtain ⟨hn, hm, hk, ho, he, hl, h1⟩ := hok
  subst hn hm hk
  cases hz : decide (rputE o.length ins l i ob = 0) with
  | false => rw [hz] at h; exact h.elim
  | true =>
    rw [hz] at h
    have hz := of_decide_eq_true hz
    refine rput_ok _ _ _ ?_
    have hx : ((o.length = o.length ∧ ins.length = ins.length ∧ l.length = l.length ∧ o.length ≤ 1000 ∧ ins.length = l.length ∧ l.length < 1000 ∧ 1 ≤ l.length) ∧ (rputE o.length ins l i ob ≠ 0 → Q (.tup [ti 0, ti (rputE o.length ins l i ob)]) (rfH o ins l)) ∧ (rputE o.length ins l i ob = 0 → Q (.tup [ti l.length, ti 0]) (rfH o (ins ++ [i]) (l ++ [ob])))) → rput_t [.c (.ptr 0 0), ti i, .agg (toCV tO ob)] (rfH o ins l) Q := fun h => h
    exact hx ⟨⟨rfl, rfl, rfl, ho, he, hl, h1⟩, fun hne => absurd hz hne, fun _ => h⟩
def rIns : List Int := 0 :: List.replicate 18 1
noncomputable def rstart_t : Tr := trH [] [] fun _ _ Q => Q (.p (.c (.ptr 0 0))) [.cells 49 [.view tI 1 0 2, .view tI 2 0 19, .view tO 3 0 19], .row 3 tI [0, 0], .row 3 tI rIns, .row 40 tO startL]
noncomputable def gRst : List (Nat × List Bool × Tr) := [(27, [], rputB_t)]
end Go.Proofs.Ytlfnpdfgdebhkaa.Ch
