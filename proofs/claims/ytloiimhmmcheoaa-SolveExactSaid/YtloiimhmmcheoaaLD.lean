/- Chapter 21 (lattice): Join, Below, Repeat, proved. No condition. -/
import Derived.Test.YtloiimhmmcheoaaLCV
namespace Go.Proofs.Ytloiimhmmcheoaa.Ch
open Go Go.Proofs Go.Proofs.Ytloiimhmmcheoaa.Sx
set_option linter.unusedVariables false
set_option linter.unusedSimpArgs false

theorem gokJoin : GOK Try.prog (gam gJoin) := gam_ok ⟨clone_ok, cell_ok, trivial⟩
theorem vw_all {α : Type} (l : List α) : vw l 0 l.length = l := by simp [vw]
theorem join_loop (t : Int) (xs ys : List Int) (hx : xs.length ≤ 100000) (hy : ys.length ≤ 100000) (Q : Exit → SS → Prop) (hq : Q (.exit 1) (stJX (List.zipWith (cellV t) xs ys))) :
    W 0 Try.prog (.loop (lp Try.f23 0)) (stJ0 t xs ys (min xs.length ys.length : Nat)) Q := by
  refine W_ownH 3 tI 3 1 ?_
  show W 0 Try.prog (.loop (lp Try.f23 0)) (stJ t xs ys [] (min xs.length ys.length) 0) Q
  refine W_loopE (N := 0) (P := Try.prog) (body := lp Try.f23 0) (Q := Q) (fun x : Nat × List Int => stJ t xs ys x.2 (min xs.length ys.length) x.1) (fun x => x.1 ≤ min xs.length ys.length ∧ x.2 = (List.zipWith (cellV t) xs ys).take x.1) (fun x => min xs.length ys.length - x.1) [0, 4, 5, 6, 7, 28, 29] [6, 7] [] (fun ⟨i, zs⟩ ⟨hi, hz⟩ => ?_) (0, []) ⟨Nat.zero_le _, rfl⟩
  dsimp only at hi hz ⊢
  refine sx_ok (Λ := noLam) gokJoin _ 1 _ _ noLam_ok ?_
  rw [vc_join_l]
  have hlen : (List.zipWith (cellV t) xs ys).length = min xs.length ys.length := List.length_zipWith
  have hzl : zs.length = i := by rw [hz, List.length_take, hlen]; omega
  refine cond_of (fun hc => ?_) (fun hc => ?_)
  · have hc : i < min xs.length ys.length := by simpa using hc
    have h1 : i < xs.length := by omega
    have h2 : i < ys.length := by omega
    have ei : IntKind.i64.wrap ((i : Int) + 1) = ((i + 1 : Nat) : Int) := w64n (n := i + 1) (by omega)
    rw [ei, Int.toNat_natCast, getD_at h1, getD_at h2, vw_all]
    refine ⟨by omega, by omega, h1, by omega, by omega, h2, by simp, by omega, by simp only [List.length_append, List.length_cons, List.length_nil]; omega, ⟨(i + 1, zs ++ [cellV t xs[i] ys[i]]), rfl, ⟨by show i + 1 ≤ _; omega, ?_⟩, by show _ - (i + 1) < _ - i; omega⟩⟩
    dsimp only
    rw [List.take_succ_eq_append_getElem (by rw [hlen]; exact hc), ← hz, List.getElem_zipWith]
  · have hc : ¬ (i < min xs.length ys.length) := by simpa using hc
    have e : zs = List.zipWith (cellV t) xs ys := by rw [hz, List.take_of_length_le (by omega)]
    rw [e]; exact hq
theorem join_ok : ∀ args h Q, join_t args h Q → FSpec Try.prog 23 args h Q := trH_ok fun ((t, (c, xs), (d, ys), _) : Int × Kn × Kn × Unit) _ Q ⟨⟨hx, hy⟩, h⟩ => by
  dsimp only at hx hy h
  refine spec_body (Λ := lam [(1, join_l)]) gokJoin Try.func23 rfl ?_ ?_
  · exact lokl (l := [(1, lp Try.f23 0)]) ⟨lam_ok fun x Q ⟨a1, a2⟩ a => join_loop x.1 x.2.1 x.2.2 a1 a2 Q a, trivial⟩
  show body Try.prog (gam gJoin) (lam [(1, join_l)]) Try.f23 [ti t, .agg [.bool c, .row tI xs], .agg [.bool d, .row tI ys]] [] _
  unfold joinV at h
  cases c with
  | false =>
    rw [vc_join0]
    rw [if_pos rfl] at h
    exact ⟨by omega, h⟩
  | true =>
    rw [if_neg (by simp)] at h
    cases d with
    | false =>
      rw [vc_join1]
      rw [if_pos rfl] at h
      exact ⟨by omega, h⟩
    | true =>
      rw [vc_join2]
      rw [if_neg (by simp)] at h
      intro _ _
      have e : mn2 (xs.length : Int) (ys.length : Int) = ((min xs.length ys.length : Nat) : Int) := by unfold mn2; split <;> omega
      rw [e]
      exact ⟨(t, xs, ys), rfl, ⟨hx, hy⟩, h⟩
theorem below_ok : ∀ args h Q, below_t args h Q → FSpec Try.prog 13 args h Q := trH_ok fun ((t, (c, xs), (d, ys), _) : Int × Kn × Kn × Unit) _ Q ⟨⟨hx, hy⟩, h⟩ => by
  dsimp only at hx hy h
  refine spec_body (Γ := gam [(23, [], join_t), (24, [], same_t)]) (gam_ok ⟨join_ok, same_ok, trivial⟩) Try.func13 rfl noLam_ok ?_
  show body Try.prog (gam [(23, [], join_t), (24, [], same_t)]) noLam Try.f13 [ti t, .agg [.bool c, .row tI xs], .agg [.bool d, .row tI ys]] [] _
  rw [vc_below, vw_all]
  exact ⟨⟨hx, hy⟩, by omega, h⟩
end Go.Proofs.Ytloiimhmmcheoaa.Ch
