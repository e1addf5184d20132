/- Chapter 7 (scope): Start, proved. No condition. -/
import Derived.Test.YtlfnpdfgdebhkaaSFV
namespace Go.Proofs.Ytlfnpdfgdebhkaa.Ch
open Go Go.Proofs Go.Proofs.Ytlfnpdfgdebhkaa.Sx
set_option linter.unusedVariables false
set_option linter.unusedSimpArgs false

theorem atS_succ {i : Nat} (h : i < builtL.length) : atS (i + 1) = stepS (atS i) builtL[i] := by
  unfold atS
  rw [List.take_succ_eq_append_getElem h, List.foldl_append]; rfl
theorem builtL_len : builtL.length = 18 := rfl
theorem atS_fst : ∀ i, i ≤ 18 → (atS i).1 = zeroO :: builtL.take i := by
  intro i
  induction i with
  | zero => intro _; rfl
  | succ i ih =>
    intro h
    have hb : i < builtL.length := by rw [builtL_len]; omega
    rw [atS_succ hb]
    show (atS i).1 ++ [builtL[i]] = _
    rw [ih (by omega), List.take_succ_eq_append_getElem hb]; rfl
theorem start_chk : (List.range 18).all (fun i => decide (putE 2 (atS i).2 1 (builtL.getD i zeroO) = 0)) = true := by kernel_rfl
theorem start_put {i : Nat} (h : i < 18) : putE 2 (atS i).2 1 (builtL[i]'(by rw [builtL_len]; exact h)) = 0 := by
  have := List.all_eq_true.1 start_chk i (List.mem_range.2 h)
  rw [getD_at (by rw [builtL_len]; exact h)] at this
  simpa using this
theorem gokStart : GOK Try.prog (gam gStart) := gam_ok ⟨built_ok, orNil_ok put0_ok put_ok, trivial⟩
theorem start_loop (Q : Exit → SS → Prop) (hq : Q (.exit 0) (stStX startL startEs)) : W 0 Try.prog (.loop (lp Try.f8 0)) (stSt [zeroO] [] builtL 0) Q := by
  refine W_loopE (N := 0) (P := Try.prog) (body := lp Try.f8 0) (Q := Q) (fun i : Nat => stSt (atS i).1 (atS i).2 builtL i) (fun i => i ≤ 18) (fun i => 18 - i) [1, 9, 10, 11] [1] [] (fun i hi => ?_) 0 (by omega)
  refine sx_ok (Λ := noLam) gokStart _ 0 _ _ noLam_ok ?_
  rw [vc_startl]
  have hlen : (atS i).1.length = i + 1 := by
    rw [atS_fst i hi, List.length_cons, List.length_take, builtL_len]; omega
  refine cond_of (fun hc => ?_) (fun hc => ?_)
  · have hc : i < builtL.length := by simpa using hc
    have h18 : i < 18 := by rw [builtL_len] at hc; exact hc
    have ei : IntKind.i64.wrap ((i : Int) + 1) = ((i + 1 : Nat) : Int) := w64n (n := i + 1) (by omega)
    have hp := start_put h18
    rw [Int.toNat_natCast, Nat.zero_add, getD_at hc, ei]
    refine ⟨by omega, by omega, hc, ⟨rfl, rfl, by decide, by omega, by omega⟩, fun hne => absurd hp hne, fun _ => ⟨i + 1, ?_, h18, by omega⟩⟩
    rw [atS_succ hc]; rfl
  · have hc : ¬ (i < builtL.length) := by simpa using hc
    rw [builtL_len] at hc
    have : i = 18 := by omega
    subst this
    have e : (atS 18).1 = startL := by rw [atS_fst 18 (by omega)]; rfl
    rw [e]
    exact hq
theorem start_ok : ∀ args h Q, start_t args h Q → FSpec Try.prog 8 args h Q := trH_ok fun _ _ Q h => by
  refine spec_body (Λ := lam [(0, start_l)]) gokStart Try.func8 rfl ?_ ?_
  · exact lokl (l := [(0, lp Try.f8 0)]) ⟨lam_ok fun _ Q _ a => start_loop Q a, trivial⟩
  show body Try.prog (gam gStart) (lam [(0, start_l)]) Try.f8 [] [] _
  rw [vc_start]
  exact ⟨by omega, by omega, by omega, fun _ => ⟨(), rfl, trivial, h⟩⟩
end Go.Proofs.Ytlfnpdfgdebhkaa.Ch
