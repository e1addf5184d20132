/- Chapter 3 (tree): the contracts of tree's small functions, proved. No condition. -/
import Derived.Test.YtmncmmdicpcgmaaTAV
namespace Go.Proofs.Ytmncmmdicpcgmaa.Ch
open Go Go.Proofs Go.Proofs.Ytmncmmdicpcgmaa.Sx
set_option linter.unusedVariables false
set_option linter.unusedSimpArgs false

theorem new_ok : ∀ args h Q, new_t args h Q → FSpec Try.prog 22 args h Q := trH_ok fun _ _ Q h => by
  refine spec_ownH 56 tR 0 0 (spec_body gok0 Try.func22 rfl noLam_ok ?_)
  show body Try.prog (gam []) noLam Try.f22 [] [] _
  rw [vc_new]; exact .inr h
theorem has_ok : ∀ args h Q, has_t args h Q → FSpec Try.prog 25 args h Q := trH_ok fun (_, i, _) ((n, _), rows, _) Q ⟨hn, hl, h⟩ => by
  dsimp only at hn hl h; subst hn
  refine spec_body gok0 Try.func25 rfl noLam_ok ?_
  show body Try.prog (gam []) noLam Try.f25 [.c (.ptr 0 0), ti i] (treeH rows) _
  rw [vc_has]; exact h
theorem has0_ok : ∀ args h Q, has0_t args h Q → FSpec Try.prog 25 args h Q := trH_ok fun (_, i, _) _ Q h => by
  refine spec_body gok0 Try.func25 rfl noLam_ok ?_
  show body Try.prog (gam []) noLam Try.f25 [.c .nilp, ti i] [] _
  rw [vc_has0]; exact h
theorem isKind_ok : ∀ args h Q, isKind_t args h Q → FSpec Try.prog 28 args h Q := trH_ok fun (k, _) _ Q h => by
  refine spec_body gok0 Try.func28 rfl noLam_ok ?_
  show body Try.prog (gam []) noLam Try.f28 [ti k] [] _
  rw [vc_isKind]; exact h
theorem clone_ok : ∀ args h Q, clone_t args h Q → FSpec Try.prog 26 args h Q := trH_ok fun (xs, _) _ Q ⟨h0, h1⟩ => by
  dsimp only at h0 h1
  refine spec_ownR 3 tI 0 (spec_body gok0 Try.func26 rfl noLam_ok ?_)
  show body Try.prog (gam []) noLam Try.f26 [.c (.row tI xs)] [] _
  rw [vc_clone]
  intro b hb
  cases b with
  | true => rw [hb rfl] at h1; exact .inr h1
  | false =>
    have e1 : vw ([] : List Int) 0 0 ++ xs = xs := by simp [vw]
    rw [e1]
    exact ⟨Nat.le_refl _, by omega, .inl h1⟩
theorem len_ok : ∀ args h Q, len_t args h Q → FSpec Try.prog 13 args h Q := trH_ok fun _ ((n, _), rows, _) Q ⟨hn, h⟩ => by
  dsimp only at hn h; subst hn
  refine spec_body gok0 Try.func13 rfl noLam_ok ?_
  show body Try.prog (gam []) noLam Try.f13 [.c (.ptr 0 0)] (treeH rows) _
  rw [vc_len]; exact fun _ => h
theorem len0_ok : ∀ args h Q, len0_t args h Q → FSpec Try.prog 13 args h Q := trH_ok fun _ _ Q h => by
  refine spec_body gok0 Try.func13 rfl noLam_ok ?_
  show body Try.prog (gam []) noLam Try.f13 [.c .nilp] [] _
  rw [vc_len0]; exact h
theorem bad_ok : ∀ args h Q, bad_t args h Q → FSpec Try.prog 30 args h Q := trH_ok fun (k, _) (_, (n, _), rows, _) Q ⟨hn, h⟩ => by
  dsimp only at hn h; subst hn
  refine spec_body gok0 Try.func30 rfl noLam_ok ?_
  show body Try.prog (gam []) noLam Try.f30 [ti k, .c (.ptr 0 0)] (boxH rows) _
  rw [vc_bad]; exact h
theorem gokBad : GOK Try.prog (gam [(30, [], bad_t)]) := gam_ok ⟨bad_ok, trivial⟩
theorem find_loop (ks : List Int) (rows : List Rw) (hm : ks.length ≤ maxI) (Q : Exit → SS → Prop) (h1 : ks.any (badB rows.length) = false → Q (.exit 0) (stFind0 rows)) (h2 : ∀ r : Nat, ks.any (badB rows.length) = true → r ≤ maxI → Q .ret (stFind1 rows r)) :
    W 3 Try.prog (.loop (lp Try.f32 0)) (stFind ks rows 0) Q := by
  refine W_loopE (stFind ks rows) (fun i => i ≤ ks.length ∧ (ks.take i).any (badB rows.length) = false) (fun i => ks.length - i) [0, 1, 7, 8] [] [4] ?_ 0 ⟨Nat.zero_le _, by simp⟩
  rintro i ⟨hi, ht⟩
  refine sx_ok (Λ := noLam) gokBad _ 0 _ _ noLam_ok ?_
  rw [vc_find_l]
  simp only [maxI] at hm
  refine cond_of (fun hc => ?_) (fun hc => ?_)
  · have hc : i < ks.length := by simpa using hc
    have ei : IntKind.i64.wrap ((i : Int) + 1) = ((i + 1 : Nat) : Int) := w64n (n := i + 1) (by omega)
    rw [ei]
    rw [Int.toNat_natCast, getD_at hc]
    refine ⟨by omega, by omega, hc, rfl, cond_of (fun hb => ?_) (fun hb => ?_)⟩
    · exact h2 i (List.any_eq_true.2 ⟨_, List.getElem_mem hc, hb⟩) (by simp only [maxI]; omega)
    · exact ⟨i + 1, rfl, ⟨hc, by rw [List.take_succ_eq_append_getElem hc, List.any_append, ht]; simp [hb]⟩, by omega⟩
  · have hc : ¬ (i < ks.length) := by simpa using hc
    rw [List.take_of_length_le (by omega)] at ht
    exact h1 ht
theorem index_ok : ∀ args h Q, index_t args h Q → FSpec Try.prog 32 args h Q := trH_ok fun (ks, _) (_, (n, _), rows, _) Q ⟨hn, h⟩ => by
  dsimp only at hn h; subst hn
  refine spec_body (Λ := lam [(0, find_l)]) gokBad Try.func32 rfl ?_ ?_
  · exact lokl (l := [(0, lp Try.f32 0)]) ⟨lam_ok fun x Q hm ⟨a1, a2⟩ => find_loop x.1 x.2 hm Q a1 a2, trivial⟩
  · show body Try.prog (gam [(30, [], bad_t)]) (lam [(0, find_l)]) Try.f32 [.c (.row tI ks), .clo 30 [.ptr 0 0]] (boxH rows) _
    rw [vc_find]
    exact fun hm => ⟨(ks, rows), rfl, hm, fun hf => h (-1) (by rw [hf]; rfl), fun r ht _ => h r (by rw [ht]; simp)⟩
theorem gokIdx : GOK Try.prog (gam [(32, [], index_t)]) := gam_ok ⟨index_ok, trivial⟩
theorem contains_ok : ∀ args h Q, contains_t args h Q → FSpec Try.prog 31 args h Q := trH_ok fun (ks, _) (_, (n, _), rows, _) Q ⟨hn, h⟩ => by
  dsimp only at hn h; subst hn
  refine spec_body gokIdx Try.func31 rfl noLam_ok ?_
  show body Try.prog (gam [(32, [], index_t)]) noLam Try.f31 [.c (.row tI ks), .clo 30 [.ptr 0 0]] (boxH rows) _
  rw [vc_contains]
  refine ⟨rfl, fun r hr => ?_⟩
  rw [show decide (r ≥ 0) = ks.any (badB rows.length) from hr.symm]
  exact h
end Go.Proofs.Ytmncmmdicpcgmaa.Ch
