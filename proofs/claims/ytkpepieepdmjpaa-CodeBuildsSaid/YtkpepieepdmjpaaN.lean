/- Chapter 11 (code): awake says true; the law CodeGood. No condition. -/
import Derived.Test.YtkpepieepdmjpaaMV
namespace Go.Proofs.Ytkpepieepdmjpaa.Ch
open Go Go.Proofs Go.Proofs.Ytkpepieepdmjpaa.Sx
set_option linter.unusedVariables false
set_option linter.unusedSimpArgs false

theorem newR_ok : ∀ args h Q, newR_t args h Q → FSpec Try.prog 11 args h Q := trH_ok fun (_ : Unit) _ Q h => by
  refine spec_body gok0 Try.func11 rfl noLam_ok ?_
  show body Try.prog (gam []) noLam Try.f11 [] [] _
  rw [vc_newR]
  exact h
theorem putR_ok : ∀ args h Q, putR_t args h Q → FSpec Try.prog 17 args h Q := trH_ok fun ((_, x, _) : Unit × Ins × Unit) (((_, _, r, _, st, _), _) : (Unit × Unit × Int × Unit × Int × Unit) × Unit) Q ⟨hs, h⟩ => by
  refine spec_body (Γ := gam [(24, [], cloneI_t), (26, [], cloneA_t)]) (gam_ok ⟨cloneI_ok, cloneA_ok, trivial⟩) Try.func17 rfl noLam_ok ?_
  show body Try.prog (gam [(24, [], cloneI_t), (26, [], cloneA_t)]) noLam Try.f17 [.c (.ptr 0 0), .agg (toCV tIns x)] (wH r st) _
  rw [vc_putR]
  exact ⟨Nat.le_trans hs.1 (by decide), Nat.le_trans hs.2 (by decide), Nat.le_refl _, by show 1 * 224 ≤ _; decide, h⟩
theorem resR_ok : ∀ args h Q, resR_t args h Q → FSpec Try.prog 27 args h Q := trH_ok fun ((_, x, _) : Unit × Ins × Unit) (((n, _, r, _, st, _), c, _) : (Nat × Unit × Int × Unit × Int × Unit) × List Ins × Unit) Q ⟨⟨hn, hx⟩, h⟩ => by
  dsimp only at hn hx h
  subst hn
  refine spec_body gok0 Try.func27 rfl noLam_ok ?_
  show body Try.prog (gam []) noLam Try.f27 [.c (.ptr 0 0), .agg (toCV tIns x)] (vH c r st) _
  rw [vc_resR]
  have ne : ∀ k : Int, k ≠ 23 → (x.1 == k) = true → False := fun k hk e => hk (by rw [← eq_of_beq e]; exact hx)
  exact cond_of (fun e => (ne _ (by decide) e).elim) (fun _ => cond_of (fun e => (ne _ (by decide) e).elim) (fun _ => cond_of (fun e => (ne _ (by decide) e).elim) (fun _ => h)))
theorem cloneS_ok : ∀ args h Q, cloneS_t args h Q → FSpec Try.prog 28 args h Q := trH_ok fun ((l, _) : List Stm × Unit) _ Q ⟨hl, h⟩ => by
  refine spec_row 47 tStm rfl (spec_body gok0 Try.func28 rfl noLam_ok ?_)
  show body Try.prog (gam []) noLam Try.f28 [.c (.row tStm l)] [] _
  rw [vc_cloneS]
  dsimp only at hl
  intro b hb
  cases b with
  | true => exact ⟨[], .inr (.inl ⟨rfl, rfl, rfl⟩), by rw [← hb rfl]; exact h⟩
  | false => exact ⟨Nat.le_refl _, by omega, l, .inr (.inr ⟨47, rfl, rfl⟩), h⟩
theorem endsA_ok : ∀ args h Q, endsA_t args h Q → FSpec Try.prog 19 args h Q := trH_ok fun ((x, _) : Ins × Unit) _ Q ⟨hx, h⟩ => by
  dsimp only at hx h
  refine ends_ok [.agg (toCV tIns x)] [] Q ?_
  have e : ends_t [.agg (toCV tIns x)] [] Q = Q (.p (tb (endsV x))) [] := by kernel_rfl
  rw [e, show endsV x = true by unfold endsV; rw [hx]; rfl]
  exact h
theorem readsA_ok : ∀ args h Q, readsA_t args h Q → FSpec Try.prog 9 args h Q := trH_ok fun ((x, _) : Ins × Unit) _ Q ⟨⟨hs, hx⟩, h⟩ => by
  dsimp only at hs hx h
  refine reads_ok [.agg (toCV tIns x)] [] Q ?_
  have e : reads_t [.agg (toCV tIns x)] [] Q = (smallI x ∧ Q (.p (.c (.row tI (readsV x)))) []) := by kernel_rfl
  rw [e, hx]
  exact ⟨hs, h⟩
theorem nextA_ok : ∀ args h Q, nextA_t args h Q → FSpec Try.prog 20 args h Q := trH_ok fun ((x, pc, _) : Ins × Int × Unit) _ Q ⟨⟨hs, hx⟩, h⟩ => by
  dsimp only at hs hx h
  refine next_ok [.agg (toCV tIns x), ti pc] [] Q ?_
  have e : next_t [.agg (toCV tIns x), ti pc] [] Q = (smallI x ∧ Q (.p (.c (.row tI (nextV x pc)))) []) := by kernel_rfl
  rw [e, hx]
  exact ⟨hs, h⟩
theorem goodA_ok : ∀ args h Q, goodA_t args h Q → FSpec Try.prog 8 args h Q := trH_ok fun ((p, _) : Pro × Unit) _ Q ⟨⟨hs, hx⟩, h⟩ => by
  dsimp only at hs hx h
  refine good_ok [.agg (toCV tPro p)] [] Q ?_
  have e : good_t [.agg (toCV tPro p)] [] Q = (smallP p ∧ Q (.p (tb (goodV p))) []) := by kernel_rfl
  rw [e, hx]
  exact ⟨hs, h⟩
theorem finR_ok : ∀ args h Q, finR_t args h Q → FSpec Try.prog 18 args h Q := trH_ok fun (_ : Unit × Unit) (((n, _, r, _, st, _), c, _) : (Nat × Unit × Int × Unit × Int × Unit) × List Ins × Unit) Q ⟨⟨hn, hc, hr⟩, h⟩ => by
  dsimp only at hn hc hr h
  subst hn hc hr
  have gok : GOK Try.prog (gam [(27, [], resR_t)]) := gam_ok ⟨resR_ok, trivial⟩
  refine spec_body (Γ := gam [(19, [], endsA_t), (28, [], cloneS_t), (27, [], resR_t)]) (Λ := lam [(0, unr Try.prog (gam [(27, [], resR_t)]) noLam (lp Try.f18 0) 0 3)]) (gam_ok ⟨endsA_ok, cloneS_ok, resR_ok, trivial⟩) Try.func18 rfl (lokl (l := [(0, lp Try.f18 0)]) ⟨unr_all gok noLam_ok, trivial⟩) ?_
  show body Try.prog (gam [(19, [], endsA_t), (28, [], cloneS_t), (27, [], resR_t)]) (lam [(0, unr Try.prog (gam [(27, [], resR_t)]) noLam (lp Try.f18 0) 0 3)]) Try.f18 [.c (.ptr 0 0)] (vH [(23, 0, 0, 0, 0, 0, ⟨#[]⟩, (0, 0, 0, 0, ⟨#[]⟩), [], 0, 0, [], -1, (0, 0, 0), 0, 0)] 0 st) _
  rw [vc_finR]
  exact fun _ => ⟨fun _ => ⟨by decide, by decide, trivial⟩, fun _ => ⟨by decide, trivial⟩, rfl, fun _ => ⟨by decide, by decide, by decide, ⟨rfl, rfl⟩, Nat.le_refl _, by decide, by decide, h⟩⟩
theorem sort_pair {a b : Int} (h : a ≤ b) : sortV [a, b] = [a, b] := by
  unfold sortV
  exact List.mergeSort_of_pairwise (by simp [h])
theorem awake_ok : ∀ args h Q, awake_t args h Q → FSpec Try.prog 6 args h Q := trH_ok fun (_ : Unit) _ Q h => by
  refine spec_body (Γ := gam gAw) (gam_ok ⟨readsA_ok, nextA_ok, newR_ok, putR_ok, finR_ok, endsA_ok, goodA_ok, trivial⟩) Try.func6 rfl noLam_ok ?_
  show body Try.prog (gam gAw) noLam Try.f6 [] [] _
  rw [vc_awake]
  refine ⟨⟨⟨by decide, by decide⟩, by decide +kernel⟩, ⟨⟨by decide, by decide⟩, ?_⟩, Nat.le_refl _, Nat.le_refl _, fun _ => ⟨⟨by decide, by decide⟩, ⟨rfl, rfl, rfl⟩, by decide, by decide, by decide, fun _ => ⟨by decide, by decide, trivial⟩, fun _ => ⟨by decide, trivial⟩, fun _ => ⟨by decide, by decide, trivial⟩, fun _ => ⟨by decide, trivial⟩, fun _ => ⟨by decide, by decide, trivial⟩, fun _ => ⟨by decide, trivial⟩, rfl, ⟨⟨by decide, ?_⟩, rfl⟩, ⟨⟨by decide, ?_⟩, rfl⟩, fun _ => ⟨by decide, by decide, trivial⟩, fun _ => ⟨by decide, trivial⟩, h⟩⟩
  · have e : nextV ((20, 0, 0, 0, 0, 0, ⟨#[]⟩, (0, 0, 0, 0, ⟨#[]⟩), [], 0, 3, [], 0, (0, 0, 0), 0, 0) : Ins) 7 = compV (sortV [3, 8]) := by
      unfold nextV
      rw [if_neg (by decide)]
      rfl
    rw [e, sort_pair (by decide)]
    unfold compV
    decide +kernel
  · intro i hi
    simp only [Pro.code, List.mem_cons, List.not_mem_nil, or_false] at hi
    rcases hi with rfl | rfl <;> exact ⟨by decide, by decide⟩
  · intro i hi
    exact absurd hi (by simp [Pro.code])
theorem good_law (p : Pro) : FSpec Try.prog 3 [.agg (toCV tPro p)] [] (fun r h' => r = .p (.c (.bool true))) := lgood_of awake_ok p
end Go.Proofs.Ytkpepieepdmjpaa.Ch
