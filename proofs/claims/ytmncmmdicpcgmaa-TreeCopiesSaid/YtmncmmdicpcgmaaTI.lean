/- Chapter 3 (tree): laid, proved. No condition. -/
import Derived.Test.YtmncmmdicpcgmaaTH
namespace Go.Proofs.Ytmncmmdicpcgmaa.Ch
open Go Go.Proofs Go.Proofs.Ytmncmmdicpcgmaa.Sx
set_option linter.unusedVariables false
set_option linter.unusedSimpArgs false

theorem great_small {l : List Nd} (h : greatB l = false) : l.length ≤ 60 ∧ ∀ n ∈ l, (kidsOf n).length ≤ 20 := by
  simp only [greatB, Bool.or_eq_false_iff, decide_eq_false_iff_not] at h
  refine ⟨by omega, fun n hn => ?_⟩
  have := any_false h.2 hn
  simp only [greatN, Bool.or_eq_false_iff, decide_eq_false_iff_not] at this
  omega
theorem laidL_succ (list : List Nd) (i : Nat) (h : i < list.length) : laidL (list.take (i + 1)) = if goodB list[i] (laidL (list.take i)).length = true then laidL (list.take i) ++ [list[i]] else laidL (list.take i) := by
  unfold laidL
  rw [List.take_succ_eq_append_getElem h, List.foldl_append]
  rfl
theorem laid_all : ∀ list : List Nd, Valid (laidL list) ∧ (laidL list).length ≤ list.length ∧ ∀ n ∈ laidL list, n ∈ list := by
  refine snoc_ind ⟨fun j h => by simp [laidL] at h, by simp [laidL], by simp [laidL]⟩ (fun l a ⟨h1, h2, h3⟩ => ?_)
  have e : laidL (l ++ [a]) = if goodB a (laidL l).length = true then laidL l ++ [a] else laidL l := by unfold laidL; rw [List.foldl_append]; rfl
  rw [e]
  by_cases hg : goodB a (laidL l).length = true
  · rw [if_pos hg]
    refine ⟨valid_put h1 hg, by rw [List.length_append, List.length_append]; simp; omega, fun n hn => ?_⟩
    rcases List.mem_append.1 hn with hn | hn
    · exact List.mem_append_left _ (h3 n hn)
    · exact List.mem_append_right _ hn
  · rw [if_neg hg]
    exact ⟨h1, by rw [List.length_append]; omega, fun n hn => List.mem_append_left _ (h3 n hn)⟩
theorem gokLaid : GOK Try.prog (gam gLaid) := gam_ok ⟨new_ok, orNil_ok add0_ok addS_ok, good_ok, trivial⟩
theorem laid_loop (list : List Nd) (hg : greatB list = false) (Q : Exit → SS → Prop) (h1 : Q (.exit 0) (stLaid1 (laidL list))) : W 0 Try.prog (.loop (lp Try.f9 0)) (stLaid list [] 0) Q := by
  obtain ⟨hl, hk⟩ := great_small hg
  refine W_loopE (N := 0) (P := Try.prog) (body := lp Try.f9 0) (Q := Q) (fun i : Nat => stLaid list (laidL (list.take i)) i) (fun i => i ≤ list.length) (fun i => list.length - i) [0, 5, 6, 7] [5, 6] [2, 3, 4] (fun i hi => ?_) 0 (Nat.zero_le _)
  refine sx_ok (Λ := noLam) gokLaid _ 0 _ _ noLam_ok ?_
  rw [vc_laid_l]
  intro hm
  refine cond_of (fun hc => ?_) (fun hc => ?_)
  · have hc : i < list.length := by simpa using hc
    have ei : IntKind.i64.wrap ((i : Int) + 1) = ((i + 1 : Nat) : Int) := w64n (n := i + 1) (by omega)
    have hs := laidL_succ list i hc
    have hkn : (kidsOf list[i]).length ≤ 65536 := by have := hk _ (List.getElem_mem hc); omega
    obtain ⟨hv, hle, _⟩ := laid_all (list.take i)
    rw [List.length_take] at hle
    generalize laidL (list.take i) = l at *
    have htl := treeOf_len l
    have hok := treeOf_ok hv (by omega)
    have hle1 : (l ++ [list[i]]).length = l.length + 1 := by simp
    rw [Int.toNat_natCast, getD_at hc, ei, vw_all, htl, Int.toNat_natCast]
    refine ⟨by omega, by omega, hc, ⟨rfl, by omega, hok, hkn⟩, fun hf => ⟨by omega, by omega, hc, fun _ => ⟨by omega, ?_⟩⟩, fun ht => ⟨by omega, by omega, hc, fun _ => ⟨by omega, ?_⟩⟩⟩
    · rw [hf]
      rw [if_neg (by rw [hf]; simp)] at hs
      exact ⟨i + 1, by rw [hs]; unfold stLaid treeH; rw [htl]; rfl, hc, by omega⟩
    · rw [ht]
      rw [if_pos ht] at hs
      refine ⟨by omega, by omega, hc, by simp, by omega, by omega, fun _ => ?_⟩
      rw [hle1, show (((l.length : Nat) : Int) + 1 != ((l.length + 1 : Nat) : Int) || (0 : Int) != 0) = false by simp]
      refine ⟨i + 1, ?_, hc, by omega⟩
      rw [hs]
      unfold stLaid
      rw [treeOf_snoc, hle1]
      rfl
  · have hc : ¬ (i < list.length) := by simpa using hc
    rw [List.take_of_length_le (by omega)]
    exact h1
theorem laid_ok : ∀ args h Q, laid_t args h Q → FSpec Try.prog 9 args h Q := trH_ok fun ((list, _) : List Nd × Unit) _ Q ⟨hg, h⟩ => by
  dsimp only at h hg
  refine spec_body (Λ := lam [(0, laid_l)]) gokLaid Try.func9 rfl ?_ ?_
  · exact lokl (l := [(0, lp Try.f9 0)]) ⟨lam_ok fun x Q a1 a => laid_loop x a1 Q a, trivial⟩
  · show body Try.prog (gam gLaid) (lam [(0, laid_l)]) Try.f9 [.c (.row tN list)] [] _
    rw [vc_laid]
    exact ⟨list, rfl, hg, h⟩
end Go.Proofs.Ytmncmmdicpcgmaa.Ch
