/- Chapter 21 (solve): the law SolveExact, proved. No condition. -/
import Derived.Test.YtloiimhmmcheoaaMX
namespace Go.Proofs.Ytloiimhmmcheoaa.Ch
open Go Go.Proofs Go.Proofs.Ytloiimhmmcheoaa.Sx
set_option linter.unusedVariables false
set_option linter.unusedSimpArgs false

theorem gokEx : GOK Try.prog (gam gEx) := gam_ok ⟨awake_ok, great_ok, goodP_ok, ugood_ok, solve_ok, budget_ok, used_ok, facts_ok, rsolve_ok, height_ok, trivial⟩
theorem exact_law (p : Pb) : FSpec Try.prog 5 [.agg (toCV tPb p)] [] fun r h' => r = .p (.c (.bool true)) := by
  refine spec_body gokEx Try.func5 rfl noLam_ok ?_
  show body Try.prog (gam gEx) noLam Try.f5 [.agg (toCV tPb p)] [] _
  rw [vc_lex]
  intro r hr
  refine cond_of (fun _ => rfl) (fun hrf => cond_of (fun hc => ?_) (fun _ => fun _ => ?_))
  · exfalso; simp at hc
  have hgr := hr hrf
  have hsz : sizeP p := hgr
  obtain ⟨hl, hn, hsl, hnl⟩ := hgr
  have hl' : List.length p.fst = (pNext p).length := rfl
  have hb : ∃ m : Int, mx2 (pN p) 0 = m ∧ 0 ≤ m ∧ m ≤ 20 ∧ (0 ≤ pN p → m = pN p) := ⟨_, rfl, by unfold mx2; split <;> omega, by unfold mx2; split <;> omega, by unfold mx2; split <;> omega⟩
  obtain ⟨m, hm, hm0, hm1, hm2⟩ := hb
  have hmul2 : ((pNext p).length : Int) * (2 * m + 2) ≤ ((pNext p).length : Int) * 42 := Int.mul_le_mul_of_nonneg_left (by omega) (by omega)
  have hmul3 : 0 ≤ ((pNext p).length : Int) * (2 * m + 2) := Int.mul_nonneg (by omega) (by omega)
  have eb : mx2 (IntKind.i64.wrap (1 + IntKind.i64.wrap (((pNext p).length : Int) * IntKind.i64.wrap (IntKind.i64.wrap (2 * mx2 (pN p) 0) + 2)))) 0 = 1 + ((pNext p).length : Int) * (2 * m + 2) := by
    rw [hm, w64 (x := 2 * m) (by omega) (by omega), w64 (x := 2 * m + 2) (by omega) (by omega), w64 (x := ((pNext p).length : Int) * (2 * m + 2)) (by omega) (by omega), w64 (by omega) (by omega)]
    unfold mx2; split <;> omega
  have hmok : mOk 0 (1 + ((pNext p).length : Int) * (2 * m + 2)) := ⟨by omega, by omega, by omega⟩
  show (mOk 0 (mx2 (IntKind.i64.wrap (1 + IntKind.i64.wrap (((pNext p).length : Int) * IntKind.i64.wrap (IntKind.i64.wrap (2 * mx2 (pN p) 0) + 2)))) 0) ∧ sizeP p) ∧ _
  refine ⟨⟨by rw [eb]; exact hmok, hsz⟩, fun hg => ?_, fun hg => ?_⟩
  · rw [hg]; rfl
  · have hP : smallP p := ⟨hg, hl, hn, hsl, hnl⟩
    obtain ⟨hfo, hag, hle, hst, hs8⟩ := solve_agr hP
    obtain ⟨k, hp⟩ := goodP_gp hg
    have hk : k ≤ 20 := by have := hp.hn; omega
    have hh := height_h hk hp.ht
    have hpn := hp.hn
    have hmk : m = (k : Int) := by rw [hm2 (by omega)]; exact hpn
    have hsum := sumK_h hk hp.ht (F := factsV p) (fun f hf => by rw [← hp.hn]; exact hfo.2 f hf)
    rw [hfo.1] at hsum
    have hmul : ((pNext p).length : Int) * heightV (pTag p) k ≤ ((pNext p).length : Int) * (2 * m + 2) := Int.mul_le_mul_of_nonneg_left (by omega) (by omega)
    have hmul0 : 0 ≤ ((pNext p).length : Int) * heightV (pTag p) k := Int.mul_nonneg (by omega) hh.1
    have hgt : ¬ (1 + ((pNext p).length : Int) * (2 * m + 2) < 0 + (stepsV p : Int)) := by omega
    refine ⟨fun _ => cond_of (fun hc => ?_) (fun _ => ⟨hP, cond_of (fun _ => ?_) (fun hc => ?_)⟩), fun hc => ?_⟩
    · exfalso; rw [hg] at hc; cases hc
    · have e : decide ((0 : Int) + (stepsV p : Int) ≤ IntKind.i64.wrap (IntKind.i64.wrap (((pNext p).length : Int) * heightV (pTag p) (pN p)) + 1)) = true := by
        rw [hpn, w64 (x := ((pNext p).length : Int) * heightV (pTag p) k) (by omega) (by omega), w64 (by omega) (by omega)]
        exact decide_eq_true (by omega)
      show SV.p (PV.c (CV.bool (true && decide ((0 : Int) + (stepsV p : Int) ≤ IntKind.i64.wrap (IntKind.i64.wrap (((pNext p).length : Int) * heightV (pTag p) (pN p)) + 1))))) = _
      rw [e]; rfl
    · exfalso; simp at hc
    · exfalso
      have hc : mx2 (IntKind.i64.wrap (1 + IntKind.i64.wrap (((pNext p).length : Int) * IntKind.i64.wrap (IntKind.i64.wrap (2 * mx2 (pN p) 0) + 2)))) 0 < 0 + (stepsV p : Int) := hc
      rw [eb] at hc
      exact hgt hc
end Go.Proofs.Ytloiimhmmcheoaa.Ch
