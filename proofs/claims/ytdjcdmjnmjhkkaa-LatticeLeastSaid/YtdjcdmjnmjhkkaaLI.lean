/- Chapter 20 (lattice): the law LatticeLeast, proved. No condition. -/
import Derived.Test.YtdjcdmjnmjhkkaaLF
namespace Go.Proofs.Ytdjcdmjnmjhkkaa.Ch
open Go Go.Proofs Go.Proofs.Ytdjcdmjnmjhkkaa.Sx
set_option linter.unusedVariables false
set_option linter.unusedSimpArgs false

theorem least_ok (t : Int) (a b c : Kn) : FSpec Try.prog 5 [ti t, .agg [.bool a.1, .row tI a.2], .agg [.bool b.1, .row tI b.2], .agg [.bool c.1, .row tI c.2]] [] fun r h' => r = .p (.c (.bool true)) := by
  refine spec_body (Γ := gam gLaw) (gam_ok ⟨awake_ok, good_ok, join_ok, same_ok, top_ok, below_ok, bottom_ok, height_ok, trivial⟩) Try.func5 rfl noLam_ok ?_
  rw [vc_least]
  intro _ _ _
  generalize hn : mx2 (mx2 (a.2.length : Int) (b.2.length : Int)) (c.2.length : Int) = n
  refine cond_of (fun _ => rfl) (fun h60 => cond_of (fun _ => rfl) (fun hga => cond_of (fun _ => rfl) (fun hgb => cond_of (fun _ => rfl) (fun hgc => ?_))))
  have h60 : ¬ (60 < n) := by simpa using h60
  have hga : goodV t n a = true := by simpa using hga
  have hgb : goodV t n b = true := by simpa using hgb
  have hgc : goodV t n c = true := by simpa using hgc
  have hl : a.2.length ≤ 60 ∧ b.2.length ≤ 60 ∧ c.2.length ≤ 60 := by
    unfold mx2 at hn
    split at hn <;> split at hn <;> omega
  obtain ⟨ht, hga⟩ := good_iff.1 hga
  have hgb := (good_iff.1 hgb).2
  have hgc := (good_iff.1 hgc).2
  have hj := join_good ht hga hgb
  have hjl : (joinV t a b).2.length ≤ 100000 := by
    rcases cases_b (joinV t a b).1 with h | h
    · rw [gd_false hj h]; simp
    · have := (hj.1 h).1; omega
  have hgj : goodV t n (joinV t a b) = true := good_iff.2 ⟨ht, hj⟩
  have e : ((a.1, a.2) : Kn) = a := rfl
  have e' : ((b.1, b.2) : Kn) = b := rfl
  have e'' : ((c.1, c.2) : Kn) = c := rfl
  rw [e, e', e'']
  have tail : (a.2.length ≤ 100000 ∧ c.2.length ≤ 100000) ∧ bif !belowV t a c then (SV.p (.c (.bool true)) = SV.p (.c (.bool true))) else (b.2.length ≤ 100000 ∧ c.2.length ≤ 100000) ∧ bif false || !belowV t b c then (SV.p (.c (.bool true)) = SV.p (.c (.bool true))) else
      0 + (joinV t a b).2.length ≤ (joinV t a b).2.length ∧ ((vw (joinV t a b).2 0 (joinV t a b).2.length).length ≤ 100000 ∧ c.2.length ≤ 100000) ∧ SV.p (.c (.bool (false || belowV t ((joinV t a b).1, vw (joinV t a b).2 0 (joinV t a b).2.length) c))) = SV.p (.c (.bool true)) := by
    refine ⟨⟨by omega, by omega⟩, cond_of (fun _ => rfl) (fun h1 => ⟨⟨by omega, by omega⟩, cond_of (fun _ => rfl) (fun h2 => ?_)⟩)⟩
    have h1 : belowV t a c = true := by simpa using h1
    have h2 : belowV t b c = true := by simpa using h2
    rw [vw_all]
    refine ⟨by omega, ⟨hjl, by omega⟩, ?_⟩
    have := below_least ht hga hgb hgc h1 h2
    rw [show (((joinV t a b).1, (joinV t a b).2) : Kn) = joinV t a b from rfl, this]
    rfl
  refine ⟨⟨by omega, by omega⟩, fun _ => cond_of (fun h0 => ?_) (fun _ => tail)⟩
  have h0 : 0 < (joinV t a b).2.length := by simpa using h0
  refine ⟨by omega, by omega, h0, ⟨by omega, by omega⟩, by omega, ?_⟩
  rw [vw_all] at tail ⊢
  rw [show (((joinV t a b).1, (joinV t a b).2) : Kn) = joinV t a b from rfl] at tail ⊢
  rw [hgj]
  exact tail
end Go.Proofs.Ytdjcdmjnmjhkkaa.Ch
