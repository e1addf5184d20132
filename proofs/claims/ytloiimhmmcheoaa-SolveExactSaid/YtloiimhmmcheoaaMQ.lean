/- Chapter 21 (solve): awake; the laws SolveAgrees, SolveMeter, proved. No condition. -/
import Derived.Test.YtloiimhmmcheoaaMPV
namespace Go.Proofs.Ytloiimhmmcheoaa.Ch
open Go Go.Proofs Go.Proofs.Ytloiimhmmcheoaa.Sx
set_option linter.unusedVariables false
set_option linter.unusedSimpArgs false

theorem solve_spec (p : Pb) (u l : Int) (Q : SV → List HB → Prop) (hm : mOk u l) (hsz : sizeP p) (hA : goodP p = false → Q (.tup [.c .nils, ti 1]) (mtH u l))
    (hB : goodP p = true → (u + stepsV p ≤ l → Q (.tup [.c (.row tKn (factsV p)), ti 0]) (mtH (u + stepsV p) l ++ [.gone])) ∧ (l < u + stepsV p → Q (.tup [.c .nils, ti 18]) (mtH l l))) :
    FSpec Try.prog 9 [.agg (toCV tPb p), .c (.ptr 0 0)] (mtH u l) Q := solve_ok _ _ Q (show solve_t [.agg (toCV tPb p), .c (.ptr 0 0)] (mtH u l) Q from ⟨⟨hm, hsz⟩, hA, hB⟩)
theorem solveG_ok : ∀ args h Q, solveG_t args h Q → FSpec Try.prog 9 args h Q := trH_ok fun ((p, _) : Pb × Unit × Unit) (((u, l, _), _) : (Int × Int × Unit) × Unit) Q ⟨⟨hP, hm, hl⟩, h⟩ => by
  dsimp only at hP hm hl h
  refine solve_spec p u l Q hm ⟨hP.2.1, hP.2.2.1, hP.2.2.2.1, hP.2.2.2.2⟩ (fun hg => ?_) (fun _ => ⟨fun _ => h, fun hc => ?_⟩)
  · rw [hP.1] at hg; cases hg
  · exfalso; have hl : u + (stepsV p : Int) ≤ l := hl; omega
theorem factsA : factsV pA = [(true, [3])] := by decide
theorem stepsA : stepsV pA = 2 := by decide
theorem solveA_ok : ∀ args h Q, solveA_t args h Q → FSpec Try.prog 9 args h Q := trH_ok fun ((p, _) : Pb × Unit × Unit) (((u, l, _), _) : (Int × Int × Unit) × Unit) Q ⟨⟨he, hu, h0, hl⟩, h1, h2⟩ => by
  dsimp only at he hu h0 hl h1 h2
  have hu : u = 0 := hu
  have h0 : 0 ≤ l := h0
  have hl : l ≤ 1000 := hl
  subst he hu
  refine solve_spec pA 0 l Q ⟨Int.le_refl _, h0, by omega⟩ ⟨by decide, by decide, by decide, by decide⟩ (fun hg => by rw [show goodP pA = true by decide] at hg; cases hg) (fun _ => ?_)
  rw [factsA, stepsA]
  exact ⟨fun hc => h1 (by show (2 : Int) ≤ l; omega), fun hc => h2 (by show l < (2 : Int); omega)⟩
theorem gokAwk : GOK Try.prog (gam gAwk) := gam_ok ⟨goodP_ok, orNil2_ok solve0_ok solveA_ok, budget_ok, trivial⟩
theorem awake_ok : ∀ args h Q, awake_t args h Q → FSpec Try.prog 6 args h Q := trH_ok fun _ _ Q h => by
  refine spec_body gokAwk Try.func6 rfl noLam_ok ?_
  show body Try.prog (gam gAwk) noLam Try.f6 [] [] _
  rw [vc_awake]
  have a1 : (0 : Int) ≤ mx2 10 0 := by decide
  have a2 : mx2 10 0 ≤ (1000 : Int) := by decide
  have a3 : ¬ (mx2 10 0 < (2 : Int)) := by decide
  have b1 : (0 : Int) ≤ mx2 0 0 := by decide
  have b2 : mx2 0 0 ≤ (1000 : Int) := by decide
  have b3 : ¬ ((2 : Int) ≤ mx2 0 0) := by decide
  have one : (1 : Nat) ≤ 1 := Nat.le_refl _
  refine ⟨one, one, Nat.le_refl _, one, one, one, one, one, ⟨rfl, rfl, a1, a2⟩, fun _ => ⟨⟨rfl, rfl, b1, b2⟩, fun c => absurd c b3, fun _ => ?_⟩, fun c => absurd c a3⟩
  have x1 : true = true → (0 : Int) ≤ 0 ∧ (0 : Int) < ((1 : Nat) : Int) ∧ True := fun _ => ⟨by omega, by omega, trivial⟩
  have x2 : true = true → 0 < 1 ∧ True := fun _ => ⟨by omega, trivial⟩
  exact ⟨x1, x2, x1, x2, x1, x2, x1, x2, h⟩
/-! ### SolveAgrees -/
theorem gokAg : GOK Try.prog (gam gAg) := gam_ok ⟨awake_ok, great_ok, goodP_ok, solveG_ok, budget_ok, agrees_ok, good_ok, below_ok, trivial⟩
theorem lag_0 (p : Pb) (G F : List Kn) (hl : G.length ≤ 20) (Q : Exit → SS → Prop) (h1 : Q .ret (⟨88, [(4, .p (tb true))], []⟩ : SS)) (h2 : (∀ f ∈ G, goodV (pTag p) (pN p) f = true) → Q (.exit 0) (stLX p G F)) : W 0 Try.prog (.loop (lp Try.f3 0)) (stL0 p G F 0) Q := by
  refine W_all (stL0 p G F) G.length (fun i => goodV (pTag p) (pN p) (G.getD i tKn.dft) = true) [1, 2, 5, 7] [1, 2, 5] [4] (fun i hi ho K hK => ?_)
  refine sx_ok (Λ := noLam) gokAg _ 0 _ _ noLam_ok ?_
  rw [vc_l0]
  intro _
  refine cond_of (fun hc => ?_) (fun hc => ?_)
  · have hc : i < G.length := by simpa using hc
    have ei : IntKind.i64.wrap ((i : Int) + 1) = ((i + 1 : Nat) : Int) := w64n (n := i + 1) (by omega)
    rw [ei, Int.toNat_natCast]
    refine ⟨by omega, by omega, hc, cond_of (fun _ => h1) (fun hb => hK hc ?_)⟩
    have hb : (!goodV (pTag p) (pN p) (G.getD i tKn.dft)) = false := hb
    simpa using hb
  · have hc : ¬ i < G.length := by simpa using hc
    refine h2 (fun f hf => ?_)
    obtain ⟨j, hj, rfl⟩ := List.getElem_of_mem hf
    have := ho j (by omega)
    rwa [getD_at hj] at this
theorem lag_2 (p : Pb) (G F : List Kn) (hP : smallP p) (hG : factOk p G) (hF : factOk p F) (hle : LeF (pTag p) F G) (Q : Exit → SS → Prop) (h1 : Q (.exit 2) (⟨88, [], []⟩ : SS)) : W 0 Try.prog (.loop (lp Try.f3 1)) (stL2 p G F 0) Q := by
  obtain ⟨hg, hl, hn, hsl, hnl⟩ := hP
  obtain ⟨k, hp⟩ := goodP_gp hg
  have hk : k ≤ 20 := by have := hp.hn; omega
  have hlG := hG.1
  have hlF := hF.1
  refine W_all (stL2 p G F) F.length (fun i => True) [1, 2, 5, 8] [] [4] (fun i hi ho K hK => ?_)
  refine sx_ok (Λ := noLam) gokAg _ 2 _ _ noLam_ok ?_
  rw [vc_l2]
  intro _
  refine cond_of (fun hc => ?_) (fun hc => h1)
  have hc : i < F.length := by simpa using hc
  have ei : IntKind.i64.wrap ((i : Int) + 1) = ((i + 1 : Nat) : Int) := w64n (n := i + 1) (by omega)
  rw [ei, Int.toNat_natCast]
  refine ⟨by omega, by omega, hc, by omega, by omega, by omega, ⟨(fact_small hp hk hF (i := i) (by omega)).2, (fact_small hp hk hG (i := i) (by omega)).2⟩, cond_of (fun hb => ?_) (fun _ => hK hc trivial)⟩
  have hb : (!belowV (pTag p) (F.getD i (false, [])) (G.getD i (false, []))) = true := hb
  rw [hle i] at hb; cases hb
theorem agrees_law (p : Pb) (G : List Kn) : FSpec Try.prog 3 [.agg (toCV tPb p), .c (.row tKn G)] [] fun r h' => r = .p (.c (.bool true)) := by
  refine spec_body (Λ := lam [(0, l0_l), (2, l2_l)]) gokAg Try.func3 rfl (lokl (l := [(0, lp Try.f3 0), (2, lp Try.f3 1)]) ⟨lam_ok fun x Q b1 ⟨b2, b3⟩ => lag_0 x.1 x.2.1 x.2.2 b1 Q b2 b3, lam_ok fun x Q ⟨b1, b2, b3, b4⟩ b5 => lag_2 x.1 x.2.1 x.2.2 b1 b2 b3 b4 Q b5, trivial⟩) ?_
  show body Try.prog (gam gAg) (lam [(0, l0_l), (2, l2_l)]) Try.f3 [.agg (toCV tPb p), .c (.row tKn G)] [] _
  rw [vc_lag]
  intro r hr
  refine cond_of (fun _ => rfl) (fun hrf => cond_of (fun _ => rfl) (fun hc => ?_))
  have hgr := hr hrf
  simp only [Bool.or_eq_false_iff, Bool.not_eq_false', decide_eq_false_iff_not] at hc
  obtain ⟨⟨_, hg⟩, hG20⟩ := hc
  have hP : smallP p := ⟨hg, hgr.1, hgr.2.1, hgr.2.2.1, hgr.2.2.2⟩
  obtain ⟨hfo, hag, hle, hst, hs8⟩ := solve_agr hP
  have em : mx2 65536 0 = (65536 : Int) := by decide
  rw [em]
  refine ⟨⟨hP, ⟨by omega, by omega, by omega⟩, by show (0 : Int) + (stepsV p : Int) ≤ 65536; omega⟩, cond_of (fun hc => ?_) (fun _ => ⟨⟨hP, hfo⟩, fun q hq => cond_of (fun hc => ?_) (fun _ => fun _ _ => cond_of (fun _ => rfl) (fun hlen => ⟨(p, G, factsV p), rfl, by show G.length ≤ 20; omega, rfl, fun hgG => ?_⟩))⟩)⟩
  · exfalso
    have hl := hfo.1
    have hl' : (factsV p).length = List.length p.fst := hl
    rw [hl'] at hc
    simp at hc
  · exfalso
    rw [hq.2 hag] at hc; cases hc
  · have hgG : ∀ f ∈ G, goodV (pTag p) (pN p) f = true := hgG
    have hlen : G.length = (factsV p).length := Int.ofNat.inj (by simpa using hlen)
    have hfG : factOk p G := ⟨by rw [hlen]; exact hfo.1, fun f hf => (good_iff.1 (hgG f hf)).2⟩
    refine ⟨⟨hP, hfG⟩, fun q2 hq2 => cond_of (fun _ => rfl) (fun hc => ⟨(p, G, factsV p), rfl, ⟨hP, hfG, hfo, hle G hfG (hq2.1 ?_)⟩, rfl⟩)⟩
    simpa using hc
/-! ### SolveMeter -/
theorem gokMe : GOK Try.prog (gam gMe) := gam_ok ⟨awake_ok, great_ok, goodP_ok, solve_ok, budget_ok, orNil_ok used0_ok used_ok, facts_ok, trivial⟩
theorem meter_law (p : Pb) (n : Int) : FSpec Try.prog 4 [.agg (toCV tPb p), ti n] [] fun r h' => r = .p (.c (.bool true)) := by
  refine spec_body gokMe Try.func4 rfl noLam_ok ?_
  show body Try.prog (gam gMe) noLam Try.f4 [.agg (toCV tPb p), ti n] [] _
  rw [vc_lme]
  intro r hr
  refine cond_of (fun _ => rfl) (fun hrf => cond_of (fun _ => rfl) (fun hc => ?_))
  have hgr := hr hrf
  simp only [Bool.false_or, Bool.not_eq_false'] at hc
  have hg : goodP p = true := hc
  have hP : smallP p := ⟨hg, hgr.1, hgr.2.1, hgr.2.2.1, hgr.2.2.2⟩
  have hsz : sizeP p := hgr
  obtain ⟨hfo, hag, hle, hst, hs8⟩ := solve_agr hP
  have em : mx2 65536 0 = (65536 : Int) := by decide
  rw [em]
  have nog : ∀ {X : Prop}, goodP p = false → X := fun h => by rw [hg] at h; cases h
  generalize hs : stepsV p = s at *
  have ew : IntKind.i64.wrap (2 * (0 + (s : Int))) = 0 + (s : Int) + (s : Int) := by rw [w64 (by omega) (by omega)]; omega
  have ea : IntKind.i64.wrap (0 + (s : Int) + 2) = (s : Int) + 2 := by rw [w64 (by omega) (by omega)]; omega
  have eu : IntKind.u64.wrap ((s : Int) + 2) = (s : Int) + 2 := w64u (by omega) (by omega)
  rw [ea, eu, ew]
  have hu : 0 ≤ IntKind.u64.wrap n := by rw [IntKind.wrap_u64]; omega
  have hm : 0 ≤ (IntKind.u64.wrap n).tmod ((s : Int) + 2) ∧ (IntKind.u64.wrap n).tmod ((s : Int) + 2) < (s : Int) + 2 := ⟨Int.tmod_nonneg _ hu, Int.tmod_lt_of_pos _ (by omega)⟩
  generalize (IntKind.u64.wrap n).tmod ((s : Int) + 2) = k at hm ⊢
  obtain ⟨hk0, hk1⟩ := hm
  have ek : IntKind.i64.wrap k = k := w64 (by omega) (by omega)
  rw [ek]
  have emk : mx2 k 0 = k := by unfold mx2; split <;> omega
  rw [emk]
  have m0 : mOk 0 65536 := ⟨by omega, by omega, by omega⟩
  refine ⟨⟨m0, hsz⟩, fun h => nog h, fun _ => ⟨fun h1 => ⟨⟨⟨by omega, by omega, by omega⟩, hsz⟩, fun h => nog h, fun _ => ⟨fun h2 => ?_, fun h2 => ?_⟩⟩, fun h1 => ?_⟩⟩
  · refine cond_of (fun hx => ?_) (fun _ => cond_of (fun hx => ?_) (fun _ => ⟨by omega, ⟨⟨by omega, by omega, by omega⟩, hsz⟩, fun h => nog h, fun _ => ⟨fun h3 => ?_, fun h3 => ?_⟩⟩))
    · exfalso; simp at hx
    · exfalso; simp at hx
    · have h3 : (0 : Int) + (s : Int) ≤ k := h3
      refine cond_of (fun hx => ?_) (fun _ => cond_of (fun _ => cond_of (fun _ => rfl) (fun hx => ?_)) (fun hx => ?_))
      · exfalso; have := of_decide_eq_true hx; omega
      · exfalso; simp at hx
      · exfalso; simp at hx
    · have h3 : k < (0 : Int) + (s : Int) := h3
      refine cond_of (fun _ => ?_) (fun hx => ?_)
      · show SV.p (PV.c (CV.bool (true && decide (k ≤ k)))) = _
        rw [decide_eq_true (Int.le_refl k)]; rfl
      · exfalso; have := of_decide_eq_false hx; omega
  · exfalso; have h2 : (65536 : Int) < 0 + (s : Int) + (s : Int) := h2; omega
  · exfalso; have h1 : (65536 : Int) < 0 + (s : Int) := h1; omega
end Go.Proofs.Ytloiimhmmcheoaa.Ch
