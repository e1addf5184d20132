/- Chapter 11 (code): the law CodeGood, if awake says true: proved. No condition. -/
import Derived.Test.YtkpepieepdmjpaaJ
namespace Go.Proofs.Ytkpepieepdmjpaa.Ch
open Go Go.Proofs Go.Proofs.Ytkpepieepdmjpaa.Sx
set_option linter.unusedVariables false
set_option linter.unusedSimpArgs false

theorem good_at {p : Pro} (h : goodV p = true) {i : Ins} (hi : i ∈ p.code) : ∃ k : Int, isGoodV p i k = true := by
  unfold goodV at h
  rw [Bool.and_eq_true] at h
  obtain ⟨j, hj, rfl⟩ := List.getElem_of_mem hi
  have := List.all_eq_true.1 h.2 j (List.mem_range.2 hj)
  rw [getD_at hj] at this
  exact ⟨_, this⟩
theorem isgood_rw {p : Pro} {i : Ins} {k : Int} (h : isGoodV p i k = true) : ∀ r ∈ rwV i, badR (encP p) r = false := by
  unfold isGoodV at h
  simp only [Bool.and_eq_true, Bool.not_eq_true'] at h
  intro r hr
  unfold rwV at hr
  rcases List.mem_append.1 hr with hr | hr
  · have := List.any_eq_false.1 h.2.1 r hr
    simpa using this
  · have := List.any_eq_false.1 h.2.2.1 r hr
    simpa using this
theorem badR_f {p : Pro} {r : Int} (h : badR (encP p) r = false) : 0 ≤ r ∧ r < p.regs := by
  unfold badR at h
  rw [Bool.or_eq_false_iff, decide_eq_false_iff_not, decide_eq_false_iff_not] at h
  have h2 : ¬ p.regs ≤ r := h.2
  exact ⟨by omega, by omega⟩
theorem good_regs {p : Pro} (h : goodV p = true) : 0 ≤ p.regs ∧ p.regs ≤ 65536 := by
  unfold goodV at h
  simp only [Bool.and_eq_true, Bool.not_eq_true', Bool.or_eq_false_iff, Bool.not_eq_false'] at h
  have h1 := h.1.2.2.1
  unfold cntV at h1
  simp only [List.all_cons, List.all_nil, Bool.and_true, Bool.not_eq_true', Bool.or_eq_false_iff, decide_eq_false_iff_not] at h1
  omega
theorem good_cnt {p : Pro} (h : cntV [p.regs] = false) : goodV p = false := by
  unfold goodV
  rw [h]
  simp
theorem good_last {p : Pro} (h : endsV (lastI p) = false) : goodV p = false := by
  unfold goodV
  rw [h]
  simp
theorem lgood_of (hA : ∀ args h Q, awake_t args h Q → FSpec Try.prog 6 args h Q) (p : Pro) : FSpec Try.prog 3 [.agg (toCV tPro p)] [] (fun r h' => r = .p (tb true)) := by
  refine spec_body (Γ := gam [(6, [], awake_t), (8, [], good_t)]) (Λ := lam [(0, ga_l), (2, gb_l)]) (gam_ok ⟨hA, good_ok, trivial⟩) Try.func3 rfl (lokl (l := [(0, lp Try.f3 0), (2, lp Try.f3 1)]) ⟨lam_ok (fun p Q hs ⟨a1, a2⟩ => ga_step p Q hs a1 a2), lam_ok (fun p Q hs a1 => gb_step p Q hs a1), trivial⟩) ?_
  show body Try.prog (gam [(6, [], awake_t), (8, [], good_t)]) (lam [(0, ga_l), (2, gb_l)]) Try.f3 [.agg (toCV tPro p)] [] _
  rw [vc_lgood]
  intro _
  refine cond_of (fun _ => rfl) (fun hbig => ?_)
  have hlen : p.code.length ≤ 60 := by
    rw [Bool.or_eq_false_iff, Bool.or_eq_false_iff] at hbig
    have h1 : ¬ (60 : Int) < (p.code.length : Int) := of_decide_eq_false hbig.1.1
    omega
  refine ⟨p, rfl, hlen, fun hg => ?_, rfl⟩
  have hsm : ∀ i ∈ p.code, smallI i := fun i hi => great_small (hg i hi)
  refine ⟨⟨Nat.le_trans hlen (by decide), hsm⟩, cond_of (fun _ => rfl) (fun hgood => ?_)⟩
  have hgood : goodV p = true := by simpa using hgood
  have hall : AllIn p := fun i hi r hr => by
    obtain ⟨k, hk⟩ := good_at hgood hi
    exact badR_f (isgood_rw hk r hr)
  have hregs := good_regs hgood
  refine ⟨p, rfl, ⟨hlen, hsm, hall, hregs.2⟩, fun top ht htl => ?_⟩
  have ew : IntKind.i64.wrap (top - 1) = top - 1 := w64 (by have := ht.1; omega) (by omega)
  rw [ew]
  have hl' : List.length p.2.2.2.2.2.2.1 ≤ 60 := hlen
  have hv : vw p.2.2.2.2.2.2.1 0 (List.length p.2.2.2.2.2.2.1) = p.code := vw_all p.code
  rw [hv]
  have hln : (p.code ++ [nopI]).length = p.code.length + 1 := by simp
  have hln' : ∀ x : Ins, (p.code ++ [x]).length = p.code.length + 1 := fun x => by simp
  have hq : goodV (p.1, p.2.1, p.2.2.1, p.2.2.2.1, p.2.2.2.2.1, top - 1, p.2.2.2.2.2.2) = false := by
    rcases ht.2 with h0 | ⟨i, hi, r, hr, he⟩
    · exact good_cnt (by subst h0; rfl)
    · rw [← Bool.not_eq_true]
      intro hh
      obtain ⟨k, hk⟩ := good_at hh (i := i) hi
      have := (badR_f (isgood_rw hk r hr)).2
      have : r < top - 1 := this
      omega
  have hcond : (decide (top > 0) || decide (top - 1 < 0)) = true := by
    rw [Bool.or_eq_true, decide_eq_true_eq, decide_eq_true_eq]
    omega
  have hva : ∀ x : Ins, vw (p.code ++ [x]) 0 (p.code ++ [x]).length = p.code ++ [x] := fun x => vw_all _
  rw [hva]
  have hr : goodV (p.1, p.2.1, p.2.2.1, p.2.2.2.1, p.2.2.2.2.1, p.2.2.2.2.2.1, p.code ++ [nopI], p.2.2.2.2.2.2.2) = false := by
    refine good_last ?_
    have : lastI (p.1, p.2.1, p.2.2.1, p.2.2.2.1, p.2.2.2.2.1, p.2.2.2.2.2.1, p.code ++ [nopI], p.2.2.2.2.2.2.2) = nopI := by
      unfold lastI
      show List.getD (p.code ++ [nopI]) ((p.code ++ [nopI]).length - 1) tIns.dft = nopI
      rw [hln, List.getD_eq_getElem?_getD, Nat.add_sub_cancel, List.getElem?_append_right (Nat.le_refl _), Nat.sub_self]
      rfl
    rw [this]
    decide
  refine ⟨Nat.le_refl _, by omega, Nat.le_refl _, by omega, by rw [hln']; show (p.code.length + 1) * 224 ≤ _; omega, ⟨Nat.le_trans hlen (by decide), hsm⟩, cond_of (fun _ => ⟨by omega, ⟨?_, ?_⟩, ?_⟩) (fun hbad => ?_)⟩
  · show (p.code ++ [nopI]).length ≤ 1000
    rw [hln]; omega
  · intro i hi
    have hi : i ∈ p.code ++ [nopI] := hi
    rcases List.mem_append.1 hi with hi | hi
    · exact hsm i hi
    · rw [List.mem_singleton] at hi
      subst hi
      exact ⟨by decide, by decide⟩
  · show SV.p (tb (true && !goodV (p.1, p.2.1, p.2.2.1, p.2.2.2.1, p.2.2.2.2.1, p.2.2.2.2.2.1, p.code ++ [nopI], p.2.2.2.2.2.2.2))) = SV.p (tb true)
    rw [hr]; rfl
  · exfalso
    have hbad : ((!goodV (p.1, p.2.1, p.2.2.1, p.2.2.2.1, p.2.2.2.2.1, top - 1, p.2.2.2.2.2.2)) == (decide (top > 0) || decide (top - 1 < 0))) = false := hbad
    rw [hq, hcond] at hbad
    exact absurd hbad (by decide)
end Go.Proofs.Ytkpepieepdmjpaa.Ch
