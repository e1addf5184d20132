/- Chapter 21 (solve): isBlock, Good, proved. No condition. -/
import Derived.Test.YtloiimhmmcheoaaMCV
namespace Go.Proofs.Ytloiimhmmcheoaa.Ch
open Go Go.Proofs Go.Proofs.Ytloiimhmmcheoaa.Sx
set_option linter.unusedVariables false
set_option linter.unusedSimpArgs false

theorem gokIB : GOK Try.prog (gam gIB) := gam_ok ⟨cabad_ok, cway_ok, trivial⟩
theorem ib_loop (p : Pb) (b : Nat) (E : List (List Ac)) (hm : E.length ≤ maxI) (Q : Exit → SS → Prop) (h1 : edgesB p.2.2.2.2.2.1 p.2.2.2.2.2.2 E = false → Q .ret (⟨62, [(4, .p (tb false))], []⟩ : SS)) (h2 : edgesB p.2.2.2.2.2.1 p.2.2.2.2.2.2 E = true → Q (.exit 0) (stIBX p b)) : W 0 Try.prog (.loop (lp Try.f21 0)) (stIB p b E 0) Q := by
  refine W_loopE (N := 0) (P := Try.prog) (body := lp Try.f21 0) (Q := Q) (fun i : Nat => stIB p b E i) (fun i => i ≤ E.length ∧ edgesB p.2.2.2.2.2.1 p.2.2.2.2.2.2 (E.take i) = true) (fun i => E.length - i) [1, 2, 5, 6, 34, 35, 36] [1, 2, 5, 6] [4] (fun i ⟨hi, ht⟩ => ?_) 0 ⟨Nat.zero_le _, rfl⟩
  refine sx_ok (Λ := noLam) gokIB _ 0 _ _ noLam_ok ?_
  rw [vc_ibl]
  simp only [maxI] at hm
  refine cond_of (fun hc => ?_) (fun hc => ?_)
  · have hc : i < E.length := by simpa using hc
    have ei : IntKind.i64.wrap ((i : Int) + 1) = ((i + 1 : Nat) : Int) := w64n (n := i + 1) (by omega)
    rw [ei, Int.toNat_natCast, getD_at hc]
    refine ⟨by omega, by omega, hc, cond_of (fun hb => ?_) (fun hb => ?_)⟩
    · refine h1 ?_
      unfold edgesB
      rw [List.all_eq_false]
      exact ⟨_, List.getElem_mem hc, by rw [hb]; simp⟩
    · refine ⟨i + 1, rfl, ⟨hc, ?_⟩, by omega⟩
      unfold edgesB at ht ⊢
      rw [List.take_succ_eq_append_getElem hc, List.all_append, ht, List.all_cons, List.all_nil, hb]; rfl
  · have hc : ¬ (i < E.length) := by simpa using hc
    rw [List.take_of_length_le (by omega)] at ht
    exact h2 ht
theorem isBlock_ok : ∀ args h Q, isBlock_t args h Q → FSpec Try.prog 21 args h Q := trH_ok fun ((p, b, _) : Pb × Int × Unit) _ Q ⟨⟨hb0, hb1, ha, he⟩, h⟩ => by
  dsimp only at hb0 hb1 ha he h
  have hb0 : (0 : Int) ≤ b := hb0
  have hb1 : b < (p.1.length : Int) := hb1
  obtain ⟨k, rfl⟩ : ∃ k : Nat, b = k := ⟨b.toNat, by omega⟩
  rw [Int.toNat_natCast] at h
  have hk : k < p.1.length := by omega
  refine spec_body (Λ := lam [(0, ib_l)]) gokIB Try.func21 rfl ?_ ?_
  · exact lokl (l := [(0, lp Try.f21 0)]) ⟨lam_ok fun x Q a1 ⟨a2, a3⟩ => ib_loop x.1 x.2.1 x.2.2 a1 Q a2 a3, trivial⟩
  show body Try.prog (gam gIB) (lam [(0, ib_l)]) Try.f21 [.agg (toCV tPb p), ti k] [] _
  rw [vc_ib, Int.toNat_natCast]
  unfold isBlockV at h
  generalize hE : p.2.2.1.getD k [] = E at h ⊢
  generalize hN : p.1.getD k [] = N at h ⊢
  refine ⟨by omega, by omega, by omega, fun hm => ⟨fun _ => ⟨by omega, by omega, trivial⟩, fun _ => ⟨hk, trivial⟩, cond_of (fun hc => ?_) (fun hc => ⟨by omega, by omega, by omega, fun _ => ⟨(p, k, E), rfl, hm, fun hf => ?_, fun hf => ?_⟩⟩)⟩⟩
  · have e : (decide (E.length = 0) || decide (E.length = N.length)) = false := by
      simp only [Bool.and_eq_true, bne_iff_ne, ne_eq] at hc
      simp only [Bool.or_eq_false_iff, decide_eq_false_iff_not]
      omega
    rw [e] at h; exact h
  all_goals
    have e : (decide (E.length = 0) || decide (E.length = N.length)) = true := by
      simp only [Bool.and_eq_false_iff, bne_eq_false_iff_eq] at hc
      simp only [Bool.or_eq_true, decide_eq_true_eq]
      omega
    rw [e, Bool.true_and] at h
  · have hf : edgesB p.2.2.2.2.2.1 p.2.2.2.2.2.2 E = false := hf
    rw [hf] at h; exact h
  · have hf : edgesB p.2.2.2.2.2.1 p.2.2.2.2.2.2 E = true := hf
    rw [hf, Bool.true_and] at h
    dsimp only
    rw [Int.toNat_natCast, hN]
    refine ⟨by omega, by omega, by omega, fun _ => ⟨by omega, by omega, trivial⟩, fun _ => ⟨hk, trivial⟩, cond_of (fun hb => ?_) (fun hb => ?_)⟩
    · rw [hb] at h; exact h
    · rw [hb] at h; exact h
theorem gokG : GOK Try.prog (gam gG) := gam_ok ⟨good_ok, cout_ok, isBlock_ok, trivial⟩
theorem g_loop (p : Pb) (hm : p.1.length ≤ maxI) (ha : p.2.1.length = p.1.length) (he : p.2.2.1.length = p.1.length) (Q : Exit → SS → Prop) (h1 : (List.range p.1.length).all (isBlockV p) = false → Q .ret (⟨53, [(2, .p (tb false))], []⟩ : SS)) (h2 : (List.range p.1.length).all (isBlockV p) = true → Q (.exit 0) (⟨53, [], []⟩ : SS)) : W 0 Try.prog (.loop (lp Try.f8 0)) (stG p p.1.length 0) Q := by
  refine W_loopE (N := 0) (P := Try.prog) (body := lp Try.f8 0) (Q := Q) (fun i : Nat => stG p p.1.length i) (fun i => i ≤ p.1.length ∧ ∀ j, j < i → isBlockV p j = true) (fun i => p.1.length - i) [1, 44, 45] [] [2] (fun i ⟨hi, ht⟩ => ?_) 0 ⟨Nat.zero_le _, fun j h => by omega⟩
  refine sx_ok (Λ := noLam) gokG _ 0 _ _ noLam_ok ?_
  rw [vc_gl]
  simp only [maxI] at hm
  refine cond_of (fun hc => ?_) (fun hc => ?_)
  · have hc : i < p.1.length := by simpa using hc
    have ei : IntKind.i64.wrap ((i : Int) + 1) = ((i + 1 : Nat) : Int) := w64n (n := i + 1) (by omega)
    rw [ei, Int.toNat_natCast]
    refine ⟨⟨by show (0 : Int) ≤ i; omega, by show (i : Int) < (p.1.length : Int); omega, ha, he⟩, cond_of (fun hb => ?_) (fun hb => ?_)⟩
    · refine h1 ?_
      rw [List.all_eq_false]
      exact ⟨i, List.mem_range.2 hc, by simpa using hb⟩
    · refine ⟨i + 1, rfl, ⟨hc, fun j hj => ?_⟩, by omega⟩
      by_cases hji : j = i
      · subst hji; simpa using hb
      · exact ht j (by omega)
  · have hc : ¬ (i < p.1.length) := by simpa using hc
    exact h2 (List.all_eq_true.2 fun j hj => ht j (by have := List.mem_range.1 hj; omega))
theorem goodP_ok : ∀ args h Q, goodP_t args h Q → FSpec Try.prog 8 args h Q := trH_ok fun ((p, _) : Pb × Unit) _ Q h => by
  dsimp only at h
  refine spec_body (Λ := lam [(0, g_l)]) gokG Try.func8 rfl ?_ ?_
  · exact lokl (l := [(0, lp Try.f8 0)]) ⟨lam_ok fun x Q ⟨a1, a2, a3⟩ ⟨b1, b2⟩ => g_loop x a1 a2 a3 Q b1 b2, trivial⟩
  show body Try.prog (gam gG) (lam [(0, g_l)]) Try.f8 [.agg (toCV tPb p)] [] _
  rw [vc_g]
  unfold goodP numsB at h
  intro hm
  refine cond_of (fun hc => ?_) (fun hc => cond_of (fun hd => ?_) (fun hd => cond_of (fun hs => ?_) (fun hs => ⟨p, rfl, ⟨hm, ?_, ?_⟩, fun hb => ?_, fun hb => ?_⟩)))
  · have e : (decide (0 ≤ p.2.2.2.2.2.2) && decide (p.2.2.2.2.2.2 ≤ 65536)) = false := by
      simp only [Bool.or_eq_true, decide_eq_true_eq] at hc
      simp only [Bool.and_eq_false_iff, decide_eq_false_iff_not]
      omega
    rw [e] at h; exact h
  all_goals
    have e : (decide (0 ≤ p.2.2.2.2.2.2) && decide (p.2.2.2.2.2.2 ≤ 65536)) = true := by
      simp only [Bool.or_eq_false_iff, decide_eq_false_iff_not] at hc
      simp only [Bool.and_eq_true, decide_eq_true_eq]
      omega
    rw [e, Bool.true_and] at h
  · have e2 : (goodV p.2.2.2.2.2.1 p.2.2.2.2.2.2 p.2.2.2.2.1 && (decide (p.2.1.length = p.1.length) && decide (p.2.2.1.length = p.1.length))) = false := by
      simp only [Bool.or_eq_true, Bool.false_or, Bool.not_eq_true', bne_iff_ne, ne_eq] at hd
      simp only [Bool.and_eq_false_iff, decide_eq_false_iff_not]
      rcases hd with (hd | hd) | hd
      · exact .inl hd
      · exact .inr (.inl (by omega))
      · exact .inr (.inr (by omega))
    rw [e2] at h; exact h
  all_goals
    simp only [Bool.or_eq_false_iff, Bool.false_or, Bool.not_eq_false', bne_eq_false_iff_eq] at hd
    obtain ⟨⟨g1, g2⟩, g3⟩ := hd
    have g1 : goodV p.2.2.2.2.2.1 p.2.2.2.2.2.2 p.2.2.2.2.1 = true := by simpa using g1
    rw [g1, decide_eq_true (p := p.2.1.length = p.1.length) (by omega), decide_eq_true (p := p.2.2.1.length = p.1.length) (by omega), Bool.true_and, Bool.true_and, Bool.true_and] at h
  · rw [hs] at h; exact h
  · omega
  · omega
  · rw [hs, hb] at h; exact h
  · rw [hs, hb] at h; exact h
end Go.Proofs.Ytloiimhmmcheoaa.Ch
