/- Chapter 21 (solve): the reference's Good, proved. No condition. -/
import Derived.Test.YtloiimhmmcheoaaMTV
namespace Go.Proofs.Ytloiimhmmcheoaa.Ch
open Go Go.Proofs Go.Proofs.Ytloiimhmmcheoaa.Sx
set_option linter.unusedVariables false
set_option linter.unusedSimpArgs false

theorem gokU : GOK Try.prog (gam gU) := gam_ok ⟨qgood_ok, ract_ok, trivial⟩
theorem u0_loop (p : Pb) (Q : Exit → SS → Prop) (h1 : (pStart p).any (outB (pNext p).length) = false → Q (.exit 0) (stU0 p)) (h2 : (pStart p).any (outB (pNext p).length) = true → Q .ret stUR) : W 0 Try.prog (.loop (lp Try.f16 0)) (stU1 p 4 0) Q := by
  refine W_all (stU1 p 4) (pStart p).length (fun i => outB (pNext p).length ((pStart p).getD i 0) = false) [1, 3, 4] [1, 3] [2] (fun i hi ho K hK => ?_)
  refine sx_ok (Λ := noLam) gokU _ 0 _ _ noLam_ok ?_
  rw [vc_u0]
  intro hm
  have hm : (pStart p).length ≤ maxI := hm
  simp only [maxI] at hm
  refine cond_of (fun hc => ?_) (fun hc => ?_)
  · have hc : i < (pStart p).length := by simpa using hc
    have ei : IntKind.i64.wrap ((i : Int) + 1) = ((i + 1 : Nat) : Int) := w64n (n := i + 1) (by omega)
    rw [ei, Int.toNat_natCast]
    have hi0 : (0 : Int) ≤ (i : Int) := by omega
    have hi1 : (i : Int) < ((pStart p).length : Int) := by omega
    exact ⟨hi0, hi1, hc, fun _ => ⟨hi0, hi1, trivial⟩, fun _ => ⟨hc, trivial⟩, cond_of (fun hb => h2 (any_some 0 hc hb)) (fun hb => hK hc hb)⟩
  · have hc : ¬ i < (pStart p).length := by simpa using hc
    exact h1 (any_none 0 (fun j hj => ho j (by omega)))
theorem u4_loop (p : Pb) (b : Nat) (hb : b < (pNext p).length) (Q : Exit → SS → Prop) (h1 : ((pNext p).getD b []).any (outB (pNext p).length) = false → Q (.exit 4) (stU1 p 5 b)) (h2 : ((pNext p).getD b []).any (outB (pNext p).length) = true → Q .ret stUR) : W 0 Try.prog (.loop (lpIn (lp Try.f16 1) 2 0)) (stU2 p b 6 0) Q := by
  refine W_all (stU2 p b 6) ((pNext p).getD b []).length (fun i => outB (pNext p).length (((pNext p).getD b []).getD i 0) = false) [1, 3, 5, 6] [1, 3, 5] [2] (fun i hi ho K hK => ?_)
  refine sx_ok (Λ := noLam) gokU _ 4 _ _ noLam_ok ?_
  rw [vc_u4]
  rw [Int.toNat_natCast]
  have hb0 : (0 : Int) ≤ (b : Int) := by omega
  have hb1 : (b : Int) < ((pNext p).length : Int) := by omega
  refine ⟨hb0, hb1, hb, fun hm => cond_of (fun hc => ?_) (fun hc => ?_)⟩
  · have hm : ((pNext p).getD b []).length ≤ maxI := hm
    simp only [maxI] at hm
    have hc : i < ((pNext p).getD b []).length := by simpa using hc
    have ei : IntKind.i64.wrap ((i : Int) + 1) = ((i + 1 : Nat) : Int) := w64n (n := i + 1) (by omega)
    rw [ei, Int.toNat_natCast]
    have hi0 : (0 : Int) ≤ (i : Int) := by omega
    have hi1 : (i : Int) < (((pNext p).getD b []).length : Int) := by omega
    exact ⟨hb0, hb1, hb, hi0, hi1, hc, fun _ => ⟨hb0, hb1, trivial⟩, fun _ => ⟨hb, trivial⟩, fun _ => ⟨hi0, hi1, trivial⟩, fun _ => ⟨hc, trivial⟩, cond_of (fun hb => h2 (any_some (l := (pNext p).getD b []) 0 hc hb)) (fun hb => hK hc hb)⟩
  · have hc : ¬ i < ((pNext p).getD b []).length := by simpa using hc
    exact h1 (any_none 0 (fun j hj => ho j (by omega)))
theorem u6_loop (p : Pb) (b : Nat) (hp : preU p) (hbn : b < (pNext p).length) (Q : Exit → SS → Prop) (h1 : ((pActs p).getD b []).any (badA (pTag p) (pN p)) = false → Q (.exit 6) (stU1 p 5 b)) (h2 : ((pActs p).getD b []).any (badA (pTag p) (pN p)) = true → Q .ret stUR) : W 0 Try.prog (.loop (lpIn (lp Try.f16 1) 2 1)) (stU2 p b 7 0) Q := by
  obtain ⟨ht, ha, he⟩ := hp
  refine W_all (stU2 p b 7) ((pActs p).getD b []).length (fun i => badA (pTag p) (pN p) (((pActs p).getD b []).getD i tAct.dft) = false) [1, 3, 5, 7] [1, 3, 5] [2] (fun i hi ho K hK => ?_)
  refine sx_ok (Λ := noLam) gokU _ 6 _ _ noLam_ok ?_
  rw [vc_u6]
  rw [Int.toNat_natCast]
  have hb : b < (pActs p).length := by omega
  have hb0 : (0 : Int) ≤ (b : Int) := by omega
  have hb1 : (b : Int) < ((pActs p).length : Int) := by omega
  refine ⟨hb0, hb1, hb, fun hm => cond_of (fun hc => ?_) (fun hc => ?_)⟩
  · have hm : ((pActs p).getD b []).length ≤ maxI := hm
    simp only [maxI] at hm
    have hc : i < ((pActs p).getD b []).length := by simpa using hc
    have ei : IntKind.i64.wrap ((i : Int) + 1) = ((i + 1 : Nat) : Int) := w64n (n := i + 1) (by omega)
    rw [ei, Int.toNat_natCast]
    have hi0 : (0 : Int) ≤ (i : Int) := by omega
    have hi1 : (i : Int) < (((pActs p).getD b []).length : Int) := by omega
    exact ⟨hb0, hb1, hb, hi0, hi1, hc, ht, cond_of (fun hb => h2 (any_some (l := (pActs p).getD b []) tAct.dft hc hb)) (fun hb => hK hc hb)⟩
  · have hc : ¬ i < ((pActs p).getD b []).length := by simpa using hc
    exact h1 (any_none tAct.dft (fun j hj => ho j (by omega)))
theorem u10_loop (p : Pb) (b i : Nat) (hp : preU p) (hbn : b < (pNext p).length) (hin : i < ((pEdges p).getD b []).length) (Q : Exit → SS → Prop) (h1 : (((pEdges p).getD b []).getD i []).any (badA (pTag p) (pN p)) = false → Q (.exit 10) (stU2 p b 8 i)) (h2 : (((pEdges p).getD b []).getD i []).any (badA (pTag p) (pN p)) = true → Q .ret stUR) : W 0 Try.prog (.loop (lpIn (lpIn (lp Try.f16 1) 2 2) 8 0)) (stU3 p b i 0) Q := by
  obtain ⟨ht, ha, he⟩ := hp
  refine W_all (stU3 p b i) (((pEdges p).getD b []).getD i []).length (fun k => badA (pTag p) (pN p) ((((pEdges p).getD b []).getD i []).getD k tAct.dft) = false) [1, 3, 5, 8, 9] [1, 3, 5, 8] [2] (fun k hk ho K hK => ?_)
  refine sx_ok (Λ := noLam) gokU _ 10 _ _ noLam_ok ?_
  rw [vc_u10]
  rw [Int.toNat_natCast, Int.toNat_natCast]
  have hb : b < (pEdges p).length := by omega
  have hb0 : (0 : Int) ≤ (b : Int) := by omega
  have hb1 : (b : Int) < ((pEdges p).length : Int) := by omega
  have hi0 : (0 : Int) ≤ (i : Int) := by omega
  have hi1 : (i : Int) < (((pEdges p).getD b []).length : Int) := by omega
  refine ⟨hb0, hb1, hb, hi0, hi1, hin, fun hm => cond_of (fun hc => ?_) (fun hc => ?_)⟩
  · have hm : (((pEdges p).getD b []).getD i []).length ≤ maxI := hm
    simp only [maxI] at hm
    have hc : k < (((pEdges p).getD b []).getD i []).length := by simpa using hc
    have ei : IntKind.i64.wrap ((k : Int) + 1) = ((k + 1 : Nat) : Int) := w64n (n := k + 1) (by omega)
    rw [ei, Int.toNat_natCast]
    have hk0 : (0 : Int) ≤ (k : Int) := by omega
    have hk1 : (k : Int) < ((((pEdges p).getD b []).getD i []).length : Int) := by omega
    exact ⟨hb0, hb1, hb, hi0, hi1, hin, hk0, hk1, hc, ht, cond_of (fun hb => h2 (any_some (l := ((pEdges p).getD b []).getD i []) tAct.dft hc hb)) (fun hb => hK hc hb)⟩
  · have hc : ¬ k < (((pEdges p).getD b []).getD i []).length := by simpa using hc
    exact h1 (any_none tAct.dft (fun j hj => ho j (by omega)))
theorem u8_loop (p : Pb) (b : Nat) (hp : preU p) (hbn : b < (pNext p).length) (Q : Exit → SS → Prop) (h1 : edgesB (pTag p) (pN p) ((pEdges p).getD b []) = true → Q (.exit 8) (stU1 p 5 b)) (h2 : edgesB (pTag p) (pN p) ((pEdges p).getD b []) = false → Q .ret stUR) : W 0 Try.prog (.loop (lpIn (lp Try.f16 1) 2 2)) (stU2 p b 8 0) Q := by
  have hp' := hp
  obtain ⟨ht, ha, he⟩ := hp
  refine W_all (stU2 p b 8) ((pEdges p).getD b []).length (fun i => (((pEdges p).getD b []).getD i []).any (badA (pTag p) (pN p)) = false) [1, 3, 5, 8] [1, 3, 5] [2] (fun i hi ho K hK => ?_)
  refine sx_ok (Λ := lam [(10, u10_l)]) gokU _ 8 _ _ (lokl (l := [(10, lpIn (lpIn (lp Try.f16 1) 2 2) 8 0)]) ⟨lam_ok fun x Q ⟨b1, b2, b3⟩ ⟨b4, b5⟩ => u10_loop x.1 x.2.1 x.2.2 b1 b2 b3 Q b4 b5, trivial⟩) ?_
  rw [vc_u8]
  rw [Int.toNat_natCast]
  have hb : b < (pEdges p).length := by omega
  have hb0 : (0 : Int) ≤ (b : Int) := by omega
  have hb1 : (b : Int) < ((pEdges p).length : Int) := by omega
  refine ⟨hb0, hb1, hb, fun hm => cond_of (fun hc => ?_) (fun hc => ?_)⟩
  · have hm : ((pEdges p).getD b []).length ≤ maxI := hm
    simp only [maxI] at hm
    have hc : i < ((pEdges p).getD b []).length := by simpa using hc
    have ei : IntKind.i64.wrap ((i : Int) + 1) = ((i + 1 : Nat) : Int) := w64n (n := i + 1) (by omega)
    refine ⟨(p, b, i), rfl, ⟨hp', hbn, hc⟩, fun h => ?_, fun h => h2 ?_⟩
    · dsimp only; rw [ei]; exact hK hc h
    · unfold edgesB
      rw [List.all_eq_false]
      refine ⟨((pEdges p).getD b []).getD i [], ?_, by rw [h]; simp⟩
      rw [getD_at (l := (pEdges p).getD b []) (i := i) hc]; exact List.getElem_mem _
  · have hc : ¬ i < ((pEdges p).getD b []).length := by simpa using hc
    refine h1 ?_
    unfold edgesB
    rw [List.all_eq_true]
    intro x hx
    obtain ⟨j, hj, rfl⟩ := List.getElem_of_mem hx
    have := ho j (by omega)
    rw [getD_at (l := (pEdges p).getD b []) (i := j) hj] at this
    rw [this]; rfl
theorem u2_loop (p : Pb) (hp : preU p) (hm : (pNext p).length ≤ maxI) (Q : Exit → SS → Prop) (h1 : (List.range (pNext p).length).all (isBlockV p) = true → Q (.exit 2) (⟨183, [], []⟩ : SS)) (h2 : (List.range (pNext p).length).all (isBlockV p) = false → Q .ret stUR) : W 0 Try.prog (.loop (lp Try.f16 1)) (stU1 p 5 0) Q := by
  have hp' := hp
  obtain ⟨ht, ha, he⟩ := hp
  simp only [maxI] at hm
  refine W_all (stU1 p 5) (pNext p).length (fun b => isBlockV p b = true) [1, 3, 5] [] [2] (fun b hi ho K hK => ?_)
  refine sx_ok (Λ := lam [(4, u4_l), (6, u6_l), (8, u8_l)]) gokU _ 2 _ _ (lokl (l := [(4, lpIn (lp Try.f16 1) 2 0), (6, lpIn (lp Try.f16 1) 2 1), (8, lpIn (lp Try.f16 1) 2 2)])
    ⟨lam_ok fun x Q ⟨b1, b2⟩ ⟨b4, b5⟩ => u4_loop x.1 x.2 b2 Q b4 b5, lam_ok fun x Q ⟨b1, b2⟩ ⟨b4, b5⟩ => u6_loop x.1 x.2 b1 b2 Q b4 b5, lam_ok fun x Q ⟨b1, b2⟩ ⟨b4, b5⟩ => u8_loop x.1 x.2 b1 b2 Q b4 b5, trivial⟩) ?_
  rw [vc_u2]
  refine cond_of (fun hc => ?_) (fun hc => ?_)
  · have hc : b < (pNext p).length := by simpa using hc
    have ei : IntKind.i64.wrap ((b : Int) + 1) = ((b + 1 : Nat) : Int) := w64n (n := b + 1) (by omega)
    rw [Int.toNat_natCast]
    have hb : b < (pEdges p).length := by omega
    have hb0 : (0 : Int) ≤ (b : Int) := by omega
    have hb1 : (b : Int) < ((pEdges p).length : Int) := by omega
    have hb2 : (b : Int) < ((pNext p).length : Int) := by omega
    have bad : isBlockV p b = false → Q .ret stUR := fun h => h2 (by
      rw [List.all_eq_false]
      exact ⟨b, List.mem_range.2 hc, by rw [h]; simp⟩)
    have hval : isBlockV p b = ((decide (((pEdges p).getD b []).length = 0) || decide (((pEdges p).getD b []).length = ((pNext p).getD b []).length)) && (edgesB (pTag p) (pN p) ((pEdges p).getD b []) && (!(((pActs p).getD b []).any (badA (pTag p) (pN p))) && !(((pNext p).getD b []).any (outB (pNext p).length))))) := rfl
    refine ⟨hb0, hb1, hb, fun _ => ⟨fun _ => ⟨hb0, hb1, trivial⟩, fun _ => ⟨hb, trivial⟩, fun _ => ⟨hb0, hb2, trivial⟩, fun _ => ⟨hc, trivial⟩, cond_of (fun hq => bad ?_) (fun hq => ⟨(p, b), rfl, ⟨hp', hc⟩, fun h4 => ⟨(p, b), rfl, ⟨hp', hc⟩, fun h6 => ⟨(p, b), rfl, ⟨hp', hc⟩, fun h8 => ?_, fun h8 => bad ?_⟩, fun h6 => bad ?_⟩, fun h4 => bad ?_⟩)⟩⟩
    · have hq : ((((pEdges p).getD b []).length : Int) != 0 && (((pEdges p).getD b []).length : Int) != (((pNext p).getD b []).length : Int)) = true := hq
      simp only [Bool.and_eq_true, bne_iff_ne] at hq
      rw [hval, decide_eq_false (by omega), decide_eq_false (by omega)]
      rfl
    · have hq : ((((pEdges p).getD b []).length : Int) != 0 && (((pEdges p).getD b []).length : Int) != (((pNext p).getD b []).length : Int)) = false := hq
      have h4 : ((pNext p).getD b []).any (outB (pNext p).length) = false := h4
      have h6 : ((pActs p).getD b []).any (badA (pTag p) (pN p)) = false := h6
      have h8 : edgesB (pTag p) (pN p) ((pEdges p).getD b []) = true := h8
      dsimp only
      rw [ei]
      refine hK hc ?_
      rw [hval, h4, h6, h8]
      have : ((pEdges p).getD b []).length = 0 ∨ ((pEdges p).getD b []).length = ((pNext p).getD b []).length := by
        simp only [Bool.and_eq_false_iff, bne_eq_false_iff_eq] at hq
        omega
      rcases this with e | e
      · rw [decide_eq_true e]; rfl
      · rw [decide_eq_true e, Bool.or_true]; rfl
    · have h8 : edgesB (pTag p) (pN p) ((pEdges p).getD b []) = false := h8
      rw [hval, h8]; simp
    · have h6 : ((pActs p).getD b []).any (badA (pTag p) (pN p)) = true := h6
      rw [hval, h6]; simp
    · have h4 : ((pNext p).getD b []).any (outB (pNext p).length) = true := h4
      rw [hval, h4]; simp
  · have hc : ¬ b < (pNext p).length := by simpa using hc
    refine h1 ?_
    rw [List.all_eq_true]
    intro x hx
    exact ho x (by have := List.mem_range.1 hx; omega)
theorem ugood_ok : ∀ args h Q, goodP_t args h Q → FSpec Try.prog 16 args h Q := trH_ok fun ((p, _) : Pb × Unit) _ Q h => by
  refine spec_body (Λ := lam [(0, u0_l), (2, u2_l)]) gokU Try.func16 rfl (lokl (l := [(0, lp Try.f16 0), (2, lp Try.f16 1)]) ⟨lam_ok fun x Q _ ⟨b2, b3⟩ => u0_loop x Q b2 b3, lam_ok fun x Q ⟨b0, b1⟩ ⟨b2, b3⟩ => u2_loop x b0 b1 Q b2 b3, trivial⟩) ?_
  show body Try.prog (gam gU) (lam [(0, u0_l), (2, u2_l)]) Try.f16 [.agg (toCV tPb p)] [] _
  rw [vc_ugood]
  dsimp only at h
  have key : ∀ b, goodP p = b → Q (.p (tb b)) [] := fun b e => e ▸ h
  have hval : goodP p = (((decide (0 ≤ pN p) && decide (pN p ≤ 65536)) && (goodV (pTag p) (pN p) (pFirst p) && (decide ((pActs p).length = (pNext p).length) && decide ((pEdges p).length = (pNext p).length)))) && (!((pStart p).any (outB (pNext p).length)) && (List.range (pNext p).length).all (isBlockV p))) := rfl
  intro hm
  refine cond_of (fun hc => key _ ?_) (fun hc => cond_of (fun hd => key _ ?_) (fun hd => ?_))
  · have hc : (decide (pN p < 0) || decide (pN p > 65536)) = true := hc
    simp only [Bool.or_eq_true, decide_eq_true_eq] at hc
    have : (decide (0 ≤ pN p) && decide (pN p ≤ 65536)) = false := by
      simp only [Bool.and_eq_false_iff, decide_eq_false_iff_not]; omega
    rw [hval, this]; rfl
  · have hd : (false || !goodV (pTag p) (pN p) (pFirst p) || ((pActs p).length : Int) != ((pNext p).length : Int) || ((pEdges p).length : Int) != ((pNext p).length : Int)) = true := hd
    simp only [Bool.false_or, Bool.or_eq_true, bne_iff_ne, Bool.not_eq_true'] at hd
    rw [hval]
    rcases hd with (hd | hd) | hd
    · rw [hd]; simp
    · rw [decide_eq_false (show ¬ (pActs p).length = (pNext p).length by omega)]; simp
    · rw [decide_eq_false (show ¬ (pEdges p).length = (pNext p).length by omega)]; simp
  · have hc : (decide (pN p < 0) || decide (pN p > 65536)) = false := hc
    simp only [Bool.or_eq_false_iff, decide_eq_false_iff_not] at hc
    have hd : (false || !goodV (pTag p) (pN p) (pFirst p) || ((pActs p).length : Int) != ((pNext p).length : Int) || ((pEdges p).length : Int) != ((pNext p).length : Int)) = false := hd
    simp only [Bool.false_or, Bool.or_eq_false_iff, bne_eq_false_iff_eq, Bool.not_eq_false'] at hd
    obtain ⟨⟨d1, d2⟩, d3⟩ := hd
    have hnum : ((decide (0 ≤ pN p) && decide (pN p ≤ 65536)) && (goodV (pTag p) (pN p) (pFirst p) && (decide ((pActs p).length = (pNext p).length) && decide ((pEdges p).length = (pNext p).length)))) = true := by
      rw [d1, decide_eq_true (show 0 ≤ pN p by omega), decide_eq_true (show pN p ≤ 65536 by omega), decide_eq_true (show (pActs p).length = (pNext p).length by omega), decide_eq_true (show (pEdges p).length = (pNext p).length by omega)]; rfl
    rw [hnum, Bool.true_and] at hval
    have hpre : preU p := ⟨(good_iff.1 d1).1, by omega, by omega⟩
    refine ⟨p, rfl, trivial, fun h0 => ⟨p, rfl, ⟨hpre, hm⟩, fun h2 => key _ ?_, fun h2 => key _ ?_⟩, fun h0 => key _ ?_⟩
    · rw [hval, h0, h2]; rfl
    · rw [hval, h0, h2]; rfl
    · rw [hval, h0]; rfl
end Go.Proofs.Ytloiimhmmcheoaa.Ch
