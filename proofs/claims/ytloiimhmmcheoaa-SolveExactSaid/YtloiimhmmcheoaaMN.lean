/- Chapter 21 (solve): great, facts, agrees, proved. No condition. -/
import Derived.Test.YtloiimhmmcheoaaMMV
namespace Go.Proofs.Ytloiimhmmcheoaa.Ch
open Go Go.Proofs Go.Proofs.Ytloiimhmmcheoaa.Sx
set_option linter.unusedVariables false
set_option linter.unusedSimpArgs false

/-! ### great -/
theorem great_0 (p : Pb) (hn : (pNext p).length ≤ 20) (Q : Exit → SS → Prop) (h1 : Q .ret stGR) (h2 : (∀ x ∈ pNext p, x.length ≤ 20) → Q (.exit 0) (stGX p)) : W 0 Try.prog (.loop (lp Try.f7 0)) (stGt 3 p 0) Q := by
  refine W_all (stGt 3 p) (pNext p).length (fun i => ((pNext p).getD i []).length ≤ 20) [1, 3] [1] [2] (fun i hi ho K hK => ?_)
  refine sx_ok (Λ := noLam) gok0 _ 0 _ _ noLam_ok ?_
  rw [vc_g0]
  intro _
  refine cond_of (fun hc => ?_) (fun hc => ?_)
  · have hc : i < (pNext p).length := by simpa using hc
    have ei : IntKind.i64.wrap ((i : Int) + 1) = ((i + 1 : Nat) : Int) := w64n (n := i + 1) (by omega)
    rw [ei, Int.toNat_natCast]
    have hi1 : (i : Int) < ((pNext p).length : Int) := by omega
    refine ⟨by omega, hi1, hc, fun _ => cond_of (fun _ => h1) (fun hb => hK hc ?_)⟩
    have : ¬ ((((pNext p).getD i []).length : Int) > 20) := of_decide_eq_false hb
    show ((pNext p).getD i []).length ≤ 20
    omega
  · have hc : ¬ i < (pNext p).length := by simpa using hc
    exact h2 (fun x hx => by
      obtain ⟨j, hj, rfl⟩ := List.getElem_of_mem hx
      have := ho j (by omega)
      rwa [getD_at hj] at this)
theorem great_2 (p : Pb) (hn : (pActs p).length ≤ 20) (Q : Exit → SS → Prop) (h1 : Q .ret stGR) (h2 : Q (.exit 2) (stGX p)) : W 0 Try.prog (.loop (lp Try.f7 1)) (stGt 4 p 0) Q := by
  refine W_all (stGt 4 p) (pActs p).length (fun i => True) [1, 4] [1] [2] (fun i hi ho K hK => ?_)
  refine sx_ok (Λ := noLam) gok0 _ 2 _ _ noLam_ok ?_
  rw [vc_g2]
  intro _
  refine cond_of (fun hc => ?_) (fun hc => h2)
  have hc : i < (pActs p).length := by simpa using hc
  have ei : IntKind.i64.wrap ((i : Int) + 1) = ((i + 1 : Nat) : Int) := w64n (n := i + 1) (by omega)
  rw [ei, Int.toNat_natCast]
  have hi1 : (i : Int) < ((pActs p).length : Int) := by omega
  exact ⟨by omega, hi1, hc, fun _ => cond_of (fun _ => h1) (fun hb => hK hc trivial)⟩
theorem great_6 (p : Pb) (b : Nat) (hb : b < (pEdges p).length) (hn : ((pEdges p).getD b []).length ≤ 20) (Q : Exit → SS → Prop) (h1 : Q .ret stGR) (h2 : Q (.exit 6) (stGt 5 p b)) : W 0 Try.prog (.loop (lpIn (lp Try.f7 2) 4 0)) (stG6 p b 0) Q := by
  refine W_all (stG6 p b) ((pEdges p).getD b []).length (fun i => True) [1, 5, 6] [1, 5] [2] (fun i hi ho K hK => ?_)
  refine sx_ok (Λ := noLam) gok0 _ 6 _ _ noLam_ok ?_
  rw [vc_g6]
  rw [Int.toNat_natCast]
  have hb1 : (b : Int) < ((pEdges p).length : Int) := by omega
  refine ⟨by omega, hb1, hb, fun _ => cond_of (fun hc => ?_) (fun hc => h2)⟩
  have hc : i < ((pEdges p).getD b []).length := by simpa using hc
  have hi1 : (i : Int) < (((pEdges p).getD b []).length : Int) := by omega
  have ei : IntKind.i64.wrap ((i : Int) + 1) = ((i + 1 : Nat) : Int) := w64n (n := i + 1) (by omega)
  rw [ei, Int.toNat_natCast]
  exact ⟨by omega, hb1, hb, by omega, hi1, hc, fun _ => cond_of (fun _ => h1) (fun hb => hK hc trivial)⟩
theorem great_4 (p : Pb) (hn : (pEdges p).length ≤ 20) (Q : Exit → SS → Prop) (h1 : Q .ret stGR) (h2 : Q (.exit 4) (⟨103, [], []⟩ : SS)) : W 0 Try.prog (.loop (lp Try.f7 2)) (stGt 5 p 0) Q := by
  refine W_all (stGt 5 p) (pEdges p).length (fun i => True) [1, 5] [] [2] (fun i hi ho K hK => ?_)
  refine sx_ok (Λ := lam [(6, g6_l)]) gok0 _ 4 _ _ (lokl (l := [(6, lpIn (lp Try.f7 2) 4 0)]) ⟨lam_ok fun x Q ⟨b1, b2⟩ ⟨b3, b4⟩ => great_6 x.1 x.2 b1 b2 Q b3 b4, trivial⟩) ?_
  rw [vc_g4]
  intro _
  refine cond_of (fun hc => ?_) (fun hc => h2)
  have hc : i < (pEdges p).length := by simpa using hc
  have ei : IntKind.i64.wrap ((i : Int) + 1) = ((i + 1 : Nat) : Int) := w64n (n := i + 1) (by omega)
  rw [Int.toNat_natCast]
  have hi1 : (i : Int) < ((pEdges p).length : Int) := by omega
  refine ⟨by omega, hi1, hc, fun _ => cond_of (fun _ => h1) (fun hb => ⟨(p, i), rfl, ⟨hc, ?_⟩, h1, ?_⟩)⟩
  · have : ¬ ((((pEdges p).getD i []).length : Int) > 20) := of_decide_eq_false hb
    show ((pEdges p).getD i []).length ≤ 20
    omega
  · dsimp only
    rw [ei]
    exact hK hc trivial
theorem great_ok : ∀ args h Q, great_t args h Q → FSpec Try.prog 7 args h Q := trH_ok fun ((p, _) : Pb × Unit) _ Q h => by
  refine spec_body (Λ := lam [(0, g0_l), (2, g2_l), (4, g4_l)]) gok0 Try.func7 rfl (lokl (l := [(0, lp Try.f7 0), (2, lp Try.f7 1), (4, lp Try.f7 2)]) ⟨lam_ok fun x Q b1 ⟨b2, b3⟩ => great_0 x b1 Q b2 b3, lam_ok fun x Q b1 ⟨b2, b3⟩ => great_2 x b1 Q b2 b3, lam_ok fun x Q b1 ⟨b2, b3⟩ => great_4 x b1 Q b2 b3, trivial⟩) ?_
  show body Try.prog (gam []) (lam [(0, g0_l), (2, g2_l), (4, g4_l)]) Try.f7 [.agg (toCV tPb p)] [] _
  rw [vc_great]
  dsimp only at h
  intro _
  refine cond_of (fun _ => h true (fun e => by cases e)) (fun hc => ?_)
  simp only [Bool.or_eq_false_iff, decide_eq_false_iff_not] at hc
  obtain ⟨⟨⟨⟨⟨c1, c2⟩, c3⟩, c4⟩, c5⟩, c6⟩ := hc
  have c1 : ¬ (((pNext p).length : Int) > 20) := c1
  have c2 : ¬ (((pActs p).length : Int) > 20) := c2
  have c3 : ¬ (((pEdges p).length : Int) > 20) := c3
  have c4 : ¬ (((pStart p).length : Int) > 20) := c4
  have c6 : ¬ (pN p > 20) := c6
  refine ⟨p, rfl, by omega, h true (fun e => by cases e), fun hx => ⟨p, rfl, by omega, h true (fun e => by cases e), p, rfl, by omega, h true (fun e => by cases e), h false (fun _ => ⟨by omega, by omega, by omega, hx⟩)⟩⟩
/-! ### the same -/
theorem list_eq_all {α : Type} {xs ys : List α} (d : α) (hl : xs.length = ys.length) (h : ∀ j, j < xs.length → xs.getD j d = ys.getD j d) : xs = ys := by
  refine List.ext_getElem hl (fun i h1 h2 => ?_)
  have := h i h1
  rwa [getD_at h1, getD_at h2] at this
theorem in_loop (xs ys : List Int) (hl : xs.length = ys.length) (hm : xs.length ≤ maxI) (Q : Exit → SS → Prop) (h1 : xs ≠ ys → Q .ret (⟨26, [(4, .p (tb false))], []⟩ : SS)) (h2 : xs = ys → Q (.exit 0) (⟨26, [], []⟩ : SS)) : W 0 Try.prog (.loop (lp Try.f52 0)) (stI xs ys 0) Q := by
  refine W_all (stI xs ys) xs.length (fun i => xs.getD i 0 = ys.getD i 0) [0, 1, 5] [] [4] (fun i hi ho K hK => ?_)
  refine sx_ok (Λ := noLam) gok0 _ 0 _ _ noLam_ok ?_
  rw [vc_in]
  intro _
  simp only [maxI] at hm
  refine cond_of (fun hc => ?_) (fun hc => ?_)
  · have hc : i < xs.length := by simpa using hc
    have ei : IntKind.i64.wrap ((i : Int) + 1) = ((i + 1 : Nat) : Int) := w64n (n := i + 1) (by omega)
    rw [ei, Int.toNat_natCast]
    refine ⟨by omega, by omega, hc, by omega, by omega, by omega, cond_of (fun hb => h1 ?_) (fun hb => hK hc ?_)⟩
    · rintro rfl
      simp at hb
    · have hb : (xs.getD i 0 != ys.getD i 0) = false := hb
      exact Decidable.byContradiction fun hn => by rw [bne_iff_ne.2 hn] at hb; cases hb
  · have hc : ¬ i < xs.length := by simpa using hc
    exact h2 (list_eq_all 0 hl (fun j hj => ho j (by omega)))
theorem ints_ok : ∀ args h Q, ints_t args h Q → FSpec Try.prog 52 args h Q := trH_ok fun ((xs, ys, _) : List Int × List Int × Unit) _ Q h => by
  refine spec_body (Λ := lam [(0, in_l)]) gok0 Try.func52 rfl (lokl (l := [(0, lp Try.f52 0)]) ⟨lam_ok fun x Q ⟨b1, b2⟩ ⟨b3, b4⟩ => in_loop x.1 x.2 b1 b2 Q b3 b4, trivial⟩) ?_
  show body Try.prog (gam []) (lam [(0, in_l)]) Try.f52 [.c (.row tI xs), .c (.row tI ys)] [] _
  rw [vc_ints]
  dsimp only at h
  intro hm _
  refine cond_of (fun hc => ?_) (fun hc => ⟨(xs, ys), rfl, ⟨Int.ofNat.inj (by simpa using hc), hm⟩, fun hn => ?_, fun he => ?_⟩)
  · rw [decide_eq_false (fun e => by rw [e] at hc; simp at hc)] at h; exact h
  · rw [decide_eq_false hn] at h; exact h
  · rw [decide_eq_true he] at h; exact h
theorem rsame_ok : ∀ args h Q, rsame_t args h Q → FSpec Try.prog 33 args h Q := trH_ok fun (((c, xs), (d, ys), _) : Kn × Kn × Unit) _ Q h => by
  refine spec_body (Γ := gam [(52, [], ints_t)]) (gam_ok ⟨ints_ok, trivial⟩) Try.func33 rfl noLam_ok ?_
  show body Try.prog (gam [(52, [], ints_t)]) noLam Try.f33 [.agg [.bool c, .row tI xs], .agg [.bool d, .row tI ys]] [] _
  rw [vc_rsame]
  dsimp only at h
  refine cond_of (fun hc => ?_) (fun hc => ?_)
  · have hc : c = d := by simpa using hc
    rw [Bool.true_and]
    rw [show decide ((c, xs) = (d, ys)) = decide (xs = ys) from decide_eq_decide.2 (by rw [hc]; simp)] at h
    exact h
  · rw [decide_eq_false (fun e => by cases e; simp at hc)] at h; exact h
theorem gokFa : GOK Try.prog (gam [(33, [], rsame_t)]) := gam_ok ⟨rsame_ok, trivial⟩
theorem fa_loop (xs ys : List Kn) (hl : xs.length = ys.length) (hm : xs.length ≤ maxI) (Q : Exit → SS → Prop) (h1 : xs ≠ ys → Q .ret (⟨27, [(4, .p (tb false))], []⟩ : SS)) (h2 : xs = ys → Q (.exit 0) (⟨27, [], []⟩ : SS)) : W 0 Try.prog (.loop (lp Try.f15 0)) (stF xs ys 0) Q := by
  refine W_all (stF xs ys) xs.length (fun i => xs.getD i tKn.dft = ys.getD i tKn.dft) [0, 1, 5] [] [4] (fun i hi ho K hK => ?_)
  refine sx_ok (Λ := noLam) gokFa _ 0 _ _ noLam_ok ?_
  rw [vc_fa]
  intro _
  simp only [maxI] at hm
  refine cond_of (fun hc => ?_) (fun hc => ?_)
  · have hc : i < xs.length := by simpa using hc
    have ei : IntKind.i64.wrap ((i : Int) + 1) = ((i + 1 : Nat) : Int) := w64n (n := i + 1) (by omega)
    rw [ei, Int.toNat_natCast]
    refine ⟨by omega, by omega, hc, by omega, by omega, by omega, cond_of (fun hb => h1 ?_) (fun hb => hK hc ?_)⟩
    · rintro rfl
      rw [decide_eq_true rfl] at hb; cases hb
    · exact of_decide_eq_true (by simpa using hb)
  · have hc : ¬ i < xs.length := by simpa using hc
    exact h2 (list_eq_all tKn.dft hl (fun j hj => ho j (by omega)))
theorem facts_ok : ∀ args h Q, facts_t args h Q → FSpec Try.prog 15 args h Q := trH_ok fun ((xs, ys, _) : List Kn × List Kn × Unit) _ Q h => by
  refine spec_body (Λ := lam [(0, fa_l)]) gokFa Try.func15 rfl (lokl (l := [(0, lp Try.f15 0)]) ⟨lam_ok fun x Q ⟨b1, b2⟩ ⟨b3, b4⟩ => fa_loop x.1 x.2 b1 b2 Q b3 b4, trivial⟩) ?_
  show body Try.prog (gam [(33, [], rsame_t)]) (lam [(0, fa_l)]) Try.f15 [.c (.row tKn xs), .c (.row tKn ys)] [] _
  rw [vc_facts]
  dsimp only at h
  intro hm _
  refine cond_of (fun hc => ?_) (fun hc => ⟨(xs, ys), rfl, ⟨Int.ofNat.inj (by simpa using hc), hm⟩, fun hn => ?_, fun he => ?_⟩)
  · rw [decide_eq_false (fun e => by rw [e] at hc; simp at hc)] at h; exact h
  · rw [decide_eq_false hn] at h; exact h
  · rw [decide_eq_true he] at h; exact h
/-! ### agrees -/
theorem gokAgr : GOK Try.prog (gam gAgr) := gam_ok ⟨below_ok, do_ok, trivial⟩
theorem fact_small {p : Pb} {F : List Kn} {k : Nat} (hp : GP p k) (hk : k ≤ 20) (hF : factOk p F) {i : Nat} (hi : i < (pNext p).length) : Gd (pTag p) k (F.getD i (false, [])) ∧ (F.getD i (false, [])).2.length ≤ 100000 := by
  have hi' : i < F.length := by rw [hF.1]; exact hi
  have : Gd (pTag p) k (F.getD i (false, [])) := by rw [getD_at hi', ← hp.hn]; exact hF.2 _ (List.getElem_mem hi')
  exact ⟨this, gd_small hk this⟩
theorem agrees_0 (p : Pb) (F : List Kn) (hP : smallP p) (hF : factOk p F) (Q : Exit → SS → Prop) (h1 : AgS p F → Q (.exit 0) (stAX p F)) (h2 : ¬ AgS p F → Q .ret stAR) : W 0 Try.prog (.loop (lp Try.f11 0)) (stA0 p F 0) Q := by
  obtain ⟨hg, hl, hn, hsl, hnl⟩ := hP
  obtain ⟨k, hp⟩ := goodP_gp hg
  have hk : k ≤ 20 := by have := hp.hn; omega
  refine W_all (stA0 p F) (pStart p).length (fun i => belowV (pTag p) (pFirst p) (F.getD ((pStart p).getD i 0).toNat (false, [])) = true) [1, 2, 5] [1, 2] [4] (fun i hi ho K hK => ?_)
  refine sx_ok (Λ := noLam) gokAgr _ 0 _ _ noLam_ok ?_
  rw [vc_a0]
  intro _
  refine cond_of (fun hc => ?_) (fun hc => ?_)
  · have hc : i < (pStart p).length := by simpa using hc
    have ei : IntKind.i64.wrap ((i : Int) + 1) = ((i + 1 : Nat) : Int) := w64n (n := i + 1) (by omega)
    rw [ei, Int.toNat_natCast]
    have hb : 0 ≤ (pStart p).getD i 0 ∧ (pStart p).getD i 0 < ((pNext p).length : Int) := by rw [getD_at hc]; exact hp.hs _ (List.getElem_mem hc)
    have hFl := hF.1
    obtain ⟨g1, g2⟩ := fact_small hp hk hF (i := ((pStart p).getD i 0).toNat) (by omega)
    have hi1 : (i : Int) < ((pStart p).length : Int) := by omega
    refine ⟨by omega, hi1, hc, hb.1, by show (pStart p).getD i 0 < (F.length : Int); omega, by show ((pStart p).getD i 0).toNat < F.length; omega, ⟨gd_small hk hp.hf, g2⟩, cond_of (fun hq => h2 (fun hA => ?_)) (fun hq => hK hc ?_)⟩
    · have hq : (!belowV (pTag p) (pFirst p) (F.getD ((pStart p).getD i 0).toNat (false, []))) = true := hq
      rw [hA i hc] at hq; cases hq
    · have hq : (!belowV (pTag p) (pFirst p) (F.getD ((pStart p).getD i 0).toNat (false, []))) = false := hq
      simpa using hq
  · have hc : ¬ i < (pStart p).length := by simpa using hc
    exact h1 (fun j hj => ho j (by omega))
theorem agrees_4 (p : Pb) (F : List Kn) (b : Nat) (hP : smallP p) (hF : factOk p F) (hb : b < (pNext p).length) (Q : Exit → SS → Prop) (h1 : AgB p F b → Q (.exit 4) (stA2 p F b)) (h2 : ¬ AgB p F b → Q .ret stAR) :
    W 0 Try.prog (.loop (lpIn (lp Try.f11 1) 2 0)) (stA4 p F b (doV (pTag p) (F.getD b (false, [])) ((pActs p).getD b [])) 0) Q := by
  obtain ⟨hg, hl, hn, hsl, hnl⟩ := hP
  obtain ⟨k, hp⟩ := goodP_gp hg
  have hk : k ≤ 20 := by have := hp.hn; omega
  have hgo : Gd (pTag p) k (doV (pTag p) (F.getD b (false, [])) ((pActs p).getD b [])) := doV_good (fact_small hp hk hF hb).1 (hp.hA b hb)
  have hae : ∀ i, AgE p F b i → belowV (pTag p) (edgeV (pTag p) (doV (pTag p) (F.getD b (false, [])) ((pActs p).getD b [])) ((pEdges p).getD b []) i) (F.getD (((pNext p).getD b []).getD i 0).toNat (false, [])) = true := fun i h => h
  have hea : ∀ i, belowV (pTag p) (edgeV (pTag p) (doV (pTag p) (F.getD b (false, [])) ((pActs p).getD b [])) ((pEdges p).getD b []) i) (F.getD (((pNext p).getD b []).getD i 0).toNat (false, [])) = true → AgE p F b i := fun i h => h
  refine W_all (stA4 p F b _) ((pNext p).getD b []).length (AgE p F b) [1, 2, 6, 7, 8] [1, 2, 6] [4] (fun i hi ho K hK => ?_)
  generalize doV (pTag p) (F.getD b (false, [])) ((pActs p).getD b []) = out at hgo hae hea hK ⊢
  refine sx_ok (Λ := noLam) gokAgr _ 4 _ _ noLam_ok ?_
  rw [vc_a4]
  have hnb : ((pNext p).getD b []).length ≤ 20 := by rw [getD_at hb]; exact hnl _ (List.getElem_mem hb)
  rw [Int.toNat_natCast]
  have hb0 : (0 : Int) ≤ (b : Int) := by omega
  have hb1 : (b : Int) < ((pNext p).length : Int) := by omega
  refine ⟨hb0, hb1, hb, fun _ => cond_of (fun hc => ?_) (fun hc => ?_)⟩
  · have hc : i < ((pNext p).getD b []).length := by simpa using hc
    have ei : IntKind.i64.wrap ((i : Int) + 1) = ((i + 1 : Nat) : Int) := w64n (n := i + 1) (by omega)
    rw [ei, Int.toNat_natCast]
    have hw : ((pNext p).getD b []).getD i 0 ∈ (pNext p).getD b [] := by rw [getD_at (l := (pNext p).getD b []) (i := i) hc]; exact List.getElem_mem _
    obtain ⟨hw0, hw1⟩ := hp.hw b hb _ hw
    have hFl := hF.1
    have heg := edge_good hp hb hgo i
    obtain ⟨g1, g2⟩ := fact_small hp hk hF (i := (((pNext p).getD b []).getD i 0).toNat) (by omega)
    have he := hp.he
    have heb : b < (pEdges p).length := by omega
    have heb1 : (b : Int) < ((pEdges p).length : Int) := by omega
    have hi0 : (0 : Int) ≤ (i : Int) := by omega
    have hi1 : (i : Int) < (((pNext p).getD b []).length : Int) := by omega
    have hw2 : ((pNext p).getD b []).getD i 0 < (F.length : Int) := by omega
    have hw3 : (((pNext p).getD b []).getD i 0).toNat < F.length := by omega
    have fin : ∀ x : Kn, edgeV (pTag p) out ((pEdges p).getD b []) i = x → ∀ (c : Bool) (Q1 Q2 : Prop), c = (!belowV (pTag p) x (F.getD (((pNext p).getD b []).getD i 0).toNat (false, []))) → (¬ AgB p F b → Q1) → (AgE p F b i → Q2) → bif c then Q1 else Q2 := by
      intro x hx c Q1 Q2 hc' k1 k2
      subst hx
      refine cond_of (fun hq => k1 (fun hA => ?_)) (fun hq => k2 (hea i ?_))
      · have := hae i (hA i hc)
        rw [hc', this] at hq; cases hq
      · rw [hc'] at hq; simpa using hq
    refine ⟨hb0, heb1, heb, fun _ => cond_of (fun hE => ?_) (fun hE => ?_)⟩
    · have hE : 0 < ((pEdges p).getD b []).length := by simpa using hE
      have hx : ((pEdges p).getD b []).length = ((pNext p).getD b []).length := by rcases hp.hx b hb with h | h; omega; exact h
      have hiE : i < ((pEdges p).getD b []).length := by omega
      have hiE1 : (i : Int) < (((pEdges p).getD b []).length : Int) := by omega
      have ev : edgeV (pTag p) out ((pEdges p).getD b []) i = doV (pTag p) out (((pEdges p).getD b []).getD i []) := by unfold edgeV; rw [if_pos hE]
      rw [ev] at heg
      exact ⟨hb0, heb1, heb, hi0, hiE1, hiE, gd_small hk hgo, hb0, hb1, hb, hi0, hi1, hc, hw0, hw2, hw3, ⟨gd_small hk heg, g2⟩, fin _ ev _ _ _ rfl h2 (fun h => hK hc h)⟩
    · have hE : ¬ 0 < ((pEdges p).getD b []).length := by simpa using hE
      have ev : edgeV (pTag p) out ((pEdges p).getD b []) i = out := by unfold edgeV; rw [if_neg hE]
      exact ⟨hb0, hb1, hb, hi0, hi1, hc, hw0, hw2, hw3, ⟨gd_small hk hgo, g2⟩, fin _ ev _ _ _ rfl h2 (fun h => hK hc h)⟩
  · have hc : ¬ i < ((pNext p).getD b []).length := by simpa using hc
    exact h1 (fun j hj => ho j (by omega))
theorem agrees_2 (p : Pb) (F : List Kn) (hP : smallP p) (hF : factOk p F) (Q : Exit → SS → Prop) (h1 : (∀ b, b < (pNext p).length → AgB p F b) → Q (.exit 2) (⟨96, [], []⟩ : SS)) (h2 : (¬ ∀ b, b < (pNext p).length → AgB p F b) → Q .ret stAR) : W 0 Try.prog (.loop (lp Try.f11 1)) (stA2 p F 0) Q := by
  have hP' := hP
  obtain ⟨hg, hl, hn, hsl, hnl⟩ := hP
  obtain ⟨k, hp⟩ := goodP_gp hg
  have hk : k ≤ 20 := by have := hp.hn; omega
  refine W_all (stA2 p F) (pNext p).length (AgB p F) [1, 2, 6] [] [4] (fun b hi ho K hK => ?_)
  refine sx_ok (Λ := lam [(4, a4_l)]) gokAgr _ 2 _ _ (lokl (l := [(4, lpIn (lp Try.f11 1) 2 0)]) ⟨lam_ok fun x Q ⟨b1, b2, b3⟩ ⟨b4, b5⟩ => agrees_4 x.1 x.2.1 x.2.2 b1 b2 b3 Q b4 b5, trivial⟩) ?_
  rw [vc_a2]
  intro _
  refine cond_of (fun hc => ?_) (fun hc => ?_)
  · have hc : b < (pNext p).length := by simpa using hc
    have ei : IntKind.i64.wrap ((b : Int) + 1) = ((b + 1 : Nat) : Int) := w64n (n := b + 1) (by omega)
    rw [Int.toNat_natCast]
    have hFl := hF.1
    have ha := hp.ha
    have hb0 : (0 : Int) ≤ (b : Int) := by omega
    obtain ⟨g1, g2⟩ := fact_small hp hk hF hc
    have hin : (K (stA2 p F (b + 1)) → K (stA2 p F (b + 1))) := fun h => h
    refine ⟨hb0, by omega, by omega, hb0, by show (b : Int) < ((pActs p).length : Int); omega, by show b < (pActs p).length; omega, ⟨g2, ⟨(p, F, b), rfl, ⟨hP', hF, hc⟩, fun h => ?_, fun h => h2 (fun hA => h (hA b hc))⟩⟩, g2, ⟨(p, F, b), rfl, ⟨hP', hF, hc⟩, fun h => ?_, fun h => h2 (fun hA => h (hA b hc))⟩⟩
    · dsimp only; rw [ei]; exact hK hc h
    · dsimp only; rw [ei]; exact hK hc h
  · have hc : ¬ b < (pNext p).length := by simpa using hc
    exact h1 (fun j hj => ho j (by omega))
theorem agrees_ok : ∀ args h Q, agrees_t args h Q → FSpec Try.prog 11 args h Q := trH_ok fun ((p, F, _) : Pb × List Kn × Unit) _ Q ⟨⟨hP, hF⟩, h⟩ => by
  refine spec_body (Λ := lam [(0, a0_l), (2, a2_l)]) gokAgr Try.func11 rfl (lokl (l := [(0, lp Try.f11 0), (2, lp Try.f11 1)]) ⟨lam_ok fun x Q ⟨b1, b2⟩ ⟨b4, b5⟩ => agrees_0 x.1 x.2 b1 b2 Q b4 b5, lam_ok fun x Q ⟨b1, b2⟩ ⟨b4, b5⟩ => agrees_2 x.1 x.2 b1 b2 Q b4 b5, trivial⟩) ?_
  show body Try.prog (gam gAgr) (lam [(0, a0_l), (2, a2_l)]) Try.f11 [.agg (toCV tPb p), .c (.row tKn F)] [] _
  rw [vc_agrees]
  dsimp only at hP hF h
  exact ⟨(p, F), rfl, ⟨hP, hF⟩, fun hs => ⟨(p, F), rfl, ⟨hP, hF⟩, fun hb => h true ⟨fun _ => ⟨hs, hb⟩, fun _ => rfl⟩, fun hb => h false ⟨fun e => (by cases e), fun e => absurd e.2 hb⟩⟩, fun hs => h false ⟨fun e => (by cases e), fun e => absurd e.1 hs⟩⟩
end Go.Proofs.Ytloiimhmmcheoaa.Ch
