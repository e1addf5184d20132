/- Chapter 21 (solve): the reference's Solve finds what Solve finds: plain Lean. No condition. -/
import Derived.Test.YtloiimhmmcheoaaMU
namespace Go.Proofs.Ytloiimhmmcheoaa.Ch
open Go Go.Proofs Go.Proofs.Ytloiimhmmcheoaa.Sx
set_option linter.unusedVariables false
set_option linter.unusedSimpArgs false

def upF (t : Int) (F : List Kn) (k : Nat) (x : Kn) : List Kn := F.set k (joinV t (F.getD k (false, [])) x)
theorem up_fact {p : Pb} {k : Nat} (hp : GP p k) {F : List Kn} (hF : factOk p F) {x : Kn} (hx : Gd (pTag p) k x) (b : Nat) : factOk p (upF (pTag p) F b x) := by
  refine ⟨by unfold upF; rw [List.length_set]; exact hF.1, fun f hf => ?_⟩
  rcases List.mem_or_eq_of_mem_set hf with hf | rfl
  · exact hF.2 f hf
  · rw [hp.hn]; exact join_good hp.ht (fgd hp hF b) hx
theorem up_le {p : Pb} {k : Nat} (hp : GP p k) {F : List Kn} (hF : factOk p F) {x : Kn} (hx : Gd (pTag p) k x) (b : Nat) : LeF (pTag p) F (upF (pTag p) F b x) := fun y => by
  unfold upF
  rw [getD_set]
  split
  · rename_i e; rw [← e.1]; exact below_up hp.ht (fgd hp hF b) hx
  · exact below_refl hp.ht (fgd hp hF y)
theorem up_x {p : Pb} {k : Nat} (hp : GP p k) {F : List Kn} (hF : factOk p F) {x : Kn} (hx : Gd (pTag p) k x) {b : Nat} (hb : b < (pNext p).length) : belowV (pTag p) x ((upF (pTag p) F b x).getD b (false, [])) = true := by
  unfold upF
  rw [getD_set, if_pos ⟨rfl, by rw [hF.1]; exact hb⟩]
  exact below_up' hp.ht (fgd hp hF b) hx
theorem up_least {p : Pb} {k : Nat} (hp : GP p k) {F G : List Kn} (hF : factOk p F) (hG : factOk p G) {x : Kn} (hx : Gd (pTag p) k x) {b : Nat} (h1 : LeF (pTag p) F G) (h2 : belowV (pTag p) x (G.getD b (false, [])) = true) : LeF (pTag p) (upF (pTag p) F b x) G := fun y => by
  unfold upF
  rw [getD_set]
  split
  · rename_i e; rw [← e.1]; exact below_least hp.ht (fgd hp hF b) hx (fgd hp hG b) (h1 b) h2
  · exact h1 y
theorem up_sum {p : Pb} {k : Nat} (hp : GP p k) {F : List Kn} (hF : factOk p F) {x : Kn} (hx : Gd (pTag p) k x) {b : Nat} (hb : b < (pNext p).length) (hj : joinV (pTag p) (F.getD b (false, [])) x ≠ F.getD b (false, [])) : sumK (pTag p) F < sumK (pTag p) (upF (pTag p) F b x) := by
  have hs := sumK_set (pTag p) F b (joinV (pTag p) (F.getD b (false, [])) x) (by rw [hF.1]; exact hb)
  rcases join_rise hp.ht (fgd hp hF b) hx with e | e
  · exact absurd e.symm hj
  · unfold upF; omega
/-- What a part of a round does. -/
structure Rr (p : Pb) (y y' : List Kn × Bool) : Prop where
  ok : factOk p y'.1
  le : LeF (pTag p) y.1 y'.1
  ch : y' = y ∨ (y'.2 = true ∧ sumK (pTag p) y.1 < sumK (pTag p) y'.1)
theorem rr_sum {p : Pb} {y y' : List Kn × Bool} (h : Rr p y y') : sumK (pTag p) y.1 ≤ sumK (pTag p) y'.1 := by
  rcases h.ch with e | e
  · rw [e]; exact Nat.le_refl _
  · exact Nat.le_of_lt e.2
theorem rr_refl {p : Pb} {k : Nat} (hp : GP p k) {y : List Kn × Bool} (h : factOk p y.1) : Rr p y y := ⟨h, lef_refl hp h, .inl rfl⟩
theorem rr_trans {p : Pb} {k : Nat} (hp : GP p k) {y y' y'' : List Kn × Bool} (h : factOk p y.1) (h1 : Rr p y y') (h2 : Rr p y' y'') : Rr p y y'' := by
  refine ⟨h2.ok, lef_trans hp h h1.ok h2.ok h1.le h2.le, ?_⟩
  rcases h2.ch with e | e
  · rw [e]; exact h1.ch
  · exact .inr ⟨e.1, Nat.lt_of_le_of_lt (rr_sum h1) e.2⟩
theorem rr_back {p : Pb} {y y' y'' : List Kn × Bool} (h1 : Rr p y y') (h2 : Rr p y' y'') (e : y'' = y) : y' = y := by
  rcases h1.ch with q | q
  · exact q
  · have := rr_sum h2
    rw [e] at this
    omega
theorem riseR_rr {p : Pb} {k : Nat} (hp : GP p k) {y : List Kn × Bool} (h : factOk p y.1) {x : Kn} (hx : Gd (pTag p) k x) {b : Nat} (hb : b < (pNext p).length) :
    Rr p y (riseR (pTag p) b x y) ∧ belowV (pTag p) x ((riseR (pTag p) b x y).1.getD b (false, [])) = true := by
  unfold riseR
  by_cases hj : joinV (pTag p) (y.1.getD b (false, [])) x = y.1.getD b (false, [])
  · rw [if_pos hj]
    exact ⟨rr_refl hp h, below_iff.2 (by rw [join_comm hp.ht hx (fgd hp h b)]; exact hj)⟩
  · rw [if_neg hj]
    exact ⟨⟨up_fact hp h hx b, up_le hp h hx b, .inr ⟨rfl, up_sum hp h hx hb hj⟩⟩, up_x hp h hx hb⟩
theorem riseR_le {p : Pb} {k : Nat} (hp : GP p k) {y : List Kn × Bool} {G : List Kn} (h : factOk p y.1) (hG : factOk p G) {x : Kn} (hx : Gd (pTag p) k x) {b : Nat} (h1 : LeF (pTag p) y.1 G) (h2 : belowV (pTag p) x (G.getD b (false, [])) = true) : LeF (pTag p) (riseR (pTag p) b x y).1 G := by
  unfold riseR
  split
  · exact h1
  · exact up_least hp h hG hx h1 h2
theorem foldR_rr {p : Pb} {k : Nat} (hp : GP p k) {b : Nat} (hb : b < (pNext p).length) {out : Kn} (ho : Gd (pTag p) k out) {y : List Kn × Bool} (h : factOk p y.1) : ∀ i, i ≤ ((pNext p).getD b []).length →
    Rr p y (foldR (pTag p) out ((pEdges p).getD b []) ((pNext p).getD b []) i y) ∧ (foldR (pTag p) out ((pEdges p).getD b []) ((pNext p).getD b []) i y = y → ∀ j, j < i → belowV (pTag p) (edgeV (pTag p) out ((pEdges p).getD b []) j) (y.1.getD (((pNext p).getD b []).getD j 0).toNat (false, [])) = true)
  | 0, _ => ⟨rr_refl hp h, fun _ j hj => absurd hj (Nat.not_lt_zero _)⟩
  | i + 1, hi => by
    obtain ⟨h1, h2⟩ := foldR_rr hp hb ho h i (by omega)
    obtain ⟨h3, h4⟩ := riseR_rr hp h1.ok (edge_good hp hb ho i) (next_in hp hb (i := i) (by omega))
    refine ⟨rr_trans hp h h1 h3, fun e j hj => ?_⟩
    have e1 := rr_back h1 h3 e
    rcases Nat.lt_succ_iff_lt_or_eq.1 hj with hj | rfl
    · exact h2 e1 j hj
    · have e2 : riseR (pTag p) (((pNext p).getD b []).getD j 0).toNat (edgeV (pTag p) out ((pEdges p).getD b []) j) (foldR (pTag p) out ((pEdges p).getD b []) ((pNext p).getD b []) j y) = y := e
      rw [e2] at h4
      exact h4
theorem foldR_le {p : Pb} {k : Nat} (hp : GP p k) {b : Nat} (hb : b < (pNext p).length) {out : Kn} (ho : Gd (pTag p) k out) {y : List Kn × Bool} (h : factOk p y.1) {G : List Kn} (hG : factOk p G) (h1 : LeF (pTag p) y.1 G) (h2 : ∀ j, j < ((pNext p).getD b []).length → belowV (pTag p) (edgeV (pTag p) out ((pEdges p).getD b []) j) (G.getD (((pNext p).getD b []).getD j 0).toNat (false, [])) = true) : ∀ i, i ≤ ((pNext p).getD b []).length →
    LeF (pTag p) (foldR (pTag p) out ((pEdges p).getD b []) ((pNext p).getD b []) i y).1 G
  | 0, _ => h1
  | i + 1, hi => riseR_le hp (foldR_rr hp hb ho h i (by omega)).1.ok hG (edge_good hp hb ho i) (foldR_le hp hb ho h hG h1 h2 i (by omega)) (h2 i (by omega))
theorem outR_good {p : Pb} {k : Nat} (hp : GP p k) {F : List Kn} (h : factOk p F) {b : Nat} (hb : b < (pNext p).length) : Gd (pTag p) k (outR p F b) := doV_good (fgd hp h b) (hp.hA b hb)
theorem roundR_rr {p : Pb} {k : Nat} (hp : GP p k) {y : List Kn × Bool} (h : factOk p y.1) : ∀ b, b ≤ (pNext p).length → Rr p y (roundR p b y) ∧ (roundR p b y = y → ∀ c, c < b → AgB p y.1 c)
  | 0, _ => ⟨rr_refl hp h, fun _ j hj => absurd hj (Nat.not_lt_zero _)⟩
  | b + 1, hi => by
    obtain ⟨h1, h2⟩ := roundR_rr hp h b (by omega)
    have hbn : b < (pNext p).length := by omega
    obtain ⟨h3, h4⟩ := foldR_rr hp hbn (outR_good hp h1.ok hbn) h1.ok ((pNext p).getD b []).length (Nat.le_refl _)
    refine ⟨rr_trans hp h h1 h3, fun e c hc => ?_⟩
    have e1 := rr_back h1 h3 e
    rcases Nat.lt_succ_iff_lt_or_eq.1 hc with hc | rfl
    · exact h2 e1 c hc
    · rw [e1] at h4
      have e2 : blockR p c (roundR p c y) = y := e
      rw [e1] at e2
      exact h4 e2
theorem roundR_le {p : Pb} {k : Nat} (hp : GP p k) {y : List Kn × Bool} (h : factOk p y.1) {G : List Kn} (hG : factOk p G) (hA : ∀ b, b < (pNext p).length → AgB p G b) (h1 : LeF (pTag p) y.1 G) : ∀ b, b ≤ (pNext p).length → LeF (pTag p) (roundR p b y).1 G
  | 0, _ => h1
  | b + 1, hi => by
    have hbn : b < (pNext p).length := by omega
    have h2 := (roundR_rr hp h b (by omega)).1.ok
    have h3 := roundR_le hp h hG hA h1 b (by omega)
    have ho := outR_good hp h2 hbn
    have ho' := outR_good hp hG hbn
    refine foldR_le hp hbn ho h2 hG h3 (fun j hj => ?_) _ (Nat.le_refl _)
    exact below_trans hp.ht (edge_good hp hbn ho j) (edge_good hp hbn ho' j) (fgd hp hG _) (edge_mono hp hbn ho ho' (do_mono hp.ht (fgd hp h2 b) (fgd hp hG b) (h3 b) (hp.hA b hbn)) hj) (hA b hbn j hj)
theorem rep_fact (p : Pb) : factOk p (List.replicate (pNext p).length (false, [])) := ⟨by simp, fun f hf => by
  have := List.eq_of_mem_replicate hf
  subst this; exact gd_bot _ _⟩
theorem startR_ok {p : Pb} {k : Nat} (hp : GP p k) {G : List Kn} (hG : factOk p G) (hA : AgS p G) : ∀ i, i ≤ (pStart p).length → factOk p (startR p i) ∧ (∀ j, j < i → belowV (pTag p) (pFirst p) ((startR p i).getD ((pStart p).getD j 0).toNat (false, [])) = true) ∧ LeF (pTag p) (startR p i) G
  | 0, _ => ⟨rep_fact p, fun j hj => absurd hj (Nat.not_lt_zero _), fun x => by
      have : (startR p 0).getD x (false, []) = (false, []) := getD_rep _ _ _
      rw [this]; exact below_bot⟩
  | i + 1, hi => by
    obtain ⟨h1, h2, h3⟩ := startR_ok hp hG hA i (by omega)
    have hb : 0 ≤ (pStart p).getD i 0 ∧ (pStart p).getD i 0 < ((pNext p).length : Int) := by rw [getD_at (l := pStart p) (i := i) (by omega)]; exact hp.hs _ (List.getElem_mem _)
    have e : startR p (i + 1) = upF (pTag p) (startR p i) ((pStart p).getD i 0).toNat (pFirst p) := rfl
    rw [e]
    have h4 := up_fact hp h1 hp.hf ((pStart p).getD i 0).toNat
    refine ⟨h4, fun j hj => ?_, up_least hp h1 hG hp.hf h3 (hA i (by omega))⟩
    rcases Nat.lt_succ_iff_lt_or_eq.1 hj with hj | rfl
    · exact below_trans hp.ht hp.hf (fgd hp h1 _) (fgd hp h4 _) (h2 j hj) (up_le hp h1 hp.hf _ _)
    · exact up_x hp h1 hp.hf (by omega)
theorem lef_anti {p : Pb} {k : Nat} (hp : GP p k) {F G : List Kn} (hF : factOk p F) (hG : factOk p G) (h1 : LeF (pTag p) F G) (h2 : LeF (pTag p) G F) : F = G := by
  refine list_eq_all ((false, []) : Kn) (by rw [hF.1, hG.1]) (fun j _ => ?_)
  exact below_anti hp.ht (fgd hp hF j) (fgd hp hG j) (h1 j) (h2 j)
theorem sumK_h {t : Int} {k : Nat} (hk : k ≤ 20) (ht : tagB t = true) : ∀ {F : List Kn}, (∀ f ∈ F, Gd t k f) → (sumK t F : Int) ≤ (F.length : Int) * heightV t k
  | [], _ => by simp [sumK]
  | f :: r, h => by
    have h1 := rank_most (k := k) (by omega) ht (h f (by simp))
    have h2 := sumK_h hk ht (F := r) (fun x hx => h x (by simp [hx]))
    have e : (((f :: r).length : Nat) : Int) * heightV t k = (r.length : Int) * heightV t k + heightV t k := by
      rw [List.length_cons, show (((r.length + 1 : Nat)) : Int) = (r.length : Int) + 1 by omega, Int.add_mul, Int.one_mul]
    rw [e]
    simp only [sumK]
    omega
theorem height_h {t : Int} {k : Nat} (hk : k ≤ 20) (ht : tagB t = true) : 0 ≤ heightV t k ∧ heightV t k ≤ 1 + 2 * (k : Int) := by
  have hb : boundV k = k := by rw [bound_is]; omega
  unfold heightV
  rw [if_neg (fun x => by rcases x with x | x; omega; rw [ht] at x; cases x), hb]
  split <;> omega
end Go.Proofs.Ytloiimhmmcheoaa.Ch
