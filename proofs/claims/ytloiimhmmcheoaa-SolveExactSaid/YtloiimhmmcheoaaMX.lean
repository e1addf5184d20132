/- Chapter 21 (solve): the reference's Solve, proved. No condition. -/
import Derived.Test.YtloiimhmmcheoaaMWV
namespace Go.Proofs.Ytloiimhmmcheoaa.Ch
open Go Go.Proofs Go.Proofs.Ytloiimhmmcheoaa.Sx
set_option linter.unusedVariables false
set_option linter.unusedSimpArgs false

theorem gokV : GOK Try.prog (gam gV) := gam_ok ⟨rsame_ok, qjoin_ok, qdo_ok, trivial⟩
theorem fact_len {p : Pb} {F : List Kn} (h : factOk p F) : F.length = (pNext p).length := h.1
theorem v0_loop (p : Pb) (hP : smallP p) (Q : Exit → SS → Prop) (h1 : Q (.exit 0) (stVX p (startR p (pStart p).length))) : W 0 Try.prog (.loop (lp Try.f17 0)) (stV p (List.replicate (pNext p).length (false, [])) 4 0) Q := by
  obtain ⟨hf1, hf2, _⟩ := solve_agr hP
  obtain ⟨hg, hl, hn, hsl, hnl⟩ := hP
  obtain ⟨k, hp⟩ := goodP_gp hg
  have hk : k ≤ 20 := by have := hp.hn; omega
  refine W_all (fun i => stV p (startR p i) 4 i) (pStart p).length (fun _ => True) [1, 3, 4] [1, 3] [2] (fun i hi ho K hK => ?_)
  refine sx_ok (Λ := noLam) gokV _ 0 _ _ noLam_ok ?_
  rw [vc_v0]
  intro _
  obtain ⟨hs1, _, _⟩ := startR_ok hp hf1 hf2.1 i hi
  have hlen := hs1.1
  refine cond_of (fun hc => ?_) (fun hc => ?_)
  · have hc : i < (pStart p).length := by simpa using hc
    have ei : IntKind.i64.wrap ((i : Int) + 1) = ((i + 1 : Nat) : Int) := w64n (n := i + 1) (by omega)
    have hb : 0 ≤ (pStart p).getD i 0 ∧ (pStart p).getD i 0 < ((pNext p).length : Int) := by rw [getD_at (l := pStart p) (i := i) hc]; exact hp.hs _ (List.getElem_mem _)
    rw [ei, Int.toNat_natCast, Nat.zero_add]
    have hi0 : (0 : Int) ≤ (i : Int) := by omega
    have hi1 : (i : Int) < ((pStart p).length : Int) := by omega
    have hb1 : (pStart p).getD i 0 < ((startR p i).length : Int) := by omega
    have hb2 : ((pStart p).getD i 0).toNat < (startR p i).length := by omega
    have hsm := (fact_small hp hk hs1 (i := ((pStart p).getD i 0).toNat) (by omega)).2
    have hKK := hK hc trivial
    have el : (startR p i).length = (startR p (i + 1)).length := by simp [startR]
    have hKK : K { nt := 137, fr := [(1, .p (.c (.ptr 0 0))), (3, .p (.c (.view tKn 1 0 (startR p i).length))), (4, .p (ti ((i + 1 : Nat) : Int)))], hp := [.cells 29 (toCV tPb p), .row 27 tKn (startR p (i + 1))] } := by rw [el]; exact hKK
    exact ⟨hi0, hi1, hc, hi0, hi1, hc, hb.1, hb1, hb2, ⟨hsm, gd_small hk hp.hf⟩, hb.1, hb1, hb2, hKK⟩
  · have hc : ¬ i < (pStart p).length := by simpa using hc
    have : i = (pStart p).length := by omega
    rw [this]
    exact h1
theorem v6_loop (p : Pb) (r : Nat) (y0 : List Kn × Bool) (b : Nat) (hP : smallP p) (hF : factOk p y0.1) (hb : b < (pNext p).length) (Q : Exit → SS → Prop) (h1 : Q (.exit 6) (stV4 p r (blockR p b y0) b)) : W 0 Try.prog (.loop (lpIn (lpIn (lp Try.f17 1) 2 0) 4 0)) (stV6 p r y0 b (outR p y0.1 b) 0) Q := by
  obtain ⟨hg, hl, hn, hsl, hnl⟩ := hP
  obtain ⟨k, hp⟩ := goodP_gp hg
  have hk : k ≤ 20 := by have := hp.hn; omega
  have hgo := outR_good hp hF hb
  have h1 : Q (.exit 6) (stV4 p r (foldR (pTag p) (outR p y0.1 b) ((pEdges p).getD b []) ((pNext p).getD b []) ((pNext p).getD b []).length y0) b) := h1
  generalize outR p y0.1 b = out at hgo h1 ⊢
  refine W_all (fun i => stV6 p r (foldR (pTag p) out ((pEdges p).getD b []) ((pNext p).getD b []) i y0) b out i) ((pNext p).getD b []).length (fun _ => True) [1, 3, 5, 6, 7, 8, 9] [1, 3, 5, 6, 7] [2] (fun i hi ho K hK => ?_)
  refine sx_ok (Λ := noLam) gokV _ 6 _ _ noLam_ok ?_
  rw [vc_v6]
  have hK : i < ((pNext p).getD b []).length → K (stV6 p r (riseR (pTag p) (((pNext p).getD b []).getD i 0).toNat (edgeV (pTag p) out ((pEdges p).getD b []) i) (foldR (pTag p) out ((pEdges p).getD b []) ((pNext p).getD b []) i y0)) b out (i + 1)) := fun h => hK h trivial
  have hyo := (foldR_rr hp hb hgo hF i hi).1.ok
  have hend : i = ((pNext p).getD b []).length → Q (.exit 6) (stV4 p r (foldR (pTag p) out ((pEdges p).getD b []) ((pNext p).getD b []) i y0) b) := fun e => by rw [e]; exact h1
  generalize foldR (pTag p) out ((pEdges p).getD b []) ((pNext p).getD b []) i y0 = y at hK hyo hend ⊢
  have hnb : ((pNext p).getD b []).length ≤ 20 := by rw [getD_at hb]; exact hnl _ (List.getElem_mem hb)
  rw [Int.toNat_natCast]
  have hb0 : (0 : Int) ≤ (b : Int) := by omega
  have hb1 : (b : Int) < ((pNext p).length : Int) := by omega
  refine ⟨hb0, hb1, hb, fun _ => cond_of (fun hc => ?_) (fun hc => ?_)⟩
  · have hc : i < ((pNext p).getD b []).length := by simpa using hc
    have ei : IntKind.i64.wrap ((i : Int) + 1) = ((i + 1 : Nat) : Int) := w64n (n := i + 1) (by omega)
    rw [ei, Int.toNat_natCast]
    have hw : ((pNext p).getD b []).getD i 0 ∈ (pNext p).getD b [] := by rw [getD_at (l := (pNext p).getD b []) (i := i) hc]; exact List.getElem_mem _
    obtain ⟨hw0, hw1⟩ := hp.hw b hb _ hw
    have hFl := hyo.1
    have heg := edge_good hp hb hgo i
    have hei : belowV (pTag p) (false, []) (false, []) = true := below_bot
    have g2 := (fact_small hp hk hyo (i := (((pNext p).getD b []).getD i 0).toNat) (by omega)).2
    have he := hp.he
    have heb : b < (pEdges p).length := by omega
    have heb1 : (b : Int) < ((pEdges p).length : Int) := by omega
    have hi0 : (0 : Int) ≤ (i : Int) := by omega
    have hi1 : (i : Int) < (((pNext p).getD b []).length : Int) := by omega
    have hw2 : ((pNext p).getD b []).getD i 0 < (y.1.length : Int) := by omega
    have hw3 : 0 + (((pNext p).getD b []).getD i 0).toNat < y.1.length := by omega
    have hK := hK hc
    rw [Nat.zero_add] at hw3
    rw [Nat.zero_add]
    have fin : ∀ x : Kn, edgeV (pTag p) out ((pEdges p).getD b []) i = x → bif !decide (joinV (pTag p) (y.1.getD (((pNext p).getD b []).getD i 0).toNat (false, [])) x = y.1.getD (((pNext p).getD b []).getD i 0).toNat (false, [])) then 0 ≤ ((pNext p).getD b []).getD i 0 ∧ ((pNext p).getD b []).getD i 0 < (y.1.length : Int) ∧ (((pNext p).getD b []).getD i 0).toNat < y.1.length ∧
        K { nt := 137, fr := [(1, .p (.c (.ptr 0 0))), (3, .p (.c (.view tKn 1 0 y.1.length))), (5, .p (ti r)), (6, .p (tb true)), (7, .p (ti b)), (8, .p (.c (.ptr 2 0))), (9, .p (ti ((i + 1 : Nat) : Int)))], hp := [.cells 29 (toCV tPb p), .row 27 tKn (y.1.set (((pNext p).getD b []).getD i 0).toNat (joinV (pTag p) (y.1.getD (((pNext p).getD b []).getD i 0).toNat (false, [])) x)), .cells 27 [.bool out.1, .row tI out.2]] }
        else K { nt := 137, fr := [(1, .p (.c (.ptr 0 0))), (3, .p (.c (.view tKn 1 0 y.1.length))), (5, .p (ti r)), (6, .p (tb y.2)), (7, .p (ti b)), (8, .p (.c (.ptr 2 0))), (9, .p (ti ((i + 1 : Nat) : Int)))], hp := [.cells 29 (toCV tPb p), .row 27 tKn y.1, .cells 27 [.bool out.1, .row tI out.2]] } := by
      intro x hx
      subst hx
      refine cond_of (fun hj => ⟨hw0, hw2, hw3, ?_⟩) (fun hj => ?_)
      · have hj : ¬ (joinV (pTag p) (y.1.getD (((pNext p).getD b []).getD i 0).toNat (false, [])) (edgeV (pTag p) out ((pEdges p).getD b []) i) = y.1.getD (((pNext p).getD b []).getD i 0).toNat (false, [])) := by
          intro e; rw [decide_eq_true e] at hj; cases hj
        unfold riseR at hK
        rw [if_neg hj] at hK
        rw [show y.1.length = (y.1.set (((pNext p).getD b []).getD i 0).toNat (joinV (pTag p) (y.1.getD (((pNext p).getD b []).getD i 0).toNat (false, [])) (edgeV (pTag p) out ((pEdges p).getD b []) i))).length from List.length_set.symm]
        exact hK
      · have hj : joinV (pTag p) (y.1.getD (((pNext p).getD b []).getD i 0).toNat (false, [])) (edgeV (pTag p) out ((pEdges p).getD b []) i) = y.1.getD (((pNext p).getD b []).getD i 0).toNat (false, []) :=
          Decidable.byContradiction fun e => by rw [decide_eq_false e] at hj; cases hj
        unfold riseR at hK
        rw [if_pos hj] at hK
        exact hK
    refine ⟨hb0, heb1, heb, fun _ => cond_of (fun hE => ?_) (fun hE => ?_)⟩
    · have hE : 0 < ((pEdges p).getD b []).length := by simpa using hE
      have hx : ((pEdges p).getD b []).length = ((pNext p).getD b []).length := by rcases hp.hx b hb with h | h; omega; exact h
      have hiE : i < ((pEdges p).getD b []).length := by omega
      have hiE1 : (i : Int) < (((pEdges p).getD b []).length : Int) := by omega
      have ev : edgeV (pTag p) out ((pEdges p).getD b []) i = doV (pTag p) out (((pEdges p).getD b []).getD i []) := by unfold edgeV; rw [if_pos hE]
      have hfin := fin _ ev
      rw [ev] at heg
      have hsm := gd_small hk heg
      have hso := gd_small hk hgo
      repeat' (first | exact hb0 | exact heb1 | exact heb | exact hi0 | exact hiE1 | exact hiE | exact hso | exact hb1 | exact hb | exact hi1 | exact hc | exact hw0 | exact hw2 | exact hw3 | exact g2 | exact hsm | exact hfin | apply And.intro)
    · have hE : ¬ 0 < ((pEdges p).getD b []).length := by simpa using hE
      have ev : edgeV (pTag p) out ((pEdges p).getD b []) i = out := by unfold edgeV; rw [if_neg hE]
      have hfin := fin _ ev
      have hso := gd_small hk hgo
      repeat' (first | exact hb0 | exact heb1 | exact heb | exact hi0 | exact hso | exact hb1 | exact hb | exact hi1 | exact hc | exact hw0 | exact hw2 | exact hw3 | exact g2 | exact hfin | apply And.intro)
  · have hc : ¬ i < ((pNext p).getD b []).length := by simpa using hc
    exact hend (by omega)
theorem v4_loop (p : Pb) (r : Nat) (y0 : List Kn × Bool) (hP : smallP p) (hF : factOk p y0.1) (Q : Exit → SS → Prop) (h1 : Q (.exit 4) (stV4X p r (roundR p (pNext p).length y0))) : W 0 Try.prog (.loop (lpIn (lp Try.f17 1) 2 0)) (stV4 p r y0 0) Q := by
  have hP' := hP
  obtain ⟨hg, hl, hn, hsl, hnl⟩ := hP
  obtain ⟨k, hp⟩ := goodP_gp hg
  have hk : k ≤ 20 := by have := hp.hn; omega
  refine W_all (fun b => stV4 p r (roundR p b y0) b) (pNext p).length (fun _ => True) [1, 3, 5, 6, 7] [1, 3, 5, 6] [2] (fun b hi ho K hK => ?_)
  refine sx_ok (Λ := lam [(6, v6_l)]) gokV _ 4 _ _ (lokl (l := [(6, lpIn (lpIn (lp Try.f17 1) 2 0) 4 0)]) ⟨lam_ok fun x Q ⟨b1, b2, b3⟩ b4 => v6_loop x.1 x.2.1 x.2.2.1 x.2.2.2 b1 b2 b3 Q b4, trivial⟩) ?_
  rw [vc_v4]
  intro _
  have hyo := (roundR_rr hp hF b hi).1.ok
  have hK : b < (pNext p).length → K (stV4 p r (blockR p b (roundR p b y0)) (b + 1)) := fun h => hK h trivial
  have hend : b = (pNext p).length → Q (.exit 4) (stV4X p r (roundR p b y0)) := fun e => by rw [e]; exact h1
  generalize roundR p b y0 = y at hyo hK hend ⊢
  refine cond_of (fun hc => ?_) (fun hc => ?_)
  · have hc : b < (pNext p).length := by simpa using hc
    have ei : IntKind.i64.wrap ((b : Int) + 1) = ((b + 1 : Nat) : Int) := w64n (n := b + 1) (by omega)
    rw [Int.toNat_natCast, Nat.zero_add]
    have hFl := hyo.1
    have ha := hp.ha
    have hb0 : (0 : Int) ≤ (b : Int) := by omega
    have hb1 : (b : Int) < (y.1.length : Int) := by omega
    have hb2 : (b : Int) < ((pActs p).length : Int) := by omega
    have hb3 : b < (pActs p).length := by omega
    have hb4 : b < y.1.length := by omega
    have g2 := (fact_small hp hk hyo (i := b) (by omega)).2
    have inner : ∃ (x : Pb × Nat × (List Kn × Bool) × Nat), stV6 p r y b (outR p y.1 b) 0 = stV6 x.1 x.2.1 x.2.2.1 x.2.2.2 (outR x.1 x.2.2.1.1 x.2.2.2) 0 ∧ (smallP x.1 ∧ factOk x.1 x.2.2.1.1 ∧ x.2.2.2 < (pNext x.1).length) ∧
        K { nt := 137, fr := [(1, .p (.c (.ptr 0 0))), (3, .p (.c (.view tKn 1 0 (blockR x.1 x.2.2.2 x.2.2.1).1.length))), (5, .p (ti x.2.1)), (6, .p (tb (blockR x.1 x.2.2.2 x.2.2.1).2)), (7, .p (.c (.int .i64 (IntKind.i64.wrap ((x.2.2.2 : Int) + 1)))))], hp := [.cells 29 (toCV tPb x.1), .row 27 tKn (blockR x.1 x.2.2.2 x.2.2.1).1] } :=
      ⟨(p, r, y, b), rfl, ⟨hP', hyo, hc⟩, by dsimp only; rw [ei]; exact hK hc⟩
    repeat' (first | exact hb0 | exact hb1 | exact hb2 | exact hb3 | exact hb4 | exact g2 | exact inner | apply And.intro)
  · have hc : ¬ b < (pNext p).length := by simpa using hc
    exact hend (by omega)
theorem v2_loop (p : Pb) (hP : smallP p) (Q : Exit → SS → Prop) (h1 : Q .ret (stVR (factsV p))) : W 0 Try.prog (.loop (lp Try.f17 1)) (stV p (startR p (pStart p).length) 5 0) Q := by
  obtain ⟨hf1, hf2, hf3, _, _⟩ := solve_agr hP
  have hP' := hP
  obtain ⟨hg, hl, hn, hsl, hnl⟩ := hP
  obtain ⟨k, hp⟩ := goodP_gp hg
  have hk : k ≤ 20 := by have := hp.hn; omega
  obtain ⟨hs1, hs2, hs3⟩ := startR_ok hp hf1 hf2.1 (pStart p).length (Nat.le_refl _)
  refine W_loopE (N := 0) (P := Try.prog) (body := lp Try.f17 1) (Q := Q) (fun x : Nat × List Kn => stV p x.2 5 x.1) (fun x => factOk p x.2 ∧ AgS p x.2 ∧ LeF (pTag p) x.2 (factsV p) ∧ x.1 ≤ sumK (pTag p) x.2) (fun x => 900 - sumK (pTag p) x.2) [1, 3, 5] [3] [2] (fun ⟨r, F⟩ ⟨hF, hA, hle, hr⟩ => ?_) (0, startR p (pStart p).length) ⟨hs1, hs2, hs3, Nat.zero_le _⟩
  dsimp only at hF hA hle hr ⊢
  refine sx_ok (Λ := lam [(4, v4_l)]) gokV _ 2 _ _ (lokl (l := [(4, lpIn (lp Try.f17 1) 2 0)]) ⟨lam_ok fun x Q ⟨b1, b2⟩ b3 => v4_loop x.1 x.2.1 x.2.2 b1 b2 Q b3, trivial⟩) ?_
  rw [vc_v2]
  intro _
  have hgd : ∀ G : List Kn, factOk p G → ∀ f ∈ G, Gd (pTag p) k f := fun G hG f hf => by rw [← hp.hn]; exact hG.2 f hf
  have hsum := sumK_h hk hp.ht (hgd F hF)
  have hh := height_h hk hp.ht
  have hpn := hp.hn
  have hFl := hF.1
  have hmul : ((pNext p).length : Int) * heightV (pTag p) k ≤ ((pNext p).length : Int) * (2 * (k : Int) + 2) := Int.mul_le_mul_of_nonneg_left (by omega) (by omega)
  have hmul2 : ((pNext p).length : Int) * (2 * (k : Int) + 2) ≤ ((pNext p).length : Int) * 42 := Int.mul_le_mul_of_nonneg_left (by omega) (by omega)
  have hmul3 : 0 ≤ ((pNext p).length : Int) * (2 * (k : Int) + 2) := Int.mul_nonneg (by omega) (by omega)
  have hb : (r : Int) < IntKind.i64.wrap (1 + IntKind.i64.wrap (((pNext p).length : Int) * IntKind.i64.wrap (IntKind.i64.wrap (2 * pN p) + 2))) := by
    rw [hpn, w64 (x := 2 * (k : Int)) (by omega) (by omega), w64 (x := 2 * (k : Int) + 2) (by omega) (by omega)]
    rw [w64 (x := ((pNext p).length : Int) * (2 * (k : Int) + 2)) (by omega) (by omega), w64 (by omega) (by omega)]
    rw [hFl] at hsum
    omega
  refine cond_of (fun _ => ?_) (fun hc => ?_)
  · obtain ⟨h3, h4⟩ := roundR_rr hp (y := (F, false)) hF (pNext p).length (Nat.le_refl _)
    have h5 := roundR_le hp (y := (F, false)) hF hf1 hf2.2 hle (pNext p).length (Nat.le_refl _)
    refine ⟨(p, r, F, false), rfl, ⟨hP', hF⟩, ?_⟩
    show bif !(roundR p (pNext p).length (F, false)).2 then _ else _
    refine cond_of (fun hc => ?_) (fun hc => ?_)
    · have he : roundR p (pNext p).length (F, false) = (F, false) := by
        rcases h3.ch with e | e
        · exact e
        · rw [e.1] at hc; cases hc
      have hAll := h4 he
      have hle2 := hf3 F hF ⟨hA, hAll⟩
      have heq := lef_anti hp hF hf1 hle hle2
      show Q .ret (stVR (roundR p (pNext p).length (F, false)).1)
      rw [he]
      show Q .ret (stVR F)
      rw [heq]
      exact h1
    · have h6 : sumK (pTag p) F < sumK (pTag p) (roundR p (pNext p).length (F, false)).1 := by
        rcases h3.ch with e | e
        · rw [e] at hc; cases hc
        · exact e.2
      have h7 := sumK_h hk hp.ht (hgd _ h3.ok)
      have h8 := h3.ok.1
      rw [h8] at h7
      have ei : IntKind.i64.wrap ((r : Int) + 1) = ((r + 1 : Nat) : Int) := w64n (n := r + 1) (by omega)
      refine ⟨(r + 1, (roundR p (pNext p).length (F, false)).1), by dsimp only; rw [ei]; rfl, ⟨h3.ok, fun i hi => ?_, h5, by show r + 1 ≤ sumK (pTag p) (roundR p (pNext p).length (F, false)).1; omega⟩, by show 900 - sumK (pTag p) (roundR p (pNext p).length (F, false)).1 < 900 - sumK (pTag p) F; rw [hFl] at hsum; omega⟩
      exact below_trans hp.ht hp.hf (fgd hp hF _) (fgd hp h3.ok _) (hA i hi) (h3.le _)
  · exfalso
    have := of_decide_eq_false hc
    exact this hb
theorem rsolve_ok : ∀ args h Q, rsolve_t args h Q → FSpec Try.prog 17 args h Q := trH_ok fun ((p, _) : Pb × Unit) _ Q ⟨hP, h⟩ => by
  dsimp only at hP h
  refine spec_frz 0 [] (spec_body (Λ := lam [(0, v0_l), (2, v2_l)]) gokV Try.func17 rfl (lokl (l := [(0, lp Try.f17 0), (2, lp Try.f17 1)]) ⟨lam_ok fun x Q b1 b2 => v0_loop x b1 Q b2, lam_ok fun x Q b1 b2 => v2_loop x b1 Q b2, trivial⟩) ?_)
  show body Try.prog (gam gV) (lam [(0, v0_l), (2, v2_l)]) Try.f17 [.agg (toCV tPb p)] [] _
  rw [vc_rsolve]
  have hl := hP.2.1
  intro _
  refine ⟨by omega, Int.le_refl _, by show (32 : Int) * ((pNext p).length : Int) ≤ 281474976710656; omega, p, ?_, hP, p, rfl, hP, rfl, _, _, _, _, rfl, rfl, ⟨by show 0 + (factsV p).length ≤ (factsV p).length; omega, trivial⟩, fun x hx => hx, ?_⟩
  · rw [Int.toNat_natCast, List.length_replicate]; rfl
  · show Q (.p (.c (.row tKn (vw (factsV p) 0 (factsV p).length)))) [.gone]
    rw [vw_all]; exact h
end Go.Proofs.Ytloiimhmmcheoaa.Ch
