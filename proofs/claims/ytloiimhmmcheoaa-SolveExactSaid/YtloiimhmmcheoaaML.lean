/- Chapter 21 (solve): Solve, proved: the main loop, the contract. No condition. -/
import Derived.Test.YtloiimhmmcheoaaMK
namespace Go.Proofs.Ytloiimhmmcheoaa.Ch
open Go Go.Proofs Go.Proofs.Ytloiimhmmcheoaa.Sx
set_option linter.unusedVariables false
set_option linter.unusedSimpArgs false

theorem vw_head {r L : List Int} {a : Nat} {b : Int} (h1 : a + (L.length + 1) ≤ r.length) (h2 : vw r a (L.length + 1) = b :: L) : r.getD a 0 = b ∧ vw r (a + 1) L.length = L := by
  have ha : a < r.length := by omega
  unfold vw at h2 ⊢
  rw [List.drop_eq_getElem_cons ha, List.take_succ_cons] at h2
  rw [getD_at ha]
  exact ⟨(List.cons.inj h2).1, (List.cons.inj h2).2⟩
structure S2D where
  k : Nat
  s : St
  r : List Int
  a : Nat
theorem solve_2 (d : SD) (hP : smallP d.p) (hm : mOk d.u d.l) (hS : SI d.p d.s) (hR : repL d.s d.r d.a) (Q : Exit → SS → Prop)
    (h1 : d.u + (runV d.p fuelV d.s).2 ≤ d.l → Q (.exit 2) (stSX (d.u + (runV d.p fuelV d.s).2) d.l (runV d.p fuelV d.s).1.F)) (h2 : d.l < d.u + (runV d.p fuelV d.s).2 → Q .ret (stSR d.l)) :
    W 1 Try.prog (.loop (lp Try.f9 1)) (stS2 d.u d.l d.p d.s d.r d.a) Q := by
  obtain ⟨u, l, p, s0, r0, a0⟩ := d
  dsimp only at hP hm hS hR h1 h2 ⊢
  have hP' := hP
  obtain ⟨hg, hl, hn, hsl, hnl⟩ := hP
  obtain ⟨k, hp⟩ := goodP_gp hg
  have hk : k ≤ 20 := by have := hp.hn; omega
  obtain ⟨hu0, hul, hl6⟩ := hm
  have e00 : u = u + ((0 : Nat) : Int) := by omega
  rw [show stS2 u l p s0 r0 a0 = stS2 (u + ((0 : Nat) : Int)) l p s0 r0 a0 from congrArg (fun v => stS2 v l p s0 r0 a0) e00]
  refine W_loopE (N := 1) (P := Try.prog) (body := lp Try.f9 1) (Q := Q) (fun y : S2D => stS2 (u + y.k) l p y.s y.r y.a)
    (fun y => u + y.k ≤ l ∧ SI p y.s ∧ repL y.s y.r y.a ∧ runV p fuelV s0 = ((runV p fuelV y.s).1, (runV p fuelV y.s).2 + y.k)) (fun y => 820 + y.s.L.length - sumK (pTag p) y.s.F) [1, 2, 6, 7, 8] [6] [4, 5] (fun ⟨c, s, r, a⟩ ⟨hc, hSi, hr, hrun⟩ => ?_) ⟨0, s0, r0, a0⟩ ⟨by simpa using hul, hS, hR, rfl⟩
  · dsimp only at hc hSi hr hrun ⊢
    refine sx_ok (Λ := lam [(4, s4_l)]) gokSol _ 2 _ _ (lokl (l := [(4, lpIn (lp Try.f9 1) 2 0)]) ⟨lam_ok fun x Q ⟨b1, b2, b3, b4, b5⟩ b => solve_4 x.d.u x.d.l x.d.p x.d.s x.d.r x.d.a x.b x.out b1 b2 b3 b4 b5 Q b, trivial⟩) ?_
    rw [vc_s2]
    intro _
    refine cond_of (fun hL => ?_) (fun hL => ?_)
    · have hL : 0 < s.L.length := by simpa using hL
      obtain ⟨F, L, I⟩ := s
      cases L with
      | nil => simp at hL
      | cons b L =>
        dsimp only [List.length_cons] at hr ⊢
        obtain ⟨hr1, hr2⟩ := hr
        obtain ⟨hb, htl⟩ := vw_head hr1 hr2
        have hr1 : a + (L.length + 1) ≤ r.length := hr1
        have hc : u + (c : Int) ≤ l := hc
        obtain ⟨hb0, hb1⟩ := hSi.ml b (by simp)
        obtain ⟨n, rfl⟩ : ∃ n : Nat, b = n := ⟨b.toNat, by omega⟩
        have hnn : n < (pNext p).length := by omega
        have hlF : F.length = (pNext p).length := hSi.lf
        have hlI : I.length = (pNext p).length := hSi.li
        have hnF : n < F.length := by omega
        have hgF : Gd (pTag p) k (F.getD n (false, [])) := by rw [getD_at hnF, ← hp.hn]; exact hSi.gd _ (List.getElem_mem hnF)
        have hdo := doV_good hgF (hp.hA n hnn)
        have hS1 : SI p ⟨F, L, I.set n false⟩ := ⟨hlF, by rw [List.length_set]; exact hlI, hSi.gd, fun x hx => hSi.ml x (by simp [hx]), by have := hSi.ll; simp only [List.length_cons] at this; dsimp only; omega⟩
        have hne : (⟨F, (n : Int) :: L, I⟩ : St).L ≠ [] := by simp
        obtain ⟨hS2, hdec⟩ := step_SI hp hSi hne
        have hrs := run_step hp hk hl hSi hne
        have hs2 := sum_820 hp hk hl hS2
        dsimp only at hdec
        have hb' : r.getD a (0 : tI.T) = (n : Int) := hb
        rw [hb', Int.toNat_natCast, Nat.zero_add]
        have e0 : (tKF.dft : Kn) = (false, []) := rfl
        rw [e0, show L.length + 1 - 1 = L.length from rfl]
        have hu3 : 0 ≤ u + (c : Int) := by omega
        have inner : u + (c : Int) < l → (F.getD n (false, [])).2.length ≤ 100000 ∧ (0 : Int) ≤ (n : Int) ∧ (n : Int) < ((pNext p).length : Int) ∧ n < (pNext p).length ∧ (((pNext p).getD n []).length ≤ maxI → ∃ x : SD4,
            ({ nt := 107, fr := soF ++ [(11, .p (ti n)), (12, .p (.c (.ptr 8 0))), (74, .p (.c (.row tI ((pNext p).getD n [])))), (75, .p (ti ((pNext p).getD n []).length)), (76, .p (ti 0))], hp := soB (u + (c : Int) + 1) l p F r (a + 1) L.length (I.set n false) ++ [.cells 27 [.bool (doV (pTag p) (F.getD n (false, [])) ((pActs p).getD n [])).1, .row tI (doV (pTag p) (F.getD n (false, [])) ((pActs p).getD n [])).2]] } : SS)
              = stS4 x.d.u x.d.l x.d.p x.d.s x.d.r x.d.a x.b x.out ((pNext x.d.p).getD x.b []) 0 ∧ (smallP x.d.p ∧ SI x.d.p x.d.s ∧ repL x.d.s x.d.r x.d.a ∧ x.b < (pNext x.d.p).length ∧ Gd (pTag x.d.p) (pN x.d.p) x.out) ∧
              ∀ (r : List Int) (a : Nat), SI x.d.p (foldS (pTag x.d.p) x.out ((pEdges x.d.p).getD x.b []) ((pNext x.d.p).getD x.b []) ((pNext x.d.p).getD x.b []).length x.d.s) → repL (foldS (pTag x.d.p) x.out ((pEdges x.d.p).getD x.b []) ((pNext x.d.p).getD x.b []) ((pNext x.d.p).getD x.b []).length x.d.s) r a →
                ∃ y : S2D, stS2 x.d.u x.d.l x.d.p (foldS (pTag x.d.p) x.out ((pEdges x.d.p).getD x.b []) ((pNext x.d.p).getD x.b []) ((pNext x.d.p).getD x.b []).length x.d.s) r a = stS2 (u + y.k) l p y.s y.r y.a ∧
                  (u + y.k ≤ l ∧ SI p y.s ∧ repL y.s y.r y.a ∧ runV p fuelV s0 = ((runV p fuelV y.s).1, (runV p fuelV y.s).2 + y.k)) ∧ 820 + y.s.L.length - sumK (pTag p) y.s.F < 820 + (L.length + 1) - sumK (pTag p) F) := fun hlt =>
          ⟨gd_small hk hgF, hb0, hb1, hnn, fun _ => ⟨⟨⟨u + (c : Int) + 1, l, p, ⟨F, L, I.set n false⟩, r, a + 1⟩, n, doV (pTag p) (F.getD n (false, [])) ((pActs p).getD n [])⟩, rfl, ⟨hP', hS1, ⟨by show a + 1 + L.length ≤ r.length; omega, htl⟩, hnn, by show Gd (pTag p) (pN p) _; rw [hp.hn]; exact hdo⟩, fun r' a' hS3 hr3 =>
            ⟨⟨c + 1, stepS p ⟨F, (n : Int) :: L, I⟩, r', a'⟩, by
              dsimp only
              rw [show u + ((c + 1 : Nat) : Int) = u + (c : Int) + 1 by omega]
              rfl, ⟨by show u + ((c + 1 : Nat) : Int) ≤ l; omega, hS3, hr3, by
                dsimp only
                rw [hrun, hrs]
                dsimp only
                rw [Nat.add_assoc, Nat.add_comm 1 c]⟩, by
              dsimp only
              simp only [List.length_cons] at hdec
              omega⟩⟩⟩
        refine ⟨⟨hu3, hc, hl6⟩, fun hlt => ?_, fun hnlt => ?_⟩
        · have hin := inner hlt
          have hac : (n : Int) < ((pActs p).length : Int) := by rw [hp.ha]; exact hb1
          have hac' : n < (pActs p).length := by rw [hp.ha]; exact hnn
          refine ⟨⟨by omega, rfl, by omega, hb0, by show (n : Int) < (I.length : Int); omega⟩, hb0, by show (n : Int) < (F.length : Int); omega, hb0, hac, hac', ?_⟩
          repeat' (first | exact hnF | exact hin | (rw [show I.length = (I.set n false).length from List.length_set.symm]; exact hin) | apply And.intro)
        · have hgt : l < u + ((runV p fuelV s0).2 : Int) := by rw [hrun, hrs]; dsimp only; omega
          have e : u + (c : Int) = l := by omega
          rw [e]
          exact h2 hgt
    · have hL : s.L = [] := by
        have : ¬ (0 < s.L.length) := by simpa using hL
        exact List.length_eq_zero_iff.1 (by omega)
      have he := run_end (p := p) hL
      rw [he] at hrun
      dsimp only at hrun
      rw [Nat.zero_add] at hrun
      rw [hrun] at h1
      exact h1 hc
/-- How many steps a problem takes; what holds then. -/
def stepsV (p : Pb) : Nat := (runV p fuelV (startS p)).2
def factsV (p : Pb) : List Kn := (runV p fuelV (startS p)).1.F
def sizeP (p : Pb) : Prop := (pNext p).length ≤ 20 ∧ pN p ≤ 20 ∧ (pStart p).length ≤ 20 ∧ ∀ x ∈ pNext p, x.length ≤ 20
noncomputable def solve_t : Tr := trH [.data tPb, .ptr 0] mtS fun x y Q => (mOk y.1.1 y.1.2.1 ∧ sizeP x.1) ∧ (goodP x.1 = false → Q (.tup [.c .nils, ti 1]) (mtH y.1.1 y.1.2.1)) ∧
  (goodP x.1 = true → (y.1.1 + stepsV x.1 ≤ y.1.2.1 → Q (.tup [.c (.row tKn (factsV x.1)), ti 0]) (mtH (y.1.1 + stepsV x.1) y.1.2.1 ++ [.gone])) ∧ (y.1.2.1 < y.1.1 + stepsV x.1 → Q (.tup [.c .nils, ti 18]) (mtH y.1.2.1 y.1.2.1)))
noncomputable def solve0_t : Tr := trH [.data tPb, .nilp] [] fun x y Q => Q (.tup [.c .nils, ti 1]) []
theorem solve_ok : ∀ args h Q, solve_t args h Q → FSpec Try.prog 9 args h Q := trH_ok fun ((p, _) : Pb × Unit × Unit) (((u, l, _), _) : (Int × Int × Unit) × Unit) Q ⟨⟨hm, hsz⟩, hA, hB⟩ => by
  dsimp only at hm hsz hA hB
  have hL : LOKL 1 Try.prog (lam [(0, s0_l), (2, s2_l)]) [(0, lp Try.f9 0), (2, lp Try.f9 1)] := ⟨lam_ok fun x Q b1 b => solve_0 x.1 x.2.1 x.2.2 b1 Q b, lam_ok fun x Q ⟨b1, b2, b3, b4⟩ ⟨c1, c2⟩ => solve_2 x b1 b2 b3 b4 Q c1 c2, trivial⟩
  refine spec_frzT 1 (by show 1 ≤ 1; omega) 27 tKn rfl (spec_body (Λ := lam [(0, s0_l), (2, s2_l)]) gokSol Try.func9 rfl (lokl hL) ?_)
  show body Try.prog (gam gSol) (lam [(0, s0_l), (2, s2_l)]) Try.f9 [.agg (toCV tPb p), .c (.ptr 0 0)] (mtH u l) _
  rw [vc_solve]
  refine cond_of (fun hc => .inl (hA (by simpa using hc))) (fun hc => ?_)
  have hg : goodP p = true := by simpa using hc
  have hP : smallP p := ⟨hg, hsz.1, hsz.2.1, hsz.2.2.1, hsz.2.2.2⟩
  obtain ⟨hB1, hB2⟩ := hB hg
  have hl := hsz.1
  intro _
  refine ⟨by omega, Int.le_refl _, by show (32 : Int) * ((pNext p).length : Int) ≤ 281474976710656; omega, fun _ => ⟨by omega, Int.le_refl _, by show (1 : Int) * ((pNext p).length : Int) ≤ 281474976710656; omega, fun _ => ⟨(u, l, p), ?_, hP, fun r a hS hr => ⟨⟨u, l, p, startS p, r, a⟩, rfl, ⟨hP, hm, hS, hr⟩, fun h => ?_, fun h => ?_⟩⟩⟩⟩
  · rw [Int.toNat_natCast]
  · exact .inr ⟨factsV p, .i64, 0, rfl, rfl, hB1 h⟩
  · exact .inl (hB2 h)
theorem vc_solve0n (p : Pb) (Q : SV → List HB → Prop) : (body Try.prog (gam gSol) noLam Try.f9 [PV.agg (toCV tPb p), PV.c CV.nilp] [] Q) = (Q (SV.tup [PV.c CV.nils, PV.c (CV.int IntKind.i64 (1 : Int))]) []) := by kernel_rfl
theorem solve0_ok : ∀ args h Q, solve0_t args h Q → FSpec Try.prog 9 args h Q := trH_ok fun ((p, _) : Pb × Unit × Unit) _ Q h => by
  refine spec_body (Λ := noLam) gokSol Try.func9 rfl noLam_ok ?_
  show body Try.prog (gam gSol) noLam Try.f9 [.agg (toCV tPb p), .c .nilp] [] _
  rw [vc_solve0n]
  exact h
end Go.Proofs.Ytloiimhmmcheoaa.Ch
