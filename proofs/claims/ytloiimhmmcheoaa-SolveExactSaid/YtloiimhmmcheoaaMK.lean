/- Chapter 21 (solve): Solve, proved. No condition. -/
import Derived.Test.YtloiimhmmcheoaaMJ
namespace Go.Proofs.Ytloiimhmmcheoaa.Ch
open Go Go.Proofs Go.Proofs.Ytloiimhmmcheoaa.Sx
set_option linter.unusedVariables false
set_option linter.unusedSimpArgs false

theorem gokSol : GOK Try.prog (gam gSol) := gam_ok ⟨goodP_ok, rise_ok, take_ok, pop_ok, do_ok, trivial⟩
theorem gd_small {t : Int} {k : Nat} (hk : k ≤ 20) {f : Kn} (h : Gd t k f) : f.2.length ≤ 100000 := by
  rcases cases_b f.1 with h1 | h1
  · rw [h.2 h1]; simp
  · have := (h.1 h1).1; omega
theorem si_small {p : Pb} {k : Nat} (hp : GP p k) (hk : k ≤ 20) {s : St} (h : SI p s) : smallF s.F := fun f hf => gd_small hk (by rw [← hp.hn]; exact h.gd f hf)
theorem si_ll {p : Pb} {k : Nat} (hp : GP p k) (hk : k ≤ 20) (hl : (pNext p).length ≤ 20) {s : St} (h : SI p s) : s.L.length ≤ 820 := by
  have := sum_820 hp hk hl h; have := h.ll; omega
theorem solve_4 (u l : Int) (p : Pb) (s : St) (r : List Int) (a : Nat) (b : Nat) (out : Kn) (hP : smallP p) (hS : SI p s) (hR : repL s r a) (hb : b < (pNext p).length) (ho : Gd (pTag p) (pN p) out) (Q : Exit → SS → Prop)
    (hq : ∀ r a, SI p (foldS (pTag p) out ((pEdges p).getD b []) ((pNext p).getD b []) ((pNext p).getD b []).length s) → repL (foldS (pTag p) out ((pEdges p).getD b []) ((pNext p).getD b []) ((pNext p).getD b []).length s) r a → Q (.exit 4) (stS2 u l p (foldS (pTag p) out ((pEdges p).getD b []) ((pNext p).getD b []) ((pNext p).getD b []).length s) r a)) :
    W 1 Try.prog (.loop (lpIn (lp Try.f9 1) 2 0)) (stS4 u l p s r a b out ((pNext p).getD b []) 0) Q := by
  obtain ⟨hg, hl, hn, _, hnl⟩ := hP
  obtain ⟨k, hp⟩ := goodP_gp hg
  have hk : k ≤ 20 := by have := hp.hn; omega
  rw [hp.hn] at ho
  refine W_loopE (N := 1) (P := Try.prog) (body := lpIn (lp Try.f9 1) 2 0) (Q := Q) (fun y : Nat × List Int × Nat => stS4 u l p (foldS (pTag p) out ((pEdges p).getD b []) ((pNext p).getD b []) y.1 s) y.2.1 y.2.2 b out ((pNext p).getD b []) y.1)
    (fun y => y.1 ≤ ((pNext p).getD b []).length ∧ repL (foldS (pTag p) out ((pEdges p).getD b []) ((pNext p).getD b []) y.1 s) y.2.1 y.2.2) (fun y => ((pNext p).getD b []).length - y.1) [1, 2, 6, 7, 8, 11, 12, 74, 75, 76] [1, 2, 6, 7, 8] [4, 5] (fun ⟨i, r, a⟩ ⟨hi, hr⟩ => ?_) (0, r, a) ⟨Nat.zero_le _, hR⟩
  dsimp only at hi hr ⊢
  obtain ⟨hSi, _⟩ := fold_SI hp hb ho hS i hi
  refine sx_ok (Λ := noLam) gokSol _ 4 _ _ noLam_ok ?_
  rw [vc_s4]
  refine cond_of (fun hc => ?_) (fun hc => ?_)
  · have hc : i < ((pNext p).getD b []).length := by simpa using hc
    have hw : ((pNext p).getD b []).getD i 0 ∈ (pNext p).getD b [] := by rw [getD_at (l := (pNext p).getD b []) (i := i) hc]; exact List.getElem_mem _
    obtain ⟨hw0, hw1⟩ := hp.hw b hb _ hw
    obtain ⟨hSn, _⟩ := fold_SI hp hb ho hS (i + 1) hc
    have hx := hp.hx b hb
    have hlen : b < (pEdges p).length := by rw [hp.he]; exact hb
    have heg := edge_good hp hb ho i
    have hstep : foldS (pTag p) out ((pEdges p).getD b []) ((pNext p).getD b []) (i + 1) s = riseS (pTag p) (((pNext p).getD b []).getD i 0).toNat (edgeV (pTag p) out ((pEdges p).getD b []) i) (foldS (pTag p) out ((pEdges p).getD b []) ((pNext p).getD b []) i s) := rfl
    have hnx : ((pNext p).getD b []).length ≤ 20 := by rw [getD_at hb]; exact hnl _ (List.getElem_mem hb)
    generalize hsi : foldS (pTag p) out ((pEdges p).getD b []) ((pNext p).getD b []) i s = si at *
    have hll := si_ll hp hk hl hSi
    have hsm := si_small hp hk hSi
    have hiF : si.I.length = si.F.length := by rw [hSi.li, hSi.lf]
    have hlF := hSi.lf
    have e0 : tI.dft = (0 : Int) := rfl
    rw [hr.2, Int.toNat_natCast, Int.toNat_natCast, e0]
    have eta : (⟨si.F, si.L, si.I⟩ : St) = si := rfl
    rw [eta]
    refine ⟨by omega, by omega, hc, by omega, by show (b : Int) < ((pEdges p).length : Int); omega, hlen, fun hm => ?_⟩
    have ei : IntKind.i64.wrap ((i : Int) + 1) = ((i + 1 : Nat) : Int) := w64n (n := i + 1) (by omega)
    have done : ∀ f, edgeV (pTag p) out ((pEdges p).getD b []) i = f → ∀ (r' : List Int) (a' : Nat), a' + (riseS (pTag p) (((pNext p).getD b []).getD i 0).toNat f si).L.length ≤ r'.length → vw r' a' (riseS (pTag p) (((pNext p).getD b []).getD i 0).toNat f si).L.length = (riseS (pTag p) (((pNext p).getD b []).getD i 0).toNat f si).L →
        ∃ y : Nat × List Int × Nat, ({ nt := 107, fr := soF ++ [(11, .p (ti b)), (12, .p (.c (.ptr 8 0))), (74, .p (.c (.row tI ((pNext p).getD b [])))), (75, .p (ti ((pNext p).getD b []).length)), (76, .p (ti (IntKind.i64.wrap ((i : Int) + 1))))], hp := soB u l p (riseS (pTag p) (((pNext p).getD b []).getD i 0).toNat f si).F r' a' (riseS (pTag p) (((pNext p).getD b []).getD i 0).toNat f si).L.length (riseS (pTag p) (((pNext p).getD b []).getD i 0).toNat f si).I ++ [.cells 27 [.bool out.1, .row tI out.2]] } : SS) = stS4 u l p (foldS (pTag p) out ((pEdges p).getD b []) ((pNext p).getD b []) y.1 s) y.2.1 y.2.2 b out ((pNext p).getD b []) y.1 ∧
          (y.1 ≤ ((pNext p).getD b []).length ∧ repL (foldS (pTag p) out ((pEdges p).getD b []) ((pNext p).getD b []) y.1 s) y.2.1 y.2.2) ∧ ((pNext p).getD b []).length - y.1 < ((pNext p).getD b []).length - i := by
      intro f hf r' a' h1 h2
      subst hf
      rw [← hstep] at h1 h2 ⊢
      exact ⟨(i + 1, r', a'), by rw [ei], ⟨hc, h1, h2⟩, by show _ - (i + 1) < _ - i; omega⟩
    have pre : (si.F.length = si.F.length ∧ a + si.L.length ≤ r.length ∧ si.I.length = si.I.length ∧ si.I.length = si.F.length) ∧ ((0 : Int) ≤ ((pNext p).getD b []).getD i 0 ∧ ((pNext p).getD b []).getD i 0 < (si.F.length : Int) ∧ si.L.length ≤ 1000000) := ⟨⟨rfl, hr.1, rfl, hiF⟩, hw0, by rw [hlF]; exact hw1, by omega⟩
    have hE' : List.getD p.2.2.1 b [] = (pEdges p).getD b [] := rfl
    rw [hE']
    refine cond_of (fun hE => ?_) (fun hE => ?_)
    · have hE : 0 < ((pEdges p).getD b []).length := by simpa using hE
      have hiE : i < ((pEdges p).getD b []).length := by omega
      have ed : edgeV (pTag p) out ((pEdges p).getD b []) i = doV (pTag p) out (((pEdges p).getD b []).getD i []) := by unfold edgeV; rw [if_pos hE]
      rw [ed] at heg
      exact ⟨by omega, by show (b : Int) < ((pEdges p).length : Int); omega, hlen, by omega, by omega, hiE, gd_small hk ho, ⟨pre.1, pre.2, hsm, gd_small hk heg⟩, done _ ed⟩
    · have hE : ¬ (0 < ((pEdges p).getD b []).length) := by simpa using hE
      have ed : edgeV (pTag p) out ((pEdges p).getD b []) i = out := by unfold edgeV; rw [if_neg hE]
      exact ⟨⟨pre.1, pre.2, hsm, gd_small hk ho⟩, done _ ed⟩
  · have hc : ¬ (i < ((pNext p).getD b []).length) := by simpa using hc
    have e : i = ((pNext p).getD b []).length := by omega
    subst e
    exact hq r a hSi hr
theorem solve_0 (u l : Int) (p : Pb) (hP : smallP p) (Q : Exit → SS → Prop) (hq : ∀ r a, SI p (startS p) → repL (startS p) r a → Q (.exit 0) (stS2 u l p (startS p) r a)) : W 1 Try.prog (.loop (lp Try.f9 0)) (stSE u l p) Q := by
  obtain ⟨hg, hl, hn, hsl, _⟩ := hP
  obtain ⟨k, hp⟩ := goodP_gp hg
  have hk : k ≤ 20 := by have := hp.hn; omega
  refine W_fix 3 (by omega) (W_ownH 3 tI 5 0 (W_fits (t := stS0 u l p (initS (pNext p).length) [] 0 0) ?_ ?_))
  · exact ⟨⟨rfl, rfl, rfl⟩, ⟨rfl, rfl, rfl, rfl, rfl, rfl, rfl, rfl, trivial⟩, by
      unfold initS
      dsimp only [soB]
      rw [List.length_replicate, List.length_replicate]
      rfl⟩
  have hseg : ∀ i, i ≤ (pStart p).length → SI p (startL (pTag p) (pFirst p) (initS (pNext p).length) ((pStart p).take i)) := fun i _ => start_SI hp _ _ (fun b hb => hp.hs b (List.mem_of_mem_take hb)) (init_SI p)
  have app : ∀ (m : List Int) (b : Int) (s : St), startL (pTag p) (pFirst p) s (m ++ [b]) = riseS (pTag p) b.toNat (pFirst p) (startL (pTag p) (pFirst p) s m) := by
    intro m
    induction m with
    | nil => intro b s; rfl
    | cons c m ih => intro b s; exact ih b _
  refine W_loopE (N := 1) (P := Try.prog) (body := lp Try.f9 0) (Q := Q) (fun y : Nat × List Int × Nat => stS0 u l p (startL (pTag p) (pFirst p) (initS (pNext p).length) ((pStart p).take y.1)) y.2.1 y.2.2 y.1)
    (fun y => y.1 ≤ (pStart p).length ∧ repL (startL (pTag p) (pFirst p) (initS (pNext p).length) ((pStart p).take y.1)) y.2.1 y.2.2) (fun y => (pStart p).length - y.1) [1, 2, 6, 7, 8, 35, 36, 37] [1, 2, 6, 7, 8] [4, 5] (fun ⟨i, r, a⟩ ⟨hi, hr⟩ => ?_) (0, [], 0) ⟨Nat.zero_le _, by simp [startL, initS, repL, vw]⟩
  dsimp only at hi hr ⊢
  have hSi := hseg i hi
  refine sx_ok (Λ := noLam) gokSol _ 0 _ _ noLam_ok ?_
  rw [vc_s0]
  refine cond_of (fun hc => ?_) (fun hc => ?_)
  · have hc : i < (pStart p).length := by simpa using hc
    have ei : IntKind.i64.wrap ((i : Int) + 1) = ((i + 1 : Nat) : Int) := w64n (n := i + 1) (by omega)
    have hb : (pStart p).getD i 0 ∈ pStart p := by rw [getD_at hc]; exact List.getElem_mem hc
    obtain ⟨hw0, hw1⟩ := hp.hs _ hb
    have hstep : startL (pTag p) (pFirst p) (initS (pNext p).length) ((pStart p).take (i + 1)) = riseS (pTag p) ((pStart p).getD i 0).toNat (pFirst p) (startL (pTag p) (pFirst p) (initS (pNext p).length) ((pStart p).take i)) := by
      rw [List.take_succ_eq_append_getElem hc, app, getD_at hc]
    generalize hsi : startL (pTag p) (pFirst p) (initS (pNext p).length) ((pStart p).take i) = si at *
    have hll := si_ll hp hk hl hSi
    have hsm := si_small hp hk hSi
    have hiF : si.I.length = si.F.length := by rw [hSi.li, hSi.lf]
    have hlF := hSi.lf
    have e0 : tI.dft = (0 : Int) := rfl
    rw [hr.2, Int.toNat_natCast, e0, ei]
    have eta : (⟨si.F, si.L, si.I⟩ : St) = si := rfl
    rw [eta]
    have done : ∀ (r' : List Int) (a' : Nat), a' + (riseS (pTag p) ((pStart p).getD i 0).toNat (pFirst p) si).L.length ≤ r'.length → vw r' a' (riseS (pTag p) ((pStart p).getD i 0).toNat (pFirst p) si).L.length = (riseS (pTag p) ((pStart p).getD i 0).toNat (pFirst p) si).L →
        ∃ y : Nat × List Int × Nat, stS0 u l p (riseS (pTag p) ((pStart p).getD i 0).toNat (pFirst p) si) r' a' (i + 1) = stS0 u l p (startL (pTag p) (pFirst p) (initS (pNext p).length) ((pStart p).take y.1)) y.2.1 y.2.2 y.1 ∧
          (y.1 ≤ (pStart p).length ∧ repL (startL (pTag p) (pFirst p) (initS (pNext p).length) ((pStart p).take y.1)) y.2.1 y.2.2) ∧ (pStart p).length - y.1 < (pStart p).length - i := by
      intro r' a' h1 h2
      rw [← hstep] at h1 h2 ⊢
      exact ⟨(i + 1, r', a'), rfl, ⟨hc, h1, h2⟩, by show _ - (i + 1) < _ - i; omega⟩
    exact ⟨by omega, by omega, hc, ⟨⟨rfl, hr.1, rfl, hiF⟩, ⟨hw0, by rw [hlF]; exact hw1, by omega⟩, hsm, gd_small hk hp.hf⟩, done⟩
  · have hc : ¬ (i < (pStart p).length) := by simpa using hc
    rw [List.take_of_length_le (by omega)] at hSi hr ⊢
    exact hq r a hSi hr
end Go.Proofs.Ytloiimhmmcheoaa.Ch
