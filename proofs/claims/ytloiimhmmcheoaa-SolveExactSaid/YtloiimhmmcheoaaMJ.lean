/- Chapter 21 (solve): what Solve does keeps what is right of it, and comes to an end: plain Lean. No condition. -/
import Derived.Test.YtloiimhmmcheoaaMIV
namespace Go.Proofs.Ytloiimhmmcheoaa.Ch
open Go Go.Proofs Go.Proofs.Ytloiimhmmcheoaa.Sx
set_option linter.unusedVariables false
set_option linter.unusedSimpArgs false

/-! ### acts -/
def ActG (t n : Int) (a : Ac) : Prop := 0 ≤ a.2.1 ∧ a.2.1 < n ∧ 0 ≤ a.2.2 ∧ (a.1 = 1 → a.2.2 ≤ mostV t) ∧ (a.1 = 2 → a.2.2 < n) ∧ (a.1 = 3 → a.2.2 ≤ mostV t ∧ (t = 1 → 1 ≤ a.2.2))
theorem act_good {t n : Int} (ht : tagB t = true) {a : Ac} (h : isActV t n a = true) : ActG t n a := by
  have key : ∀ most least : Int, actK n most least a = true → 0 ≤ a.2.1 ∧ a.2.1 < n ∧ 0 ≤ a.2.2 ∧ (a.1 = 1 → a.2.2 ≤ most) ∧ (a.1 = 2 → a.2.2 < n) ∧ (a.1 = 3 → a.2.2 ≤ most ∧ least ≤ a.2.2) := by
    intro most least hk
    unfold actK at hk
    cases h1 : (decide (a.2.1 < 0) || decide (a.2.1 ≥ n) || decide (a.2.2 < 0)) with
    | true => rw [h1] at hk; cases hk
    | false =>
      rw [h1] at hk
      simp only [cond_false] at hk
      simp only [Bool.or_eq_false_iff, decide_eq_false_iff_not] at h1
      refine ⟨by omega, by omega, by omega, fun e => ?_, fun e => ?_, fun e => ?_⟩
      · rw [e] at hk; simpa using hk
      · rw [e] at hk; simpa using hk
      · rw [e] at hk
        have : least ≤ a.2.2 ∧ a.2.2 ≤ most := by simpa using hk
        exact ⟨this.2, this.1⟩
  unfold isActV at h
  rcases tag_cases ht with rfl | rfl
  · obtain ⟨h1, h2, h3, h4, h5, h6⟩ := key 3 1 h
    unfold ActG; rw [most1]
    exact ⟨h1, h2, h3, h4, h5, fun e => ⟨(h6 e).1, fun _ => (h6 e).2⟩⟩
  · obtain ⟨h1, h2, h3, h4, h5, h6⟩ := key 1 0 h
    unfold ActG; rw [most2]
    exact ⟨h1, h2, h3, h4, h5, fun e => ⟨(h6 e).1, fun e => (by cases e)⟩⟩
theorem acts_good {t n : Int} (ht : tagB t = true) {l : List Ac} (h : l.any (badA t n) = false) : ∀ a ∈ l, ActG t n a := fun a ha => by
  have := List.any_eq_false.1 h a ha
  unfold badA at this
  exact act_good ht (by simpa using this)
def CsG (t : Int) (k : Nat) (c : List Int) : Prop := c.length = k ∧ ∀ x ∈ c, Cg t x
theorem cs_set {t : Int} {k : Nat} {c : List Int} (h : CsG t k c) {i : Nat} {x : Int} (hx : Cg t x) : CsG t k (c.set i x) :=
  ⟨by rw [List.length_set]; exact h.1, fun y hy => by rcases List.mem_or_eq_of_mem_set hy with hy | rfl; exact h.2 y hy; exact hx⟩
theorem cs_get {t : Int} {k : Nat} {c : List Int} (h : CsG t k c) {i : Nat} (hi : i < k) : Cg t (c.getD i 0) := by
  have : i < c.length := by rw [h.1]; exact hi
  rw [getD_at this]; exact h.2 _ (List.getElem_mem this)
theorem actV_good {t : Int} {k : Nat} {c d : List Int} (hc : CsG t k c) {a : Ac} (ha : ActG t k a) (h : actV t c a = some d) : CsG t k d := by
  obtain ⟨a1, a2, a3, a4, a5, a6⟩ := ha
  unfold actV at h
  split at h
  · cases h; exact hc
  · split at h
    · rename_i e; cases h; exact cs_set hc ⟨a3, a4 e⟩
    · split at h
      · rename_i e
        split at h
        · cases h; exact cs_set hc (cs_get hc (by have := a5 e; omega))
        · cases h; exact hc
      · split at h
        · rename_i e
          split at h
          · cases h
            unfold meetC
            cases (t != 1 || a.2.2 == 3) with
            | true => exact hc
            | false =>
              cases (c.getD a.2.1.toNat 0 == 3) with
              | true => exact cs_set hc ⟨a3, (a6 e).1⟩
              | false => exact hc
          · cases h
        · cases h; exact hc
theorem actsV_good {t : Int} {k : Nat} : ∀ {l : List Ac} {c d : List Int}, CsG t k c → (∀ a ∈ l, ActG t k a) → actsV t c l = some d → CsG t k d
  | [], c, d, hc, _, h => by simp only [actsV, Option.some.injEq] at h; subst h; exact hc
  | a :: l, c, d, hc, hl, h => by
    simp only [actsV] at h
    cases hA : actV t c a with
    | none => rw [hA] at h; cases h
    | some c' => rw [hA] at h; exact actsV_good (actV_good hc (hl a (by simp)) hA) (fun x hx => hl x (by simp [hx])) h
theorem gd_iff {t : Int} {k : Nat} {f : Kn} : Gd t k f ↔ (f.1 = true → CsG t k f.2) ∧ (f.1 = false → f.2 = []) := by
  unfold Gd CsG
  constructor
  · rintro ⟨h1, h2⟩; exact ⟨fun h => ⟨by have := (h1 h).1; omega, (h1 h).2⟩, h2⟩
  · rintro ⟨h1, h2⟩; exact ⟨fun h => ⟨by have := (h1 h).1; omega, (h1 h).2⟩, h2⟩
theorem gd_bot (t n : Int) : Gd t n (false, []) := ⟨fun h => (by cases h), fun _ => rfl⟩
theorem doV_good {t : Int} {k : Nat} {f : Kn} (hf : Gd t k f) {l : List Ac} (hl : ∀ a ∈ l, ActG t k a) : Gd t k (doV t f l) := by
  unfold doV
  rcases cases_b f.1 with h1 | h1
  · rw [if_pos h1]; exact gd_bot t k
  · rw [if_neg (by rw [h1]; simp)]
    cases hA : actsV t f.2 l with
    | none => exact gd_bot t k
    | some c => exact gd_iff.2 ⟨fun _ => actsV_good ((gd_iff.1 hf).1 h1) hl hA, fun h => by cases h⟩
/-! ### problems that can be -/
structure GP (p : Pb) (k : Nat) : Prop where
  hn : pN p = k
  ht : tagB (pTag p) = true
  hf : Gd (pTag p) k (pFirst p)
  ha : (pActs p).length = (pNext p).length
  he : (pEdges p).length = (pNext p).length
  hs : ∀ b ∈ pStart p, 0 ≤ b ∧ b < ((pNext p).length : Int)
  hx : ∀ i, i < (pNext p).length → ((pEdges p).getD i []).length = 0 ∨ ((pEdges p).getD i []).length = ((pNext p).getD i []).length
  hw : ∀ i, i < (pNext p).length → ∀ b ∈ (pNext p).getD i [], 0 ≤ b ∧ b < ((pNext p).length : Int)
  hA : ∀ i, i < (pNext p).length → ∀ a ∈ (pActs p).getD i [], ActG (pTag p) k a
  hE : ∀ i, i < (pNext p).length → ∀ e ∈ (pEdges p).getD i [], ∀ a ∈ e, ActG (pTag p) k a
theorem out_in {n : Int} {l : List Int} (h : l.any (outB n) = false) : ∀ b ∈ l, 0 ≤ b ∧ b < n := fun b hb => by
  have := List.any_eq_false.1 h b hb
  unfold outB at this
  simp only [Bool.or_eq_true, decide_eq_true_eq] at this
  omega
theorem goodP_gp {p : Pb} (h : goodP p = true) : ∃ k : Nat, GP p k := by
  unfold goodP numsB at h
  simp only [Bool.and_eq_true, decide_eq_true_eq, Bool.not_eq_true'] at h
  obtain ⟨⟨⟨h0, h1⟩, hg, ha, he⟩, hs, hb⟩ := h
  obtain ⟨ht, hf⟩ := good_iff.1 hg
  have h0' : 0 ≤ pN p := h0
  have hk : pN p = ((pN p).toNat : Int) := by omega
  have hb : ∀ i, i < p.1.length → isBlockV p i = true := fun i hi => List.all_eq_true.1 hb i (List.mem_range.2 hi)
  have hb' : ∀ i, i < p.1.length → _ := fun i hi => (by
    have := hb i hi
    unfold isBlockV at this
    simp only [Bool.and_eq_true, Bool.or_eq_true, decide_eq_true_eq, Bool.not_eq_true'] at this
    exact this)
  refine ⟨(pN p).toNat, hk, ht, by rw [← hk]; exact hf, ha, he, out_in hs, fun i hi => (hb' i hi).1, fun i hi => out_in (hb' i hi).2.2.2, fun i hi => ?_, fun i hi e he => ?_⟩
  · rw [← hk]; exact acts_good ht (hb' i hi).2.2.1
  · have := (hb' i hi).2.1
    unfold edgesB at this
    have := List.all_eq_true.1 this e he
    rw [← hk]
    exact acts_good ht (by simpa using this)
/-! ### sums of ranks -/
theorem sumK_set (t : Int) : ∀ (F : List Kn) (b : Nat) (j : Kn), b < F.length → sumK t (F.set b j) + rankV t (F.getD b (false, [])) = sumK t F + rankV t j
  | [], b, j, h => by simp at h
  | f :: r, 0, j, _ => by simp only [List.set_cons_zero, sumK, List.getD_cons_zero]; omega
  | f :: r, b + 1, j, h => by
    simp only [List.set_cons_succ, sumK, List.getD_cons_succ]
    have := sumK_set t r b j (by simpa using h)
    omega
theorem sumK_bot (t : Int) : ∀ n, sumK t (List.replicate n (false, [])) = 0
  | 0 => rfl
  | n + 1 => by rw [List.replicate_succ]; simp only [sumK, sumK_bot t n]; rfl
theorem sumK_most {t : Int} {k : Nat} (hk : k ≤ 20) (ht : tagB t = true) : ∀ {F : List Kn}, (∀ f ∈ F, Gd t k f) → sumK t F ≤ 41 * F.length
  | [], _ => by simp [sumK]
  | f :: r, h => by
    have h1 := rank_most (k := k) (by omega) ht (h f (by simp))
    have h2 := sumK_most hk ht (F := r) (fun x hx => h x (by simp [hx]))
    have hb : boundV k = k := by rw [bound_is]; omega
    have h3 : heightV t k ≤ 41 := by
      unfold heightV
      rw [hb]
      split
      · omega
      · split <;> omega
    simp only [sumK, List.length_cons]
    omega
/-! ### what Solve knows -/
theorem init_SI (p : Pb) : SI p (initS (pNext p).length) := ⟨by simp [initS], by simp [initS], fun f hf => by
  have : f = (false, []) := List.eq_of_mem_replicate hf
  subst this; exact gd_bot _ _, fun b hb => by simp [initS] at hb, by simp [initS]⟩
theorem rise_SI {p : Pb} {k : Nat} (hp : GP p k) {s : St} (h : SI p s) {f : Kn} (hf : Gd (pTag p) k f) {b : Nat} (hb : b < (pNext p).length) :
    SI p (riseS (pTag p) b f s) ∧ (riseS (pTag p) b f s).L.length + sumK (pTag p) s.F ≤ s.L.length + sumK (pTag p) (riseS (pTag p) b f s).F := by
  unfold riseS
  have hbF : b < s.F.length := by rw [h.lf]; exact hb
  have hg : Gd (pTag p) k (s.F.getD b (false, [])) := by rw [getD_at hbF, ← hp.hn]; exact h.gd _ (List.getElem_mem hbF)
  by_cases hj : joinV (pTag p) (s.F.getD b (false, [])) f = s.F.getD b (false, [])
  · rw [if_pos hj]; exact ⟨h, Nat.le_refl _⟩
  · rw [if_neg hj]
    have hr : rankV (pTag p) (s.F.getD b (false, [])) < rankV (pTag p) (joinV (pTag p) (s.F.getD b (false, [])) f) := by
      rcases join_rise hp.ht hg hf with e | e
      · exact absurd e.symm hj
      · exact e
    have hs := sumK_set (pTag p) s.F b (joinV (pTag p) (s.F.getD b (false, [])) f) hbF
    have hlen : (if s.I.getD b false = true then s.L else s.L ++ [(b : Int)]).length ≤ s.L.length + 1 := by split <;> simp
    refine ⟨⟨by dsimp only; rw [List.length_set]; exact h.lf, ?_, fun x hx => ?_, fun x hx => ?_, ?_⟩, ?_⟩
    · dsimp only; split
      · exact h.li
      · rw [List.length_set]; exact h.li
    · rcases List.mem_or_eq_of_mem_set hx with hx | rfl
      · exact h.gd x hx
      · rw [hp.hn]; exact join_good hp.ht hg hf
    · dsimp only at hx
      split at hx
      · exact h.ml x hx
      · rcases List.mem_append.1 hx with hx | hx
        · exact h.ml x hx
        · obtain rfl := List.mem_singleton.1 hx; omega
    · have := h.ll
      dsimp only; omega
    · dsimp only; omega
theorem start_SI {p : Pb} {k : Nat} (hp : GP p k) : ∀ (l : List Int) (s : St), (∀ b ∈ l, 0 ≤ b ∧ b < ((pNext p).length : Int)) → SI p s → SI p (startL (pTag p) (pFirst p) s l)
  | [], s, _, h => h
  | b :: r, s, hl, h => by
    have := hl b (by simp)
    exact start_SI hp r _ (fun x hx => hl x (by simp [hx])) (rise_SI hp h hp.hf (by omega)).1
theorem edge_good {p : Pb} {k : Nat} (hp : GP p k) {b : Nat} (hb : b < (pNext p).length) {out : Kn} (ho : Gd (pTag p) k out) (i : Nat) : Gd (pTag p) k (edgeV (pTag p) out ((pEdges p).getD b []) i) := by
  unfold edgeV
  split
  · refine doV_good ho ?_
    by_cases hi : i < ((pEdges p).getD b []).length
    · rw [getD_at hi]; exact hp.hE b hb _ (List.getElem_mem hi)
    · rw [List.getD_eq_getElem?_getD, List.getElem?_eq_none (by omega)]; intro a ha; simp at ha
  · exact ho
theorem fold_SI {p : Pb} {k : Nat} (hp : GP p k) {b : Nat} (hb : b < (pNext p).length) {out : Kn} (ho : Gd (pTag p) k out) {s : St} (h : SI p s) : ∀ i, i ≤ ((pNext p).getD b []).length →
    SI p (foldS (pTag p) out ((pEdges p).getD b []) ((pNext p).getD b []) i s) ∧ (foldS (pTag p) out ((pEdges p).getD b []) ((pNext p).getD b []) i s).L.length + sumK (pTag p) s.F ≤ s.L.length + sumK (pTag p) (foldS (pTag p) out ((pEdges p).getD b []) ((pNext p).getD b []) i s).F
  | 0, _ => ⟨h, Nat.le_refl _⟩
  | i + 1, hi => by
    obtain ⟨h1, h2⟩ := fold_SI hp hb ho h i (by omega)
    have hw : ((pNext p).getD b []).getD i 0 ∈ (pNext p).getD b [] := by
      rw [getD_at (l := (pNext p).getD b []) (i := i) (by omega)]; exact List.getElem_mem _
    have := hp.hw b hb _ hw
    obtain ⟨h3, h4⟩ := rise_SI hp h1 (edge_good hp hb ho i) (b := (((pNext p).getD b []).getD i 0).toNat) (by omega)
    exact ⟨h3, by simp only [foldS]; omega⟩
theorem step_SI {p : Pb} {k : Nat} (hp : GP p k) {s : St} (h : SI p s) (hL : s.L ≠ []) : SI p (stepS p s) ∧ (stepS p s).L.length + sumK (pTag p) s.F + 1 ≤ s.L.length + sumK (pTag p) (stepS p s).F := by
  obtain ⟨F, L, I⟩ := s
  cases L with
  | nil => exact absurd rfl hL
  | cons b r =>
    have hb := h.ml b (by simp)
    have hbn : b.toNat < (pNext p).length := by omega
    have h1 : SI p ⟨F, r, I.set b.toNat false⟩ := ⟨h.lf, by rw [List.length_set]; exact h.li, h.gd, fun x hx => h.ml x (by simp [hx]), by have := h.ll; simp only [List.length_cons] at this; dsimp only; omega⟩
    have hbF : b.toNat < F.length := by have := h.lf; dsimp only at this; omega
    have hg : Gd (pTag p) k (F.getD b.toNat (false, [])) := by rw [getD_at hbF, ← hp.hn]; exact h.gd _ (List.getElem_mem hbF)
    have ho := doV_good hg (hp.hA b.toNat hbn)
    obtain ⟨h2, h3⟩ := fold_SI hp hbn ho h1 _ (Nat.le_refl _)
    refine ⟨h2, ?_⟩
    dsimp only at h3
    show (stepS p ⟨F, b :: r, I⟩).L.length + sumK (pTag p) F + 1 ≤ (b :: r).length + _
    simp only [List.length_cons]
    unfold stepS
    simp only [List.headD_cons, List.tail_cons]
    omega
theorem sum_820 {p : Pb} {k : Nat} (hp : GP p k) (hk : k ≤ 20) (hl : (pNext p).length ≤ 20) {s : St} (h : SI p s) : sumK (pTag p) s.F ≤ 820 := by
  have := sumK_most hk hp.ht (F := s.F) (fun f hf => by rw [← hp.hn]; exact h.gd f hf)
  have := h.lf
  omega
theorem runV_succ (p : Pb) (k : Nat) (s : St) : runV p (k + 1) s = match s.L with | [] => (s, 0) | _ :: _ => ((runV p k (stepS p s)).1, (runV p k (stepS p s)).2 + 1) := rfl
theorem run_fuel {p : Pb} {k : Nat} (hp : GP p k) (hk : k ≤ 20) (hl : (pNext p).length ≤ 20) : ∀ (m n : Nat) (s : St), SI p s → 820 + s.L.length - sumK (pTag p) s.F < m → 820 + s.L.length - sumK (pTag p) s.F < n → runV p m s = runV p n s
  | 0, n, s, _, h, _ => by omega
  | m + 1, 0, s, _, _, h => by omega
  | m + 1, n + 1, s, hs, h1, h2 => by
    rw [runV_succ, runV_succ]
    cases hL : s.L with
    | nil => rfl
    | cons b r =>
      obtain ⟨h3, h4⟩ := step_SI hp hs (by rw [hL]; simp)
      have h5 := sum_820 hp hk hl h3
      have h6 := sum_820 hp hk hl hs
      dsimp only
      rw [run_fuel hp hk hl m n (stepS p s) h3 (by omega) (by omega)]
theorem run_step {p : Pb} {k : Nat} (hp : GP p k) (hk : k ≤ 20) (hl : (pNext p).length ≤ 20) {s : St} (hs : SI p s) (hL : s.L ≠ []) : runV p fuelV s = ((runV p fuelV (stepS p s)).1, (runV p fuelV (stepS p s)).2 + 1) := by
  obtain ⟨h3, h4⟩ := step_SI hp hs hL
  have h5 := sum_820 hp hk hl h3
  have h6 := sum_820 hp hk hl hs
  have e : runV p fuelV s = ((runV p 999 (stepS p s)).1, (runV p 999 (stepS p s)).2 + 1) := by
    rw [show fuelV = 999 + 1 from rfl, runV_succ]
    cases hL' : s.L with
    | nil => exact absurd hL' hL
    | cons b r => rfl
  have := h3.ll; have := hs.ll
  rw [e, run_fuel hp hk hl 999 fuelV (stepS p s) h3 (by omega) (by unfold fuelV; omega)]
theorem run_end {p : Pb} {s : St} (hL : s.L = []) : runV p fuelV s = (s, 0) := by
  rw [show fuelV = 999 + 1 from rfl, runV_succ, hL]
end Go.Proofs.Ytloiimhmmcheoaa.Ch
