/- Chapter 21 (solve): what Solve finds agrees with what blocks do, and is the least: plain Lean. No condition. -/
import Derived.Test.YtloiimhmmcheoaaMN
namespace Go.Proofs.Ytloiimhmmcheoaa.Ch
open Go Go.Proofs Go.Proofs.Ytloiimhmmcheoaa.Sx
set_option linter.unusedVariables false
set_option linter.unusedSimpArgs false

/-! ### cells, rows of cells -/
theorem getD_set {α : Type} (l : List α) (i j : Nat) (x d : α) : (l.set i x).getD j d = if i = j ∧ j < l.length then x else l.getD j d := by
  simp only [List.getD_eq_getElem?_getD, List.getElem?_set]
  by_cases h : i = j
  · subst h
    by_cases h2 : i < l.length
    · simp [h2]
    · simp [h2]
  · simp [h]
def CL (t : Int) (c d : List Int) : Prop := c.length = d.length ∧ ∀ i, i < c.length → cellV t (c.getD i 0) (d.getD i 0) = d.getD i 0
theorem cl_zip {t : Int} {c d : List Int} (hl : c.length = d.length) : CL t c d ↔ List.zipWith (cellV t) c d = d := by
  constructor
  · rintro ⟨_, h⟩
    refine List.ext_getElem (by simp [hl]) (fun i h1 h2 => ?_)
    have hc : i < c.length := by omega
    have := h i hc
    rw [getD_at hc, getD_at h2] at this
    rw [List.getElem_zipWith]; exact this
  · intro h
    refine ⟨hl, fun i hc => ?_⟩
    have h2 : i < d.length := by omega
    rw [getD_at hc, getD_at h2]
    have h3 : i < (List.zipWith (cellV t) c d).length := by rw [h]; exact h2
    have : (List.zipWith (cellV t) c d)[i] = d[i] := by congr 1
    rwa [List.getElem_zipWith] at this
theorem cl_set {t : Int} {c d : List Int} (h : CL t c d) (i : Nat) {x y : Int} (hx : cellV t x y = y) : CL t (c.set i x) (d.set i y) := by
  refine ⟨by rw [List.length_set, List.length_set]; exact h.1, fun j hj => ?_⟩
  rw [List.length_set] at hj
  rw [getD_set, getD_set]
  by_cases e : i = j
  · rw [if_pos ⟨e, hj⟩, if_pos ⟨e, by have := h.1; omega⟩]; exact hx
  · rw [if_neg (fun q => e q.1), if_neg (fun q => e q.1)]; exact h.2 j hj
theorem set_same {c : List Int} {i : Nat} (h : i < c.length) : c.set i (c.getD i 0) = c := by rw [getD_at h, List.set_getElem_self]
theorem c1_le : ∀ a b : Fin 4, cellV 1 (a.val : Int) (b.val : Int) = (b.val : Int) → a.val = 0 ∨ a.val = b.val ∨ b.val = 3 := by decide
theorem act_mono {t : Int} {k : Nat} (ht : tagB t = true) {c d : List Int} (hc : CsG t k c) (hd : CsG t k d) (h : CL t c d) {a : Ac} (ha : ActG t k a) {c' : List Int} (h1 : actV t c a = some c') : ∃ d', actV t d a = some d' ∧ CL t c' d' := by
  obtain ⟨a1, a2, a3, a4, a5, a6⟩ := ha
  unfold actV at h1 ⊢
  rw [← h.1]
  split at h1
  · rename_i e; rw [if_pos e]; cases h1; exact ⟨d, rfl, h⟩
  · rename_i e; rw [if_neg e]
    have hv : a.2.1.toNat < c.length := by have := hc.1; omega
    split at h1
    · rename_i e1; rw [if_pos e1]; cases h1
      exact ⟨_, rfl, cl_set h _ (cell_idem ht ⟨a3, a4 e1⟩)⟩
    · rename_i e1; rw [if_neg e1]
      split at h1
      · rename_i e2; rw [if_pos e2]
        split at h1
        · rename_i e3; rw [if_pos e3]; cases h1
          exact ⟨_, rfl, cl_set h _ (h.2 _ (by have := a5 e2; have := hc.1; omega))⟩
        · rename_i e3; rw [if_neg e3]; cases h1; exact ⟨d, rfl, h⟩
      · rename_i e2; rw [if_neg e2]
        split at h1
        · rename_i e3; rw [if_pos e3]
          split at h1
          · rename_i e4; cases h1
            unfold meetB meetC at *
            cases hq : (t != 1 || a.2.2 == 3) with
            | true => rw [hq] at e4; simp only [cond_true]; exact ⟨d, rfl, h⟩
            | false =>
              rw [hq] at e4
              simp only [cond_false] at e4 ⊢
              simp only [Bool.or_eq_false_iff] at hq
              obtain ⟨q1, q2⟩ := hq
              have ht1 : t = 1 := by simpa using q1
              have q2 : a.2.2 ≠ 3 := by simpa using q2
              subst ht1
              have hlt := h.2 _ hv
              have hdv : a.2.1.toNat < d.length := by have := h.1; omega
              have hcx := cs_get (t := 1) (k := k) hc (i := a.2.1.toNat) (by omega)
              have hdx := cs_get (t := 1) (k := k) hd (i := a.2.1.toNat) (by omega)
              have hss := set_same hv
              have hn1 := (a6 e3).2 rfl
              have hnc : Cg 1 a.2.2 := ⟨a3, (a6 e3).1⟩
              generalize hxx : c.getD a.2.1.toNat 0 = x at *
              generalize hyy : d.getD a.2.1.toNat 0 = y at *
              obtain ⟨x', rfl⟩ := cg1 hcx
              obtain ⟨y', rfl⟩ := cg1 hdx
              rcases Int.decEq (x'.val : Int) 3 with hx3 | hx3
              · have b3 : ((x'.val : Int) == 3) = false := by simpa using hx3
                rw [b3] at e4
                simp only [cond_false] at e4
                have hxn : (x'.val : Int) = a.2.2 := by simpa using e4
                rw [b3]
                simp only [cond_false]
                rcases c1_le x' y' hlt with z | z | z
                · omega
                · have b4 : ((y'.val : Int) == 3) = false := by rw [← z]; exact b3
                  have b5 : ((y'.val : Int) == a.2.2) = true := by rw [← z]; exact e4
                  rw [b4, b5]
                  exact ⟨d, rfl, h⟩
                · have b4 : ((y'.val : Int) == 3) = true := by rw [z]; rfl
                  rw [b4]
                  refine ⟨_, rfl, ?_⟩
                  have := cl_set h a.2.1.toNat (x := (x'.val : Int)) (y := a.2.2) (by rw [hxn]; exact cell_idem ht hnc)
                  rw [hss] at this
                  exact this
              · have b3 : ((x'.val : Int) == 3) = true := by simpa using hx3
                have b4 : ((y'.val : Int) == 3) = true := by
                  rcases c1_le x' y' hlt with z | z | z
                  · omega
                  · rw [← z]; exact b3
                  · rw [z]; rfl
                rw [b3, b4]
                exact ⟨_, rfl, cl_set h _ (cell_idem ht hnc)⟩
          · cases h1
        · rename_i e3; rw [if_neg e3]; cases h1; exact ⟨d, rfl, h⟩
theorem acts_mono {t : Int} {k : Nat} (ht : tagB t = true) : ∀ {l : List Ac} {c d c' : List Int}, CsG t k c → CsG t k d → CL t c d → (∀ a ∈ l, ActG t k a) → actsV t c l = some c' → ∃ d', actsV t d l = some d' ∧ CL t c' d'
  | [], c, d, c', _, _, h, _, h1 => by simp only [actsV, Option.some.injEq] at h1; subst h1; exact ⟨d, rfl, h⟩
  | a :: l, c, d, c', hc, hd, h, ha, h1 => by
    simp only [actsV] at h1 ⊢
    cases hA : actV t c a with
    | none => rw [hA] at h1; cases h1
    | some c1 =>
      rw [hA] at h1
      have hga := ha a (by simp)
      obtain ⟨d1, hD, hcl⟩ := act_mono ht hc hd h hga hA
      rw [hD]
      exact acts_mono ht (actV_good hc hga hA) (actV_good hd hga hD) hcl (fun x hx => ha x (by simp [hx])) h1
theorem below_bot {t : Int} {b : Kn} : belowV t (false, []) b = true := below_iff.2 (join_f rfl)
theorem below_refl {t n : Int} (ht : tagB t = true) {a : Kn} (ha : Gd t n a) : belowV t a a = true := below_iff.2 (join_idem ht ha)
theorem do_mono {t : Int} {k : Nat} (ht : tagB t = true) {a b : Kn} (ha : Gd t k a) (hb : Gd t k b) (h : belowV t a b = true) {l : List Ac} (hl : ∀ x ∈ l, ActG t k x) : belowV t (doV t a l) (doV t b l) = true := by
  have h := below_iff.1 h
  rcases cases_b a.1 with h1 | h1
  · have : doV t a l = (false, []) := by unfold doV; rw [if_pos h1]
    rw [this]; exact below_bot
  · rcases cases_b b.1 with h2 | h2
    · rw [join_g h1 h2] at h; rw [h] at h1; rw [h1] at h2; cases h2
    · have hca := (gd_iff.1 ha).1 h1
      have hcb := (gd_iff.1 hb).1 h2
      rw [join_t' h1 h2] at h
      have hz : List.zipWith (cellV t) a.2 b.2 = b.2 := by have := congrArg Prod.snd h; exact this
      have hcl : CL t a.2 b.2 := (cl_zip (by rw [hca.1, hcb.1])).2 hz
      unfold doV
      rw [if_neg (by rw [h1]; simp), if_neg (by rw [h2]; simp)]
      cases hA : actsV t a.2 l with
      | none => exact below_bot
      | some c' =>
        obtain ⟨d', hD, hcl'⟩ := acts_mono ht hca hcb hcl hl hA
        rw [hD]
        refine below_iff.2 ?_
        dsimp only
        rw [join_t' rfl rfl, (cl_zip hcl'.1).1 hcl']
/-! ### facts of all blocks -/
def LeF (t : Int) (F G : List Kn) : Prop := ∀ x, belowV t (F.getD x (false, [])) (G.getD x (false, [])) = true
theorem fgd {p : Pb} {k : Nat} (hp : GP p k) {F : List Kn} (hF : factOk p F) (x : Nat) : Gd (pTag p) k (F.getD x (false, [])) := by
  by_cases hx : x < F.length
  · rw [getD_at hx, ← hp.hn]; exact hF.2 _ (List.getElem_mem hx)
  · rw [List.getD_eq_getElem?_getD, List.getElem?_eq_none (by omega)]; exact gd_bot _ _
theorem si_fact {p : Pb} {s : St} (h : SI p s) : factOk p s.F := ⟨h.lf, h.gd⟩
theorem lef_refl {p : Pb} {k : Nat} (hp : GP p k) {F : List Kn} (hF : factOk p F) : LeF (pTag p) F F := fun x => below_refl hp.ht (fgd hp hF x)
theorem lef_trans {p : Pb} {k : Nat} (hp : GP p k) {F G H : List Kn} (hF : factOk p F) (hG : factOk p G) (hH : factOk p H) (h1 : LeF (pTag p) F G) (h2 : LeF (pTag p) G H) : LeF (pTag p) F H := fun x => below_trans hp.ht (fgd hp hF x) (fgd hp hG x) (fgd hp hH x) (h1 x) (h2 x)
def FI (s : St) : Prop := ∀ x : Nat, s.I.getD x false = true → (x : Int) ∈ s.L
structure Stp (p : Pb) (s s' : St) : Prop where
  le : LeF (pTag p) s.F s'.F
  ch : ∀ x : Nat, s'.F.getD x (false, []) = s.F.getD x (false, []) ∨ (x : Int) ∈ s'.L
  li : ∀ x ∈ s.L, x ∈ s'.L
  fl : FI s'
theorem stp_refl {p : Pb} {k : Nat} (hp : GP p k) {s : St} (h : SI p s) (hI : FI s) : Stp p s s := ⟨lef_refl hp (si_fact h), fun x => .inl rfl, fun x hx => hx, hI⟩
theorem stp_trans {p : Pb} {k : Nat} (hp : GP p k) {s s' s'' : St} (h : SI p s) (h' : SI p s') (h'' : SI p s'') (h1 : Stp p s s') (h2 : Stp p s' s'') : Stp p s s'' :=
  ⟨lef_trans hp (si_fact h) (si_fact h') (si_fact h'') h1.le h2.le, fun x => by
    rcases h2.ch x with e | e
    · rcases h1.ch x with e' | e'
      · exact .inl (e.trans e')
      · exact .inr (h2.li _ e')
    · exact .inr e, fun x hx => h2.li x (h1.li x hx), h2.fl⟩
theorem rise_stp {p : Pb} {k : Nat} (hp : GP p k) {s : St} (h : SI p s) (hI : FI s) {f : Kn} (hf : Gd (pTag p) k f) {b : Nat} (hb : b < (pNext p).length) :
    Stp p s (riseS (pTag p) b f s) ∧ belowV (pTag p) f ((riseS (pTag p) b f s).F.getD b (false, [])) = true := by
  have hbF : b < s.F.length := by rw [h.lf]; exact hb
  have hg := fgd hp (si_fact h) b
  unfold riseS
  by_cases hj : joinV (pTag p) (s.F.getD b (false, [])) f = s.F.getD b (false, [])
  · rw [if_pos hj]
    exact ⟨stp_refl hp h hI, below_iff.2 (by rw [join_comm hp.ht hf hg]; exact hj)⟩
  · rw [if_neg hj]
    have hbi : b < s.I.length := by rw [h.li]; exact hb
    have hmem : (b : Int) ∈ (if s.I.getD b false = true then s.L else s.L ++ [(b : Int)]) := by
      split
      · rename_i e; exact hI b e
      · simp
    refine ⟨⟨fun x => ?_, fun x => ?_, fun x hx => ?_, fun x hx => ?_⟩, ?_⟩
    · dsimp only
      rw [getD_set]
      split
      · rename_i e; rw [← e.1]; exact below_up hp.ht hg hf
      · exact below_refl hp.ht (fgd hp (si_fact h) x)
    · dsimp only
      rw [getD_set]
      split
      · rename_i e; rw [← e.1]; exact .inr hmem
      · exact .inl rfl
    · dsimp only
      split
      · exact hx
      · simp [hx]
    · dsimp only at hx ⊢
      split at hx
      · rename_i e; rw [if_pos e]; exact hI x hx
      · rename_i e; rw [if_neg e]
        rw [getD_set] at hx
        split at hx
        · rename_i e'; rw [← e'.1]; simp
        · simp [hI x hx]
    · dsimp only
      rw [getD_set, if_pos ⟨rfl, hbF⟩]
      exact below_up' hp.ht hg hf
theorem rise_le {p : Pb} {k : Nat} (hp : GP p k) {s : St} (h : SI p s) {f : Kn} (hf : Gd (pTag p) k f) {b : Nat} {G : List Kn} (hG : factOk p G) (h1 : LeF (pTag p) s.F G) (h2 : belowV (pTag p) f (G.getD b (false, [])) = true) : LeF (pTag p) (riseS (pTag p) b f s).F G := by
  unfold riseS
  split
  · exact h1
  · intro x
    dsimp only
    rw [getD_set]
    split
    · rename_i e; rw [← e.1]; exact below_least hp.ht (fgd hp (si_fact h) b) hf (fgd hp hG b) (h1 b) h2
    · exact h1 x
theorem next_in {p : Pb} {k : Nat} (hp : GP p k) {b : Nat} (hb : b < (pNext p).length) {i : Nat} (hi : i < ((pNext p).getD b []).length) : (((pNext p).getD b []).getD i 0).toNat < (pNext p).length := by
  have hw : ((pNext p).getD b []).getD i 0 ∈ (pNext p).getD b [] := by rw [getD_at (l := (pNext p).getD b []) (i := i) hi]; exact List.getElem_mem _
  have := hp.hw b hb _ hw
  omega
theorem fold_stp {p : Pb} {k : Nat} (hp : GP p k) {b : Nat} (hb : b < (pNext p).length) {out : Kn} (ho : Gd (pTag p) k out) {s : St} (h : SI p s) (hI : FI s) : ∀ i, i ≤ ((pNext p).getD b []).length →
    Stp p s (foldS (pTag p) out ((pEdges p).getD b []) ((pNext p).getD b []) i s) ∧ ∀ j, j < i → belowV (pTag p) (edgeV (pTag p) out ((pEdges p).getD b []) j) ((foldS (pTag p) out ((pEdges p).getD b []) ((pNext p).getD b []) i s).F.getD (((pNext p).getD b []).getD j 0).toNat (false, [])) = true
  | 0, _ => ⟨stp_refl hp h hI, fun j hj => absurd hj (Nat.not_lt_zero _)⟩
  | i + 1, hi => by
    obtain ⟨h1, h2⟩ := fold_stp hp hb ho h hI i (by omega)
    obtain ⟨h3, _⟩ := fold_SI hp hb ho h i (by omega)
    have hn := next_in hp hb (i := i) (by omega)
    obtain ⟨h4, h5⟩ := rise_stp hp h3 h1.fl (edge_good hp hb ho i) hn
    obtain ⟨h6, _⟩ := rise_SI hp h3 (edge_good hp hb ho i) hn
    refine ⟨stp_trans hp h h3 h6 h1 h4, fun j hj => ?_⟩
    rcases Nat.lt_succ_iff_lt_or_eq.1 hj with hj | rfl
    · exact below_trans hp.ht (edge_good hp hb ho j) (fgd hp (si_fact h3) _) (fgd hp (si_fact h6) _) (h2 j hj) (h4.le _)
    · exact h5
theorem fold_le {p : Pb} {k : Nat} (hp : GP p k) {b : Nat} (hb : b < (pNext p).length) {out : Kn} (ho : Gd (pTag p) k out) {s : St} (h : SI p s) {G : List Kn} (hG : factOk p G) (h1 : LeF (pTag p) s.F G) (h2 : ∀ j, j < ((pNext p).getD b []).length → belowV (pTag p) (edgeV (pTag p) out ((pEdges p).getD b []) j) (G.getD (((pNext p).getD b []).getD j 0).toNat (false, [])) = true) : ∀ i, i ≤ ((pNext p).getD b []).length →
    LeF (pTag p) (foldS (pTag p) out ((pEdges p).getD b []) ((pNext p).getD b []) i s).F G
  | 0, _ => h1
  | i + 1, hi => by
    obtain ⟨h3, _⟩ := fold_SI hp hb ho h i (by omega)
    exact rise_le hp h3 (edge_good hp hb ho i) hG (fold_le hp hb ho h hG h1 h2 i (by omega)) (h2 i (by omega))
def AL (p : Pb) (s : St) : Prop := ∀ b, b < (pNext p).length → (b : Int) ∈ s.L ∨ AgB p s.F b
theorem pop_SI {p : Pb} {F : List Kn} {b : Int} {r : List Int} {I : List Bool} (h : SI p ⟨F, b :: r, I⟩) : SI p ⟨F, r, I.set b.toNat false⟩ := ⟨h.lf, by rw [List.length_set]; exact h.li, h.gd, fun x hx => h.ml x (by simp [hx]), by have := h.ll; simp only [List.length_cons] at this; dsimp only; omega⟩
theorem step_al {p : Pb} {k : Nat} (hp : GP p k) {s : St} (h : SI p s) (hI : FI s) (hA : AL p s) (hL : s.L ≠ []) : FI (stepS p s) ∧ AL p (stepS p s) ∧ LeF (pTag p) s.F (stepS p s).F := by
  obtain ⟨h8, _⟩ := step_SI hp h hL
  obtain ⟨F, L, I⟩ := s
  cases L with
  | nil => exact absurd rfl hL
  | cons b r =>
    have hb := h.ml b (by simp)
    obtain ⟨n, rfl⟩ : ∃ n : Nat, b = n := ⟨b.toNat, by omega⟩
    have hbn : n < (pNext p).length := by omega
    have h1 := pop_SI h
    have hI1 : FI ⟨F, r, I.set (n : Int).toNat false⟩ := by
      intro x hx
      dsimp only at hx ⊢
      rw [getD_set] at hx
      split at hx
      · cases hx
      · rename_i e
        have := hI x hx
        rcases List.mem_cons.1 this with e' | e'
        · exfalso
          have hlI : I.length = (pNext p).length := h.li
          exact e ⟨by omega, by omega⟩
        · exact e'
    have hg := fgd hp (si_fact h) n
    have ho := doV_good hg (hp.hA n hbn)
    obtain ⟨h2, h3⟩ := fold_stp hp hbn ho h1 hI1 _ (Nat.le_refl _)
    have es : stepS p ⟨F, (n : Int) :: r, I⟩ = foldS (pTag p) (doV (pTag p) (F.getD n (false, [])) ((pActs p).getD n [])) ((pEdges p).getD n []) ((pNext p).getD n []) ((pNext p).getD n []).length ⟨F, r, I.set (n : Int).toNat false⟩ := rfl
    rw [es] at h8 ⊢
    refine ⟨h2.fl, fun x hx => ?_, h2.le⟩
    rcases h2.ch x with e | e
    · dsimp only at e
      by_cases hxn : x = n
      · subst hxn
        refine .inr (fun i hi => ?_)
        unfold AgE
        rw [e]
        exact h3 i hi
      · rcases hA x hx with hm | hm
        · rcases List.mem_cons.1 hm with e' | e'
          · exact absurd (by omega) hxn
          · exact .inl (h2.li _ e')
        · refine .inr (fun i hi => ?_)
          have := hm i hi
          unfold AgE at this ⊢
          rw [e]
          exact below_trans hp.ht (edge_good hp hx (doV_good (fgd hp (si_fact h) x) (hp.hA x hx)) i) (fgd hp (si_fact h) _) (fgd hp (si_fact h8) _) this (h2.le _)
    · exact .inl e
theorem edge_mono {p : Pb} {k : Nat} (hp : GP p k) {b : Nat} (hb : b < (pNext p).length) {o o' : Kn} (ho : Gd (pTag p) k o) (ho' : Gd (pTag p) k o') (h : belowV (pTag p) o o' = true) {i : Nat} (hi : i < ((pNext p).getD b []).length) : belowV (pTag p) (edgeV (pTag p) o ((pEdges p).getD b []) i) (edgeV (pTag p) o' ((pEdges p).getD b []) i) = true := by
  unfold edgeV
  split
  · rename_i e
    have hx : ((pEdges p).getD b []).length = ((pNext p).getD b []).length := by rcases hp.hx b hb with h | h; omega; exact h
    refine do_mono hp.ht ho ho' h ?_
    rw [getD_at (l := (pEdges p).getD b []) (i := i) (by omega)]
    exact hp.hE b hb _ (List.getElem_mem _)
  · exact h
theorem step_le {p : Pb} {k : Nat} (hp : GP p k) {s : St} (h : SI p s) (hL : s.L ≠ []) {G : List Kn} (hG : factOk p G) (hA : ∀ b, b < (pNext p).length → AgB p G b) (h1 : LeF (pTag p) s.F G) : LeF (pTag p) (stepS p s).F G := by
  obtain ⟨F, L, I⟩ := s
  cases L with
  | nil => exact absurd rfl hL
  | cons b r =>
    have hb := h.ml b (by simp)
    obtain ⟨n, rfl⟩ : ∃ n : Nat, b = n := ⟨b.toNat, by omega⟩
    have hbn : n < (pNext p).length := by omega
    have hg := fgd hp (si_fact h) n
    have ho := doV_good hg (hp.hA n hbn)
    have hg' := fgd hp hG n
    have ho' := doV_good hg' (hp.hA n hbn)
    refine fold_le hp hbn ho (pop_SI h) hG h1 (fun j hj => ?_) _ (Nat.le_refl _)
    exact below_trans hp.ht (edge_good hp hbn ho j) (edge_good hp hbn ho' j) (fgd hp hG _) (edge_mono hp hbn ho ho' (do_mono hp.ht hg hg' (h1 n) (hp.hA n hbn)) hj) (hA n hbn j hj)
theorem run_al {p : Pb} {k : Nat} (hp : GP p k) (hk : k ≤ 20) (hl : (pNext p).length ≤ 20) : ∀ (n : Nat) (s : St), SI p s → FI s → AL p s → 820 + s.L.length - sumK (pTag p) s.F < n →
    SI p (runV p n s).1 ∧ AL p (runV p n s).1 ∧ (runV p n s).1.L = [] ∧ LeF (pTag p) s.F (runV p n s).1.F ∧ (runV p n s).2 + sumK (pTag p) s.F ≤ s.L.length + sumK (pTag p) (runV p n s).1.F
  | 0, s, _, _, _, h => by omega
  | n + 1, s, hs, hI, hA, h => by
    rw [runV_succ]
    cases hL : s.L with
    | nil => exact ⟨hs, hA, hL, lef_refl hp (si_fact hs), by simp⟩
    | cons b r =>
      have hne : s.L ≠ [] := by rw [hL]; simp
      obtain ⟨h3, h4⟩ := step_SI hp hs hne
      obtain ⟨h5, h6, h7⟩ := step_al hp hs hI hA hne
      have h8 := sum_820 hp hk hl h3
      have h9 := sum_820 hp hk hl hs
      obtain ⟨g1, g2, g3, g4, g5⟩ := run_al hp hk hl n (stepS p s) h3 h5 h6 (by omega)
      dsimp only
      refine ⟨g1, g2, g3, lef_trans hp (si_fact hs) (si_fact h3) (si_fact g1) h7 g4, ?_⟩
      rw [← hL]; omega
theorem run_le {p : Pb} {k : Nat} (hp : GP p k) {G : List Kn} (hG : factOk p G) (hA : ∀ b, b < (pNext p).length → AgB p G b) : ∀ (n : Nat) (s : St), SI p s → LeF (pTag p) s.F G → LeF (pTag p) (runV p n s).1.F G
  | 0, s, _, h => h
  | n + 1, s, hs, h => by
    rw [runV_succ]
    cases hL : s.L with
    | nil => exact h
    | cons b r =>
      have hne : s.L ≠ [] := by rw [hL]; simp
      exact run_le hp hG hA n (stepS p s) (step_SI hp hs hne).1 (step_le hp hs hne hG hA h)
theorem start_stp {p : Pb} {k : Nat} (hp : GP p k) : ∀ (l : List Int) (s : St), (∀ b ∈ l, 0 ≤ b ∧ b < ((pNext p).length : Int)) → SI p s → FI s →
    Stp p s (startL (pTag p) (pFirst p) s l) ∧ ∀ b ∈ l, belowV (pTag p) (pFirst p) ((startL (pTag p) (pFirst p) s l).F.getD b.toNat (false, [])) = true
  | [], s, _, h, hI => ⟨stp_refl hp h hI, fun b hb => by simp at hb⟩
  | b :: r, s, hl, h, hI => by
    have hb := hl b (by simp)
    obtain ⟨h1, _⟩ := rise_SI hp h hp.hf (b := b.toNat) (by omega)
    obtain ⟨h2, h3⟩ := rise_stp hp h hI hp.hf (b := b.toNat) (by omega)
    have hl' : ∀ x ∈ r, 0 ≤ x ∧ x < ((pNext p).length : Int) := fun x hx => hl x (by simp [hx])
    obtain ⟨h4, h5⟩ := start_stp hp r _ hl' h1 h2.fl
    have h6 := start_SI hp r _ hl' h1
    refine ⟨stp_trans hp h h1 h6 h2 h4, fun x hx => ?_⟩
    rcases List.mem_cons.1 hx with rfl | hx
    · exact below_trans hp.ht hp.hf (fgd hp (si_fact h1) _) (fgd hp (si_fact h6) _) h3 (h4.le _)
    · exact h5 x hx
theorem start_le {p : Pb} {k : Nat} (hp : GP p k) {G : List Kn} (hG : factOk p G) : ∀ (l : List Int) (s : St), (∀ b ∈ l, 0 ≤ b ∧ b < ((pNext p).length : Int)) → (∀ b ∈ l, belowV (pTag p) (pFirst p) (G.getD b.toNat (false, [])) = true) → SI p s → LeF (pTag p) s.F G → LeF (pTag p) (startL (pTag p) (pFirst p) s l).F G
  | [], s, _, _, _, h => h
  | b :: r, s, hl, hg, hs, h => by
    have hb := hl b (by simp)
    obtain ⟨h1, _⟩ := rise_SI hp hs hp.hf (b := b.toNat) (by omega)
    exact start_le hp hG r _ (fun x hx => hl x (by simp [hx])) (fun x hx => hg x (by simp [hx])) h1 (rise_le hp hs hp.hf hG h (hg b (by simp)))
theorem getD_rep {α : Type} (n x : Nat) (d : α) : (List.replicate n d).getD x d = d := by
  rw [List.getD_eq_getElem?_getD]
  by_cases h : x < n
  · simp [h]
  · simp [h]
theorem bot_agb {p : Pb} {F : List Kn} {b : Nat} (h : F.getD b (false, []) = (false, [])) : AgB p F b := fun i _ => by
  have e : ∀ l, doV (pTag p) (false, []) l = (false, []) := fun l => by unfold doV; rw [if_pos rfl]
  unfold AgE
  rw [h, e]
  unfold edgeV
  split
  · rw [e]; exact below_bot
  · exact below_bot
/-- What Solve finds: it agrees, and is the least that does; so many steps. -/
theorem solve_agr {p : Pb} (hP : smallP p) : factOk p (factsV p) ∧ Agr p (factsV p) ∧ (∀ G, factOk p G → Agr p G → LeF (pTag p) (factsV p) G) ∧ stepsV p ≤ sumK (pTag p) (factsV p) ∧ stepsV p ≤ 820 := by
  obtain ⟨hg, hl, hn, hsl, hnl⟩ := hP
  obtain ⟨k, hp⟩ := goodP_gp hg
  have hk : k ≤ 20 := by have := hp.hn; omega
  have h0 : SI p (initS (pNext p).length) := init_SI p
  have hI0 : FI (initS (pNext p).length) := fun x hx => by
    have : (List.replicate (pNext p).length false).getD x false = true := hx
    rw [getD_rep] at this; cases this
  have hS : SI p (startS p) := start_SI hp _ _ hp.hs h0
  obtain ⟨hst, hsb⟩ := start_stp hp (pStart p) _ hp.hs h0 hI0
  have hA : AL p (startS p) := fun b hb => by
    rcases hst.ch b with e | e
    · refine .inr (bot_agb ?_)
      have e : (startS p).F.getD b (false, []) = (List.replicate (pNext p).length ((false, []) : Kn)).getD b (false, []) := e
      rw [e]; exact getD_rep _ _ _
    · exact .inl e
  have h8 := sum_820 hp hk hl hS
  have h9 := hS.ll
  obtain ⟨g1, g2, g3, g4, g5⟩ := run_al hp hk hl fuelV (startS p) hS hst.fl hA (by unfold fuelV; omega)
  have g8 := sum_820 hp hk hl g1
  have hf1 : factOk p (factsV p) := si_fact g1
  refine ⟨hf1, ⟨fun i hi => ?_, fun b hb => ?_⟩, fun G hG hGA => ?_, by unfold stepsV factsV; omega, by unfold stepsV; omega⟩
  · have hm : (pStart p).getD i 0 ∈ pStart p := by rw [getD_at hi]; exact List.getElem_mem _
    exact below_trans hp.ht hp.hf (fgd hp (si_fact hS) _) (fgd hp hf1 _) (hsb _ hm) (g4 _)
  · rcases g2 b hb with e | e
    · rw [g3] at e; simp at e
    · exact e
  · refine run_le hp hG hGA.2 fuelV (startS p) hS (start_le hp hG _ _ hp.hs (fun b hb => ?_) h0 (fun x => ?_))
    · obtain ⟨j, hj, rfl⟩ := List.getElem_of_mem hb
      have := hGA.1 j hj
      rwa [getD_at hj] at this
    · have : (initS (pNext p).length).F.getD x (false, []) = (false, []) := getD_rep _ _ _
      rw [this]; exact below_bot
end Go.Proofs.Ytloiimhmmcheoaa.Ch
