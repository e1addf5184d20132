/- Chapter 21 (solve): the reference's cells, facts, acts, proved. No condition. -/
import Derived.Test.YtloiimhmmcheoaaMRV
namespace Go.Proofs.Ytloiimhmmcheoaa.Ch
open Go Go.Proofs Go.Proofs.Ytloiimhmmcheoaa.Sx
set_option linter.unusedVariables false
set_option linter.unusedSimpArgs false

theorem ract_ok : ∀ args h Q, ract_t args h Q → FSpec Try.prog 35 args h Q := trH_ok fun ((p, a, _) : Pb × Ac × Unit) _ Q ⟨ht, h⟩ => by
  refine spec_body gok0 Try.func35 rfl noLam_ok ?_
  show body Try.prog (gam []) noLam Try.f35 [.agg (toCV tPb p), .agg (toCV tAct a)] [] _
  rw [vc_ract]
  obtain ⟨nx, ac, ed, sr, cm, tg, nn⟩ := p
  dsimp only at h ht ⊢
  unfold isActV actK at h
  rcases tag_cases ht with rfl | rfl
  · rw [show ((1 : Int) == 2) = false from rfl] at h ⊢
    simp only [cond_false] at h ⊢
    rw [show ((1 : Int) != 1 || decide (a.2.2 ≥ 1)) = decide (a.2.2 ≥ 1) by simp]
    rw [Bool.and_comm (decide (a.2.2 ≥ 1))] at h
    generalize (decide (a.2.1 < 0) || decide (a.2.1 ≥ nn) || decide (a.2.2 < 0)) = b2 at h ⊢
    generalize (a.1 == (1 : Int)) = b3 at h ⊢
    generalize (a.1 == (2 : Int)) = b4 at h ⊢
    generalize (a.1 == (3 : Int)) = b5 at h ⊢
    cases b2 <;> cases b3 <;> cases b4 <;> cases b5 <;> exact h
  · rw [show ((2 : Int) == 2) = true from rfl] at h ⊢
    simp only [cond_true] at h ⊢
    rw [show ((2 : Int) != 1 || decide (a.2.2 ≥ 1)) = true by simp, Bool.and_true]
    by_cases h0 : a.2.2 < 0
    · have e : (decide (a.2.1 < 0) || decide (a.2.1 ≥ nn) || decide (a.2.2 < 0)) = true := by simp [h0]
      rw [e] at h ⊢; exact h
    · have e : decide (a.2.2 ≥ 0) = true := decide_eq_true (by omega)
      rw [e, Bool.true_and] at h
      generalize (decide (a.2.1 < 0) || decide (a.2.1 ≥ nn) || decide (a.2.2 < 0)) = b2 at h ⊢
      generalize (a.1 == (1 : Int)) = b3 at h ⊢
      generalize (a.1 == (2 : Int)) = b4 at h ⊢
      generalize (a.1 == (3 : Int)) = b5 at h ⊢
      cases b2 <;> cases b3 <;> cases b4 <;> cases b5 <;> exact h
/-! ### what is looked for in a row -/
theorem any_none {α : Type} {l : List α} {f : α → Bool} (d : α) (h : ∀ j, j < l.length → f (l.getD j d) = false) : l.any f = false := by
  rw [List.any_eq_false]
  intro x hx
  obtain ⟨j, hj, rfl⟩ := List.getElem_of_mem hx
  have := h j hj
  rw [getD_at hj] at this
  rw [this]; simp
theorem any_some {α : Type} {l : List α} {f : α → Bool} (d : α) {j : Nat} (hj : j < l.length) (h : f (l.getD j d) = true) : l.any f = true := by
  rw [getD_at hj] at h
  exact List.any_eq_true.2 ⟨_, List.getElem_mem hj, h⟩
theorem qg_loop (n m : Int) (f : Kn) (Q : Exit → SS → Prop) (h1 : f.2.any (badM m) = true → Q .ret (⟨48, [(6, .p (tb false))], []⟩ : SS)) (h2 : f.2.any (badM m) = false → Q (.exit 1) (⟨48, [(1, .p (ti n)), (5, .p (.c (.ptr 0 0)))], [.cells 27 [.bool f.1, .row tI f.2]]⟩ : SS)) :
    W 0 Try.prog (.loop (lp Try.f34 0)) (stQG n m f 0) Q := by
  refine W_all (stQG n m f) f.2.length (fun i => badM m (f.2.getD i 0) = false) [1, 5, 7, 8] [1, 5] [6] (fun i hi ho K hK => ?_)
  refine sx_ok (Λ := noLam) gok0 _ 1 _ _ noLam_ok ?_
  rw [vc_qg]
  intro hm
  simp only [maxI] at hm
  refine cond_of (fun hc => ?_) (fun hc => ?_)
  · have hc : i < f.2.length := by simpa using hc
    have ei : IntKind.i64.wrap ((i : Int) + 1) = ((i + 1 : Nat) : Int) := w64n (n := i + 1) (by omega)
    rw [ei, Int.toNat_natCast]
    have hi0 : (0 : Int) ≤ (i : Int) := by omega
    have hi1 : (i : Int) < (f.2.length : Int) := by omega
    exact ⟨hi0, hi1, hc, fun _ => ⟨hi0, hi1, trivial⟩, fun _ => ⟨hc, trivial⟩, cond_of (fun hb => h1 (any_some 0 hc hb)) (fun hb => hK hc hb)⟩
  · have hc : ¬ i < f.2.length := by simpa using hc
    exact h2 (any_none 0 (fun j hj => ho j (by omega)))
theorem qgood_ok : ∀ args h Q, good_t args h Q → FSpec Try.prog 34 args h Q := trH_ok fun ((t, n, (c, xs), _) : Int × Int × Kn × Unit) _ Q h => by
  refine spec_body (Λ := lam [(1, qg_l)]) gok0 Try.func34 rfl (lokl (l := [(1, lp Try.f34 0)]) ⟨lam_ok fun x Q _ ⟨b1, b2⟩ => qg_loop x.1 x.2.1 x.2.2 Q b1 b2, trivial⟩) ?_
  show body Try.prog (gam []) (lam [(1, qg_l)]) Try.f34 [ti t, ti n, .agg [.bool (c, xs).1, .row tI (c, xs).2]] [] _
  rw [vc_qgood]
  dsimp only at h ⊢
  have key : ∀ b, goodV t n (c, xs) = b → Q (.p (tb b)) [] := fun b e => e ▸ h
  have hcase : ∀ m : Int, tagB t = true → mostV t = m → bif !c then xs.length ≤ maxI → Q (.p (tb ((xs.length : Int) == 0))) [] else ∃ (x : Int × Int × Kn), ({ nt := 48, fr := [(1, .p (ti n)), (5, .p (.c (.ptr 0 0))), (7, .p (ti m)), (8, .p (ti 0))], hp := [.cells 27 [.bool c, .row tI xs]] } : SS) = { nt := 48, fr := [(1, .p (ti x.1)), (5, .p (.c (.ptr 0 0))), (7, .p (ti x.2.1)), (8, .p (ti ((0 : Nat) : Int)))], hp := [.cells 27 [.bool x.2.2.1, .row tI x.2.2.2]] } ∧ True ∧ (x.2.2.2.any (badM x.2.1) = true → Q (.p (tb false)) []) ∧ (x.2.2.2.any (badM x.2.1) = false → x.2.2.2.length ≤ maxI → Q (.p (tb ((x.2.2.2.length : Int) == x.1))) []) := by
    intro m htg hm
    refine cond_of (fun hc => fun _ => ?_) (fun hc => ⟨(n, m, (c, xs)), rfl, trivial, fun hb => ?_, fun hb _ => ?_⟩)
    · have hc : c = false := by simpa using hc
      subst hc
      have e : ((xs.length : Int) == 0) = xs.isEmpty := by cases xs <;> simp; omega
      rw [e]
      exact key _ (by unfold goodV; rw [htg]; rfl)
    all_goals
      have hc : c = true := by simpa using hc
      subst hc
      subst hm
      have hb : xs.any (badB t) = _ := hb
    · exact key _ (by unfold goodV; rw [htg, Bool.true_and]; dsimp only [cond_true]; rw [hb]; simp)
    · exact key _ (by
        unfold goodV; rw [htg, Bool.true_and]; dsimp only [cond_true]; rw [hb]
        by_cases e : (xs.length : Int) = n
        · rw [decide_eq_true e, e]; simp
        · rw [decide_eq_false e]
          exact (beq_eq_false_iff_ne.2 e).symm)
  refine cond_of (fun ht => ?_) (fun ht => cond_of (fun ht2 => ?_) (fun ht2 => ?_))
  · have ht : t = 1 := by simpa using ht
    exact hcase 3 (by rw [ht]; rfl) (by rw [ht]; rfl)
  · have ht2 : t = 2 := by simpa using ht2
    exact hcase 1 (by rw [ht2]; rfl) (by rw [ht2]; rfl)
  · have ht : t ≠ 1 := by simpa using ht
    have ht2 : t ≠ 2 := by simpa using ht2
    exact key _ (by unfold goodV tagB; rw [decide_eq_false ht, decide_eq_false ht2]; rfl)
/-! ### cells, facts -/
theorem qcell_ok : ∀ args h Q, cell_t args h Q → FSpec Try.prog 53 args h Q := trH_ok fun ((t, a, b, _) : Int × Int × Int × Unit) _ Q h => by
  refine spec_body gok0 Try.func53 rfl noLam_ok ?_
  show body Try.prog (gam []) noLam Try.f53 [ti t, ti a, ti b] [] _
  rw [vc_qcell]
  dsimp only at h
  unfold cellV at h
  have hb : (t == 1 && decide (a ≥ 0) && decide (a ≤ 3) && decide (b ≥ 0) && decide (b ≤ 3)) = true ↔ (t = 1 ∧ flatB a = true ∧ flatB b = true) := by
    unfold flatB
    simp only [Bool.and_eq_true, decide_eq_true_eq, beq_iff_eq]
    omega
  refine cond_of (fun hc => ?_) (fun hc => cond_of (fun he => ?_) (fun he => cond_of (fun hz => ?_) (fun hz => ?_)))
  · have hc : ¬ (t == 1 && decide (a ≥ 0) && decide (a ≤ 3) && decide (b ≥ 0) && decide (b ≤ 3)) = true := fun e => by rw [e] at hc; cases hc
    rw [if_neg (fun x => hc (hb.2 x))] at h; exact h
  all_goals
    have hc : (t == 1 && decide (a ≥ 0) && decide (a ≤ 3) && decide (b ≥ 0) && decide (b ≤ 3)) = true := by
      rcases cases_b (t == 1 && decide (a ≥ 0) && decide (a ≤ 3) && decide (b ≥ 0) && decide (b ≤ 3)) with e | e
      · rw [e] at hc; cases hc
      · exact e
    rw [if_pos (hb.1 hc)] at h
  · have he : a = b ∨ b = 0 := by simpa using he
    rw [if_pos he] at h; exact h
  · have he : ¬ (a = b ∨ b = 0) := by simpa using he
    have hz : a = 0 := by simpa using hz
    rw [if_neg he, if_pos hz] at h; exact h
  · have he : ¬ (a = b ∨ b = 0) := by simpa using he
    have hz : a ≠ 0 := by simpa using hz
    rw [if_neg he, if_neg hz] at h; exact h
theorem gokQc : GOK Try.prog (gam [(53, [], cell_t)]) := gam_ok ⟨qcell_ok, trivial⟩
theorem qj_loop (t : Int) (a b : Kn) (hx : a.2.length ≤ 100000) (hy : b.2.length ≤ 100000) (Q : Exit → SS → Prop) (hq : Q (.exit 0) (stQJX (List.zipWith (cellV t) a.2 b.2))) :
    W 0 Try.prog (.loop (lp Try.f36 0)) (stQJ t a b [] 0) Q := by
  refine W_all (fun i => stQJ t a b ((List.zipWith (cellV t) a.2 b.2).take i) i) (min a.2.length b.2.length) (fun _ => True) [0, 4, 5, 6, 7, 8] [6, 7] [6] (fun i hi ho K hK => ?_)
  refine sx_ok (Λ := noLam) gokQc _ 0 _ _ noLam_ok ?_
  rw [vc_qj]
  intro _
  have hlen : (List.zipWith (cellV t) a.2 b.2).length = min a.2.length b.2.length := List.length_zipWith
  have hzl : ((List.zipWith (cellV t) a.2 b.2).take i).length = i := by rw [List.length_take, hlen]; omega
  have hK : i < min a.2.length b.2.length → K (stQJ t a b ((List.zipWith (cellV t) a.2 b.2).take (i + 1)) (i + 1)) := fun h => hK h trivial
  have hzs : ∀ h1 : i < a.2.length, ∀ h2 : i < b.2.length, (List.zipWith (cellV t) a.2 b.2).take (i + 1) = (List.zipWith (cellV t) a.2 b.2).take i ++ [cellV t a.2[i] b.2[i]] := fun h1 h2 => by
    rw [List.take_succ_eq_append_getElem (by rw [hlen]; omega), List.getElem_zipWith]
  generalize hzs0 : (List.zipWith (cellV t) a.2 b.2).take i = zs at hzl hzs ⊢
  refine cond_of (fun hc => ?_) (fun hc => ?_)
  · have hc : i < a.2.length ∧ i < b.2.length := by simpa using hc
    obtain ⟨h1, h2⟩ := hc
    have ei : IntKind.i64.wrap ((i : Int) + 1) = ((i + 1 : Nat) : Int) := w64n (n := i + 1) (by omega)
    rw [ei, Int.toNat_natCast, getD_at h1, getD_at h2, vw_all]
    have hk := hK (by omega)
    rw [hzs h1 h2] at hk
    refine ⟨by omega, by omega, h1, by omega, by omega, h2, by simp, by omega, by simp only [List.length_append, List.length_cons, List.length_nil]; omega, hk⟩
  · have hc : ¬ (i < a.2.length ∧ i < b.2.length) := by
      rintro ⟨h1, h2⟩
      rw [decide_eq_true (show (i : Int) < (a.2.length : Int) by omega), decide_eq_true (show (i : Int) < (b.2.length : Int) by omega)] at hc
      cases hc
    have e : zs = List.zipWith (cellV t) a.2 b.2 := by rw [← hzs0, List.take_of_length_le (by omega)]
    rw [e]; exact hq
theorem qjoin_ok : ∀ args h Q, joinR_t args h Q → FSpec Try.prog 36 args h Q := trH_ok fun ((t, (c, xs), (d, ys), _) : Int × Kn × Kn × Unit) _ Q ⟨⟨hx, hy⟩, h⟩ => by
  dsimp only at hx hy h
  have hL : LOKL 0 Try.prog (lam [(0, qj_l)]) [(0, lp Try.f36 0)] := ⟨lam_ok fun x Q ⟨a1, a2⟩ b => qj_loop x.1 x.2.1 x.2.2 a1 a2 Q b, trivial⟩
  unfold joinV at h
  cases c with
  | false =>
    rw [if_pos rfl] at h
    refine spec_body (Λ := lam [(0, qj_l)]) gokQc Try.func36 rfl (lokl hL) ?_
    show body Try.prog (gam [(53, [], cell_t)]) (lam [(0, qj_l)]) Try.f36 [ti t, .agg [.bool (false, xs).1, .row tI (false, xs).2], .agg [.bool (d, ys).1, .row tI (d, ys).2]] [] _
    rw [vc_qjoin]
    exact h
  | true =>
    rw [if_neg (by simp)] at h
    cases d with
    | false =>
      rw [if_pos rfl] at h
      refine spec_body (Λ := lam [(0, qj_l)]) gokQc Try.func36 rfl (lokl hL) ?_
      show body Try.prog (gam [(53, [], cell_t)]) (lam [(0, qj_l)]) Try.f36 [ti t, .agg [.bool (true, xs).1, .row tI (true, xs).2], .agg [.bool (false, ys).1, .row tI (false, ys).2]] [] _
      rw [vc_qjoin]
      exact h
    | true =>
      rw [if_neg (by simp)] at h
      refine spec_data0 tKn (spec_frz 0 [] (spec_body (Λ := lam [(0, qj_l)]) gokQc Try.func36 rfl (lokl hL) ?_))
      show body Try.prog (gam [(53, [], cell_t)]) (lam [(0, qj_l)]) Try.f36 [ti t, .agg [.bool (true, xs).1, .row tI (true, xs).2], .agg [.bool (true, ys).1, .row tI (true, ys).2]] [] _
      rw [vc_qjoin]
      generalize hz : List.zipWith (cellV t) xs ys = zs at h
      refine ⟨(t, (true, xs), (true, ys)), rfl, ⟨hx, hy⟩, ?_⟩
      dsimp only
      rw [hz]
      refine ⟨rfl, _, _, _, _, rfl, rfl, ⟨by show 0 + zs.length ≤ zs.length; omega, trivial⟩, fun x hx => hx, [.bool true, .row tI (vw zs 0 zs.length)], (true, vw zs 0 zs.length), rfl, rfl, ?_⟩
      rw [vw_all]; exact h
/-! ### acts -/
theorem qd_loop (t : Int) (c0 : List Int) (acts : List Ac) (hl : c0.length ≤ 100000) (Q : Exit → SS → Prop) (h1 : actsV t c0 acts = none → Q .ret stQDR) (h2 : ∀ c, actsV t c0 acts = some c → Q (.exit 0) (stQDX c)) :
    W 0 Try.prog (.loop (lp Try.f37 0)) (stQD t c0 acts 0) Q := by
  refine W_loopE (N := 0) (P := Try.prog) (body := lp Try.f37 0) (Q := Q) (fun x : Nat × List Int => stQD t x.2 acts x.1) (fun x => x.1 ≤ acts.length ∧ actsV t c0 (acts.take x.1) = some x.2) (fun x => acts.length - x.1) [0, 2, 6, 7, 8] [6, 7] [6] (fun ⟨i, c⟩ ⟨hi, ht⟩ => ?_) (0, c0) ⟨Nat.zero_le _, rfl⟩
  dsimp only at hi ht ⊢
  refine sx_ok (Λ := noLam) gok0 _ 0 _ _ noLam_ok ?_
  rw [vc_qd]
  intro hm
  simp only [maxI] at hm
  refine cond_of (fun hc => ?_) (fun hc => ?_)
  · have hc : i < acts.length := by simpa using hc
    have ei : IntKind.i64.wrap ((i : Int) + 1) = ((i + 1 : Nat) : Int) := w64n (n := i + 1) (by omega)
    rw [ei, Int.toNat_natCast, getD_at hc]
    generalize ha : acts[i] = a
    have step : actsV t c0 (acts.take (i + 1)) = actV t c a := by
      rw [List.take_succ_eq_append_getElem hc, actsV_app, ht, ha]
      simp only [actsV]
      cases actV t c a <;> rfl
    have go : ∀ d, actV t c a = some d → ∃ y : Nat × List Int, stQD t d acts (i + 1) = stQD t y.2 acts y.1 ∧ (y.1 ≤ acts.length ∧ actsV t c0 (acts.take y.1) = some y.2) ∧ acts.length - y.1 < acts.length - i := fun d hd => ⟨(i + 1, d), rfl, ⟨hc, by rw [step]; exact hd⟩, by show acts.length - (i + 1) < _; omega⟩
    have go' : ∀ d, actV t c a = some d → d.length = c.length → ∃ y : Nat × List Int, ({ nt := 101, fr := [(0, .p (ti t)), (2, .p (.c (.row tAct acts))), (6, .p (.c (.ptr 0 0))), (7, .p (.c (.view tI 1 0 c.length))), (8, .p (ti ((i + 1 : Nat) : Int)))], hp := [.cells 27 [.bool false, .nils], .row 3 tI d] } : SS) = stQD t y.2 acts y.1 ∧ (y.1 ≤ acts.length ∧ actsV t c0 (acts.take y.1) = some y.2) ∧ acts.length - y.1 < acts.length - i := fun d hd hlen => by
      rw [← hlen]; exact go d hd
    have hi0 : (0 : Int) ≤ (i : Int) := by omega
    have hi1 : (i : Int) < (acts.length : Int) := by omega
    refine ⟨hi0, hi1, hc, cond_of (fun hh => ?_) (fun hh => ?_)⟩
    · have hh : hasB c.length a.2.1 = false := by
        rcases cases_b (hasB c.length a.2.1) with e | e
        · exact e
        · have := hasB_iff.1 e
          have hh : a.2.1 < 0 ∨ a.2.1 ≥ (c.length : Int) := by simpa using hh
          omega
      exact go c (by unfold actV; rw [if_pos hh])
    · have hh : ¬ (a.2.1 < 0 ∨ a.2.1 ≥ (c.length : Int)) := by
        rintro (e | e)
        · rw [decide_eq_true e] at hh; cases hh
        · rw [decide_eq_true e, Bool.or_true] at hh; cases hh
      have hh : hasB c.length a.2.1 = true := hasB_iff.2 (by omega)
      have hb := hasB_iff.1 hh
      have hn : ¬ (hasB c.length a.2.1 = false) := by rw [hh]; simp
      have hb2 : a.2.1.toNat < c.length := by omega
      rw [Nat.zero_add]
      refine cond_of (fun hk => ?_) (fun hk => cond_of (fun hk2 => cond_of (fun hs => ?_) (fun hs => ?_)) (fun hk2 => cond_of (fun hk3 => cond_of (fun hs => ?_) (fun hs => ⟨hb.1, hb.2, hb2, cond_of (fun hv => ⟨hb.1, hb.2, hb2, ?_⟩) (fun hv => ⟨hb.1, hb.2, hb2, cond_of (fun he => ?_) (fun he => ?_)⟩)⟩)) (fun hk3 => ?_)))
      · have hk : a.1 = 1 := by simpa using hk
        exact ⟨hb.1, hb.2, hb2, go' _ (by unfold actV; rw [if_neg hn, if_pos hk]) (by simp)⟩
      all_goals have hk : a.1 ≠ 1 := by simpa using hk
      · have hk2 : a.1 = 2 := by simpa using hk2
        have hs : a.2.2 ≥ 0 ∧ a.2.2 < (c.length : Int) := by simpa using hs
        rw [Nat.zero_add]
        exact ⟨hs.1, hs.2, by omega, hb.1, hb.2, hb2, go' _ (by unfold actV; rw [if_neg hn, if_neg hk, if_pos hk2, if_pos (hasB_iff.2 (by omega))]; rfl) (by simp)⟩
      · have hk2 : a.1 = 2 := by simpa using hk2
        have hs : ¬ (hasB c.length a.2.2 = true) := fun e => by
          have := hasB_iff.1 e
          rw [decide_eq_true (show a.2.2 ≥ 0 by omega), decide_eq_true (show a.2.2 < (c.length : Int) by omega)] at hs
          cases hs
        exact go c (by unfold actV; rw [if_neg hn, if_neg hk, if_pos hk2, if_neg hs])
      all_goals have hk2 : a.1 ≠ 2 := by simpa using hk2
      · have hk3 : a.1 = 3 := by simpa using hk3
        exact go c (by unfold actV meetB meetC; rw [if_neg hn, if_neg hk, if_neg hk2, if_pos hk3, hs]; rfl)
      · have hk3 : a.1 = 3 := by simpa using hk3
        have hv : (c.getD a.2.1.toNat 0 == 3) = true := hv
        exact go' _ (by unfold actV meetB meetC; rw [if_neg hn, if_neg hk, if_neg hk2, if_pos hk3, hs, hv]; rfl) (by simp)
      · have hk3 : a.1 = 3 := by simpa using hk3
        have hv : (c.getD a.2.1.toNat 0 == 3) = false := hv
        have he : (c.getD a.2.1.toNat 0 == a.2.2) = false := by
          have he : (c.getD a.2.1.toNat 0 != a.2.2) = true := he
          simpa using he
        refine h1 ?_
        have e : acts = acts.take (i + 1) ++ acts.drop (i + 1) := (List.take_append_drop _ _).symm
        rw [e, actsV_app, step]
        unfold actV meetB
        rw [if_neg hn, if_neg hk, if_neg hk2, if_pos hk3, hs, hv, he]
        rfl
      · have hk3 : a.1 = 3 := by simpa using hk3
        have hv : (c.getD a.2.1.toNat 0 == 3) = false := hv
        have he : (c.getD a.2.1.toNat 0 == a.2.2) = true := by
          have he : (c.getD a.2.1.toNat 0 != a.2.2) = false := he
          simpa using he
        exact go c (by unfold actV meetB meetC; rw [if_neg hn, if_neg hk, if_neg hk2, if_pos hk3, hs, hv, he]; rfl)
      · have hk3 : a.1 ≠ 3 := by simpa using hk3
        exact go c (by unfold actV; rw [if_neg hn, if_neg hk, if_neg hk2, if_neg hk3])
  · have hc : ¬ (i < acts.length) := by simpa using hc
    rw [List.take_of_length_le (by omega)] at ht
    exact h2 c ht
theorem qdo_ok : ∀ args h Q, doR_t args h Q → FSpec Try.prog 37 args h Q := trH_ok fun ((t, (b, c), acts, _) : Int × Kn × List Ac × Unit) _ Q ⟨hl, h⟩ => by
  dsimp only at hl h
  have hL : LOKL 0 Try.prog (lam [(0, qd_l)]) [(0, lp Try.f37 0)] := ⟨lam_ok fun x Q a1 ⟨b1, b2⟩ => qd_loop x.1 x.2.1 x.2.2 a1 Q b1 b2, trivial⟩
  cases b with
  | false =>
    have e : doV t (false, c) acts = (false, []) := by unfold doV; rw [if_pos rfl]
    rw [e] at h
    refine spec_data0 tKn (spec_body (Λ := lam [(0, qd_l)]) gok0 Try.func37 rfl (lokl hL) ?_)
    show body Try.prog (gam []) (lam [(0, qd_l)]) Try.f37 [ti t, .agg [.bool (false, c).1, .row tI (false, c).2], .c (.row tAct acts)] [] _
    rw [vc_qdo]
    exact ⟨Nat.le_refl _, by dsimp only; omega, [.bool false, .nils], (false, []), rfl, rfl, h⟩
  | true =>
    cases hA : actsV t c acts with
    | none =>
      have e : doV t (true, c) acts = (false, []) := by unfold doV; rw [if_neg (by simp)]; dsimp only; rw [hA]
      rw [e] at h
      refine spec_data0 tKn (spec_body (Λ := lam [(0, qd_l)]) gok0 Try.func37 rfl (lokl hL) ?_)
      show body Try.prog (gam []) (lam [(0, qd_l)]) Try.f37 [ti t, .agg [.bool (true, c).1, .row tI (true, c).2], .c (.row tAct acts)] [] _
      rw [vc_qdo]
      refine ⟨Nat.le_refl _, by dsimp only; omega, (t, c, acts), rfl, hl, fun _ => ⟨[.bool false, .nils], (false, []), rfl, rfl, h⟩, fun d hd => ?_⟩
      dsimp only at hd; rw [hA] at hd; cases hd
    | some d =>
      have e : doV t (true, c) acts = (true, d) := by unfold doV; rw [if_neg (by simp)]; dsimp only; rw [hA]
      rw [e] at h
      refine spec_data0 tKn (spec_frz 0 [] (spec_body (Λ := lam [(0, qd_l)]) gok0 Try.func37 rfl (lokl hL) ?_))
      show body Try.prog (gam []) (lam [(0, qd_l)]) Try.f37 [ti t, .agg [.bool (true, c).1, .row tI (true, c).2], .c (.row tAct acts)] [] _
      rw [vc_qdo]
      refine ⟨Nat.le_refl _, by dsimp only; omega, (t, c, acts), rfl, hl, fun hn => ?_, fun d' hd => ?_⟩
      · dsimp only at hn; rw [hA] at hn; cases hn
      · dsimp only at hd; rw [hA] at hd; cases hd
        refine ⟨rfl, _, _, _, _, rfl, rfl, ⟨by show 0 + d.length ≤ d.length; omega, trivial⟩, fun x hx => hx, [.bool true, .row tI (vw d 0 d.length)], (true, vw d 0 d.length), rfl, rfl, ?_⟩
        rw [vw_all]; exact h
end Go.Proofs.Ytloiimhmmcheoaa.Ch
