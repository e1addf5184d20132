/- Chapter 21 (solve): what acts make of a fact; meters, proved. No condition. -/
import Derived.Test.YtloiimhmmcheoaaMEV
namespace Go.Proofs.Ytloiimhmmcheoaa.Ch
open Go Go.Proofs Go.Proofs.Ytloiimhmmcheoaa.Sx
set_option linter.unusedVariables false
set_option linter.unusedSimpArgs false

theorem hasB_iff {n : Nat} {v : Int} : hasB n v = true ↔ 0 ≤ v ∧ v < n := by simp [hasB]
theorem has_ok : ∀ args h Q, has_t args h Q → FSpec Try.prog 49 args h Q := trH_ok fun (((c, n, _), v, _) : (Bool × Nat × Unit) × Int × Unit) ((xs, _) : List Int × Unit) Q ⟨hn, h⟩ => by
  dsimp only at hn h; subst hn
  refine spec_body gok0 Try.func49 rfl noLam_ok ?_
  show body Try.prog (gam []) noLam Try.f49 [.agg [.bool ((c, xs) : Kn).1, .view tF 0 0 ((c, xs) : Kn).2.length], ti v] [.row 3 tF ((c, xs) : Kn).2] _
  rw [vc_has]; exact h
theorem scloneF_ok : ∀ args h Q, scloneF_t args h Q → FSpec Try.prog 48 args h Q := trH_ok fun ((xs, _) : List Int × Unit) _ Q ⟨h0, h⟩ => by
  exact spec_fix 3 tI (sclone_ok [.c (.row tI xs)] [] _ ⟨h0, xs, rfl, rfl, h⟩)
theorem meet_ok : ∀ args h Q, meet_t args h Q → FSpec Try.prog 50 args h Q := trH_ok fun ((t, (b, n, _), a, _) : Int × (Bool × Nat × Unit) × Ac × Unit) ((c, _) : List Int × Unit) Q ⟨⟨hn, hh⟩, h⟩ => by
  dsimp only at hn hh h; subst hn
  have hb := hasB_iff.1 hh
  refine spec_body gok0 Try.func50 rfl noLam_ok ?_
  show body Try.prog (gam []) noLam Try.f50 [ti t, .agg [.bool b, .view tF 0 0 c.length], .agg (toCV tAct a)] [.row 3 tF c] _
  rw [vc_meet, Nat.zero_add]
  unfold meetB meetC at h
  refine ⟨hb.1, hb.2, by omega, cond_of (fun hc => ?_) (fun hc => cond_of (fun hd => ⟨hb.1, hb.2, by omega, ?_⟩) (fun hd => ?_))⟩
  · rw [hc] at h; exact h
  · have hd : (c.getD a.2.1.toNat 0 == 3) = true := hd
    rw [hc, hd] at h; exact h
  · have hd : (c.getD a.2.1.toNat 0 == 3) = false := hd
    rw [hc, hd] at h; exact h
theorem gokDo : GOK Try.prog (gam gDo) := gam_ok ⟨scloneF_ok, has_ok, meet_ok, trivial⟩
theorem actsV_app (t : Int) : ∀ (l m : List Ac) (c : List Int), actsV t c (l ++ m) = match actsV t c l with | none => none | some c' => actsV t c' m
  | [], m, c => rfl
  | a :: l, m, c => by
    simp only [List.cons_append, actsV]
    cases actV t c a with
    | none => rfl
    | some c' => exact actsV_app t l m c'
theorem meetC_len (t : Int) (c : List Int) (a : Ac) : (meetC t c a).length = c.length := by
  unfold meetC
  cases (t != 1 || a.2.2 == 3) <;> cases (c.getD a.2.1.toNat 0 == 3) <;> simp
theorem actV_len {t : Int} {c d : List Int} {a : Ac} (h : actV t c a = some d) : d.length = c.length := by
  unfold actV at h
  split at h
  · cases h; rfl
  · split at h
    · cases h; simp
    · split at h
      · split at h
        · cases h; simp
        · cases h; rfl
      · split at h
        · split at h
          · cases h; exact meetC_len t c a
          · cases h
        · cases h; rfl
theorem do_loop (t : Int) (c0 : List Int) (acts : List Ac) (hl : c0.length ≤ 100000) (hm : acts.length ≤ maxI) (Q : Exit → SS → Prop) (h1 : actsV t c0 acts = none → Q .ret stDoR) (h2 : ∀ c, actsV t c0 acts = some c → Q (.exit 0) (stDoX c)) : W 0 Try.prog (.loop (lp Try.f28 0)) (stDo t c0 acts 0) Q := by
  refine W_loopE (N := 0) (P := Try.prog) (body := lp Try.f28 0) (Q := Q) (fun x : Nat × List Int => stDo t x.2 acts x.1) (fun x => x.1 ≤ acts.length ∧ actsV t c0 (acts.take x.1) = some x.2) (fun x => acts.length - x.1) [0, 4, 6, 17, 18, 19] [4, 6] [6] (fun ⟨i, c⟩ ⟨hi, ht⟩ => ?_) (0, c0) ⟨Nat.zero_le _, rfl⟩
  dsimp only at hi ht ⊢
  refine sx_ok (Λ := noLam) gokDo _ 0 _ _ noLam_ok ?_
  rw [vc_dol]
  simp only [maxI] at hm
  refine cond_of (fun hc => ?_) (fun hc => ?_)
  · have hc : i < acts.length := by simpa using hc
    have ei : IntKind.i64.wrap ((i : Int) + 1) = ((i + 1 : Nat) : Int) := w64n (n := i + 1) (by omega)
    rw [ei, Int.toNat_natCast, getD_at hc]
    generalize ha : acts[i] = a
    have step : actsV t c0 (acts.take (i + 1)) = actV t c a := by
      rw [List.take_succ_eq_append_getElem hc, actsV_app, ht, ha]
      simp only [actsV]
      cases actV t c a <;> rfl
    have go : ∀ d, actV t c a = some d → ∃ y : Nat × List Int, stDo t d acts (i + 1) = stDo t y.2 acts y.1 ∧ (y.1 ≤ acts.length ∧ actsV t c0 (acts.take y.1) = some y.2) ∧ acts.length - y.1 < acts.length - i := fun d hd => ⟨(i + 1, d), rfl, ⟨hc, by rw [← hd]; exact step⟩, by show acts.length - (i + 1) < acts.length - i; omega⟩
    have go' : ∀ d, actV t c a = some d → d.length = c.length → ∃ y : Nat × List Int, ({ nt := 66, fr := [(0, SV.p (PV.c (CV.int IntKind.i64 t))), (4, SV.p (PV.c (CV.ptr 0 0))), (6, SV.p (PV.c (CV.ptr 2 0))), (17, SV.p (PV.c (CV.row tAct acts))), (18, SV.p (PV.c (CV.int IntKind.i64 (acts.length : Int)))), (19, SV.p (PV.c (CV.int IntKind.i64 ((i + 1 : Nat) : Int))))], hp := [HB.cells 27 [CV.bool true, CV.view tF 1 0 c.length], HB.row 3 tF d, HB.cells 27 [CV.bool false, CV.nils]] } : SS) = stDo t y.2 acts y.1 ∧ (y.1 ≤ acts.length ∧ actsV t c0 (acts.take y.1) = some y.2) ∧ acts.length - y.1 < acts.length - i := fun d hd hl => by
      rw [← hl]; exact go d hd
    refine ⟨by omega, by omega, hc, rfl, cond_of (fun hh => ?_) (fun hh => ?_)⟩
    · have hh : hasB c.length a.2.1 = false := by simpa using hh
      exact go c (by unfold actV; rw [if_pos hh])
    · have hh : hasB c.length a.2.1 = true := by simpa using hh
      have hb := hasB_iff.1 hh
      have hn : ¬ (hasB c.length a.2.1 = false) := by rw [hh]; simp
      rw [Nat.zero_add]
      refine cond_of (fun hk => ?_) (fun hk => cond_of (fun hk2 => ⟨rfl, cond_of (fun hs => ?_) (fun hs => ?_)⟩) (fun hk2 => cond_of (fun hk3 => ⟨⟨rfl, hh⟩, cond_of (fun hs => ?_) (fun hs => ?_)⟩) (fun hk3 => ?_)))
      · have hk : a.1 = 1 := by simpa using hk
        exact ⟨hb.1, hb.2, by omega, go' _ (by unfold actV; rw [if_neg hn, if_pos hk]) (by simp)⟩
      all_goals have hk : a.1 ≠ 1 := by simpa using hk
      · have hk2 : a.1 = 2 := by simpa using hk2
        have hb2 := hasB_iff.1 hs
        rw [Nat.zero_add]
        exact ⟨hb2.1, hb2.2, by omega, hb.1, hb.2, by omega, go' _ (by unfold actV; rw [if_neg hn, if_neg hk, if_pos hk2, if_pos hs]; rfl) (by simp)⟩
      · have hk2 : a.1 = 2 := by simpa using hk2
        exact go c (by unfold actV; rw [if_neg hn, if_neg hk, if_pos hk2, if_neg (by rw [hs]; simp)])
      all_goals have hk2 : a.1 ≠ 2 := by simpa using hk2
      · have hk3 : a.1 = 3 := by simpa using hk3
        have hs : meetB t c a = false := by simpa using hs
        refine h1 ?_
        have e : acts = acts.take (i + 1) ++ acts.drop (i + 1) := (List.take_append_drop _ _).symm
        rw [e, actsV_app, step]
        unfold actV
        rw [if_neg hn, if_neg hk, if_neg hk2, if_pos hk3, if_neg (by rw [hs]; simp)]
      · have hk3 : a.1 = 3 := by simpa using hk3
        have hs : meetB t c a = true := by simpa using hs
        exact go' _ (by unfold actV; rw [if_neg hn, if_neg hk, if_neg hk2, if_pos hk3, if_pos hs]) (meetC_len t c a)
      · have hk3 : a.1 ≠ 3 := by simpa using hk3
        exact go c (by unfold actV; rw [if_neg hn, if_neg hk, if_neg hk2, if_neg hk3])
  · have hc : ¬ (i < acts.length) := by simpa using hc
    rw [List.take_of_length_le (by omega)] at ht
    exact h2 c ht
theorem do_ok : ∀ args h Q, doR_t args h Q → FSpec Try.prog 28 args h Q := trH_ok fun ((t, (b, c), acts, _) : Int × Kn × List Ac × Unit) _ Q ⟨hl, h⟩ => by
  dsimp only at hl h
  have hL : LOKL 0 Try.prog (lam [(0, do_l)]) [(0, lp Try.f28 0)] := ⟨lam_ok fun x Q ⟨a1, a2⟩ ⟨b1, b2⟩ => do_loop x.1 x.2.1 x.2.2 a1 a2 Q b1 b2, trivial⟩
  cases b with
  | false =>
    have e : doV t (false, c) acts = (false, []) := by unfold doV; rw [if_pos rfl]
    rw [e] at h
    refine spec_data0 tKn (spec_body (Λ := lam [(0, do_l)]) gokDo Try.func28 rfl (lokl hL) ?_)
    show body Try.prog (gam gDo) (lam [(0, do_l)]) Try.f28 [ti t, .agg [.bool false, .row tI c], .c (.row tAct acts)] [] _
    rw [vc_do0]
    exact ⟨[.bool false, .nils], (false, []), rfl, rfl, h⟩
  | true =>
    cases hA : actsV t c acts with
    | none =>
      have e : doV t (true, c) acts = (false, []) := by unfold doV; rw [if_neg (by simp)]; dsimp only; rw [hA]
      rw [e] at h
      refine spec_data0 tKn (spec_body (Λ := lam [(0, do_l)]) gokDo Try.func28 rfl (lokl hL) ?_)
      show body Try.prog (gam gDo) (lam [(0, do_l)]) Try.f28 [ti t, .agg [.bool true, .row tI c], .c (.row tAct acts)] [] _
      rw [vc_do1]
      refine ⟨by omega, fun hm => ⟨(t, c, acts), rfl, ⟨hl, hm⟩, fun _ => ⟨[.bool false, .nils], (false, []), rfl, rfl, h⟩, fun d hd => ?_⟩⟩
      dsimp only at hd; rw [hA] at hd; cases hd
    | some d =>
      have e : doV t (true, c) acts = (true, d) := by unfold doV; rw [if_neg (by simp)]; dsimp only; rw [hA]
      rw [e] at h
      refine spec_data0 tKn (spec_frz 0 [] (spec_unfixA 3 tI (spec_body (Λ := lam [(0, do_l)]) gokDo Try.func28 rfl (lokl hL) ?_)))
      show body Try.prog (gam gDo) (lam [(0, do_l)]) Try.f28 [ti t, .agg [.bool true, .row tI c], .c (.row tAct acts)] [] _
      rw [vc_do1]
      refine ⟨by omega, fun hm => ⟨(t, c, acts), rfl, ⟨hl, hm⟩, fun hn => ?_, fun d' hd => ?_⟩⟩
      · dsimp only at hn; rw [hA] at hn; cases hn
      · dsimp only at hd; rw [hA] at hd; cases hd
        refine ⟨true, d, rfl, rfl, rfl, _, _, _, _, rfl, rfl, ⟨by show 0 + d.length ≤ d.length; omega, trivial⟩, fun x hx => hx, [.bool true, .row tI (vw d 0 d.length)], (true, vw d 0 d.length), rfl, rfl, ?_⟩
        rw [vw_all]; exact h
/-! ### meters -/
theorem budget_ok : ∀ args h Q, budget_t args h Q → FSpec Try.prog 10 args h Q := trH_ok fun ((n, _) : Int × Unit) _ Q h => by
  refine spec_body gok0 Try.func10 rfl noLam_ok ?_
  show body Try.prog (gam []) noLam Try.f10 [ti n] [] _
  rw [vc_budget]; exact h
theorem load_ok : ∀ args h Q, load_t args h Q → FSpec Try.prog 32 args h Q := trH_ok fun _ (((u, l, _), _) : (Int × Int × Unit) × Unit) Q h => by
  refine spec_body gok0 Try.func32 rfl noLam_ok ?_
  show body Try.prog (gam []) noLam Try.f32 [.c (.ptr 0 0)] (mtH u l) _
  rw [vc_load]; exact h
theorem add_ok : ∀ args h Q, add_t args h Q → FSpec Try.prog 47 args h Q := trH_ok fun ((_, d, _) : Unit × Int × Unit) (((u, l, _), _) : (Int × Int × Unit) × Unit) Q h => by
  refine spec_body gok0 Try.func47 rfl noLam_ok ?_
  show body Try.prog (gam []) noLam Try.f47 [.c (.ptr 0 0), ti d] (mtH u l) _
  rw [vc_add]; exact h
theorem used_ok : ∀ args h Q, used_t args h Q → FSpec Try.prog 14 args h Q := trH_ok fun _ (((u, l, _), _) : (Int × Int × Unit) × Unit) Q h => by
  refine spec_body (Γ := gam [(32, [], load_t)]) (gam_ok ⟨load_ok, trivial⟩) Try.func14 rfl noLam_ok ?_
  show body Try.prog (gam [(32, [], load_t)]) noLam Try.f14 [.c (.ptr 0 0)] (mtH u l) _
  rw [vc_used]; exact h
theorem used0_ok : ∀ args h Q, used0_t args h Q → FSpec Try.prog 14 args h Q := trH_ok fun _ _ Q h => by
  refine spec_body (Γ := gam [(32, [], failT)]) (gam_ok ⟨failT_ok, trivial⟩) Try.func14 rfl noLam_ok ?_
  show body Try.prog (gam [(32, [], failT)]) noLam Try.f14 [.c .nilp] [] _
  rw [vc_used0]; exact h
theorem take_ok : ∀ args h Q, take_t args h Q → FSpec Try.prog 26 args h Q := trH_ok fun _ (((u, l, _), _) : (Int × Int × Unit) × Unit) Q ⟨⟨h0, h1, h2⟩, ha, hb⟩ => by
  have h0 : (0 : Int) ≤ u := h0
  have h1 : u ≤ l := h1
  have h2 : l ≤ (1000000 : Int) := h2
  dsimp only at ha hb
  refine spec_body (Γ := gam [(47, [], add_t)]) (gam_ok ⟨add_ok, trivial⟩) Try.func26 rfl noLam_ok ?_
  show body Try.prog (gam [(47, [], add_t)]) noLam Try.f26 [.c (.ptr 0 0)] (mtH u l) _
  rw [vc_take]
  have e1 : IntKind.i64.wrap (u + 1) = u + 1 := w64 (by omega) (by omega)
  have e2 : IntKind.i64.wrap (u + 1 + -1) = u := by rw [w64 (by omega) (by omega)]; omega
  rw [e1, e2]
  have one : bif decide (u + 1 > l) then Q (SV.p (PV.c (CV.bool false))) [HB.cells 67 [CV.int IntKind.i64 u, CV.int IntKind.i64 l]] else Q (SV.p (PV.c (CV.bool true))) [HB.cells 67 [CV.int IntKind.i64 (u + 1), CV.int IntKind.i64 l]] :=
    cond_of (fun hc => hb (by have : l < u + 1 := by simpa using hc
                              show ¬ (u < l); omega)) (fun hc => ha (by have : ¬ (l < u + 1) := by simpa using hc
                                                                        show u < l; omega))
  exact ⟨one, one⟩
end Go.Proofs.Ytloiimhmmcheoaa.Ch
