/- Chapter 7 (scope): Put, Change, Find, Within, proved. No condition. -/
import Derived.Test.YtlfnpdfgdebhkaaSCV
namespace Go.Proofs.Ytlfnpdfgdebhkaa.Ch
open Go Go.Proofs Go.Proofs.Ytlfnpdfgdebhkaa.Sx
set_option linter.unusedVariables false
set_option linter.unusedSimpArgs false

theorem put_ok : ∀ args h Q, put_t args h Q → FSpec Try.prog 11 args h Q := trH_ok fun ((_, i, ob, _) : Unit × Int × Ob × Unit) ((n, m, _), o, l, es, _) Q ⟨⟨hn, hm, ho, hl, h1⟩, h, h2⟩ => by
  dsimp only at hn hm ho hl h1 h h2; subst hn hm
  refine spec_body gokHas Try.func11 rfl noLam_ok ?_
  show body Try.prog (gam gHas) noLam Try.f11 [.c (.ptr 0 0), ti i, .agg (toCV tO ob)] [.cells 67 [.view tI 1 0 o.length, .view tO 2 0 l.length, .mp 3], .row 3 tI o, .row 40 tO l, .map true tKy false tI es] _
  rw [vc_put]
  have hok : (o.length = o.length ∧ l.length = l.length ∧ o.length ≤ 1000 ∧ l.length ≤ 1000 ∧ 1 ≤ l.length) := ⟨rfl, rfl, ho, by omega, h1⟩
  have hln : (l ++ [ob]).length = l.length + 1 := by simp
  have hok2 : (o.length = o.length ∧ (l ++ [ob]).length = (l ++ [ob]).length ∧ o.length ≤ 1000 ∧ (l ++ [ob]).length ≤ 1000 ∧ 1 ≤ (l ++ [ob]).length) := ⟨rfl, rfl, ho, by omega, by omega⟩
  unfold putE at h h2
  refine ⟨hok, cond_of (fun hc => ?_) (fun hc => cond_of (fun hk => ?_) (fun hk => ⟨hok, cond_of (fun hh => ?_) (fun hh => ⟨hok, cond_of (fun hb => by simp at hb; omega) (fun _ => ?_)⟩)⟩))⟩
  · have hc : inB o.length i = false := by simpa using hc
    rw [if_neg (by rw [hc]; simp)] at h
    exact h (by omega)
  · have hc : inB o.length i = true := by simpa using hc
    have : (inB o.length i && kindB ob.1 && !(strEq ob.2.1 ⟨#[]⟩)) = false := by
      rw [hc, Bool.true_and]
      simp only [Bool.false_or] at hk
      cases h3 : kindB ob.1 <;> cases h4 : strEq ob.2.1 ⟨#[]⟩ <;> rw [h3, h4] at hk <;> simp_all
    rw [if_neg (by rw [this]; simp)] at h
    exact h (by omega)
  · have hc : inB o.length i = true := by simpa using hc
    have h3 : (inB o.length i && kindB ob.1 && !(strEq ob.2.1 ⟨#[]⟩)) = true := by
      rw [hc, Bool.true_and]
      simp only [Bool.false_or] at hk
      cases h3 : kindB ob.1 <;> cases h4 : strEq ob.2.1 ⟨#[]⟩ <;> rw [h3, h4] at hk <;> simp_all
    have hlk : (lookV es i ob.2.1).isSome = true := by unfold hereV at hh; rw [if_pos hc] at hh; exact hh
    rw [if_pos h3, if_pos hlk] at h
    exact h (by omega)
  · have hc : inB o.length i = true := by simpa using hc
    have h3 : (inB o.length i && kindB ob.1 && !(strEq ob.2.1 ⟨#[]⟩)) = true := by
      rw [hc, Bool.true_and]
      simp only [Bool.false_or] at hk
      cases h3 : kindB ob.1 <;> cases h4 : strEq ob.2.1 ⟨#[]⟩ <;> rw [h3, h4] at hk <;> simp_all
    have hlk : (lookV es i ob.2.1).isSome = false := by unfold hereV at hh; rw [if_pos hc] at hh; exact hh
    have h2 := h2 (by rw [if_pos h3, if_neg (by rw [hlk]; simp)])
    unfold putEs at h2
    rw [vw_all]
    have e : (((l ++ [ob]).length : Int) - 1) = (l.length : Int) := by rw [hln]; omega
    rw [e]
    refine ⟨by simp, by omega, by rw [hln]; omega, cond_of (fun hu => ?_) (fun hu => ?_)⟩
    · rw [if_neg (by simpa using hu)] at h2
      exact ⟨⟨hok2, hok2, h2⟩, hok2, hok2, h2⟩
    · rw [if_pos (by simpa using hu)] at h2
      exact ⟨hok2, h2⟩
theorem put0_ok : ∀ args h Q, put0_t args h Q → FSpec Try.prog 11 args h Q := trH_ok fun ((_, i, ob, _) : Unit × Int × Ob × Unit) _ Q h => by
  refine spec_body gokHas Try.func11 rfl noLam_ok ?_
  show body Try.prog (gam gHas) noLam Try.f11 [.c .nilp, ti i, .agg (toCV tO ob)] [] _
  rw [vc_put0]; exact h
theorem change_ok : ∀ args h Q, change_t args h Q → FSpec Try.prog 21 args h Q := trH_ok fun ((_, i, ob, _) : Unit × Int × Ob × Unit) ((n, m, _), o, l, es, _) Q ⟨⟨hn, hm, ho, hl, h1⟩, h, h2⟩ => by
  dsimp only at hn hm ho hl h1 h h2; subst hn hm
  refine spec_body gokHas Try.func21 rfl noLam_ok ?_
  show body Try.prog (gam gHas) noLam Try.f21 [.c (.ptr 0 0), ti i, .agg (toCV tO ob)] [.cells 67 [.view tI 1 0 o.length, .view tO 2 0 l.length, .mp 3], .row 3 tI o, .row 40 tO l, .map true tKy false tI es] _
  rw [vc_change]
  have hok : (o.length = o.length ∧ l.length = l.length ∧ o.length ≤ 1000 ∧ l.length ≤ 1000 ∧ 1 ≤ l.length) := ⟨rfl, rfl, ho, by omega, h1⟩
  unfold chgB at h h2
  refine ⟨hok, cond_of (fun hc => ?_) (fun hc => ?_)⟩
  · have hc : inB l.length i = false := by simpa using hc
    have h := h (by rw [hc]; rfl)
    exact h
  · have hc : inB l.length i = true := by simpa using hc
    have hb := inB_iff.1 hc
    have hlt : i.toNat < l.length := by omega
    rw [Nat.zero_add, getD_at hlt]
    rw [getD_at hlt] at h h2
    rw [hc, Bool.true_and] at h h2
    cases hk : kindB ob.1 with
    | false =>
      have h := h (by rw [hk]; rfl)
      exact h
    | true =>
      rw [hk, Bool.true_and] at h h2
      have hf : (false = false → 0 ≤ i ∧ i < (l.length : Int) ∧ True) := fun _ => ⟨by omega, by omega, trivial⟩
      have hz : bif false || !strEq ob.snd.fst (l[i.toNat]).snd.fst then Q (.p (.c (.int .i64 1))) [.cells 67 [.view tI 1 0 o.length, .view tO 2 0 l.length, .mp 3], .row 3 tI o, .row 40 tO l, .map true tKy false tI es] else 0 ≤ i ∧ i < (l.length : Int) ∧ i.toNat < l.length ∧ Q (.p (.c (.int .i64 0))) [.cells 67 [.view tI 1 0 o.length, .view tO 2 0 l.length, .mp 3], .row 3 tI o, .row 40 tO (l.set i.toNat ob), .map true tKy false tI es] := by
        refine cond_of (fun hs => h (by simpa using hs)) (fun hs => ⟨by omega, by omega, hlt, ?_⟩)
        have h2 := h2 (by simpa using hs)
        unfold scH at h2
        rw [List.length_set] at h2
        exact h2
      exact ⟨hf, hlt, hz⟩
theorem change0_ok : ∀ args h Q, change0_t args h Q → FSpec Try.prog 21 args h Q := trH_ok fun ((_, i, ob, _) : Unit × Int × Ob × Unit) _ Q h => by
  refine spec_body gokHas Try.func21 rfl noLam_ok ?_
  show body Try.prog (gam gHas) noLam Try.f21 [.c .nilp, ti i, .agg (toCV tO ob)] [] _
  rw [vc_change0]; exact h
theorem out_at {o : List Int} (ho : OutOk o) {a : Int} (h : inB o.length a = true) : 0 ≤ o.getD a.toNat 0 ∧ o.getD a.toNat 0 < a := by
  have hb := inB_iff.1 h
  have hlt : a.toNat < o.length := by omega
  rw [getD_at hlt]
  have := ho _ hlt
  have := this.2 (by omega)
  omega
theorem findF_fuel {o : List Int} (ho : OutOk o) (es : Es) (nm : ByteArray) : ∀ (f g : Nat) (a : Int), a.toNat + 1 ≤ f → a.toNat + 1 ≤ g → findF f o es a nm = findF g o es a nm := by
  intro f
  induction f with
  | zero => intro g a h; omega
  | succ f ih =>
    intro g a h1 h2
    cases g with
    | zero => omega
    | succ g =>
      simp only [findF]
      by_cases hb : inB o.length a = true
      · rw [if_pos hb, if_pos hb]
        have := out_at ho hb
        cases lookV es a nm with
        | some i => rfl
        | none => exact ih g _ (by omega) (by omega)
      · rw [if_neg hb, if_neg hb]
theorem findV_step {o : List Int} (ho : OutOk o) (es : Es) (nm : ByteArray) {a : Int} (hb : inB o.length a = true) (hl : lookV es a nm = none) : findV o es a nm = findV o es (o.getD a.toNat 0) nm := by
  have := out_at ho hb
  have e : findV o es a nm = findF a.toNat o es (o.getD a.toNat 0) nm := by
    unfold findV
    simp only [findF]
    rw [if_pos hb, hl]
  rw [e]
  exact findF_fuel ho es nm _ _ _ (by omega) (Nat.le_refl _)
theorem withF_fuel {o : List Int} (ho : OutOk o) (b : Int) : ∀ (f g : Nat) (a : Int), a.toNat + 1 ≤ f → a.toNat + 1 ≤ g → withF f o a b = withF g o a b := by
  intro f
  induction f with
  | zero => intro g a h; omega
  | succ f ih =>
    intro g a h1 h2
    cases g with
    | zero => omega
    | succ g =>
      simp only [withF]
      by_cases hb : (inB o.length a && !(decide (a = b))) = true
      · rw [if_pos hb, if_pos hb]
        have := out_at ho (a := a) (by simp only [Bool.and_eq_true] at hb; exact hb.1)
        exact ih g _ (by omega) (by omega)
      · rw [if_neg hb, if_neg hb]
theorem withF_step {o : List Int} (ho : OutOk o) {a b : Int} (hb : inB o.length a = true) (hne : a ≠ b) : withF (a.toNat + 1) o a b = withF ((o.getD a.toNat 0).toNat + 1) o (o.getD a.toNat 0) b := by
  have := out_at ho hb
  have e : withF (a.toNat + 1) o a b = withF a.toNat o (o.getD a.toNat 0) b := by
    simp only [withF]
    rw [if_pos (by rw [hb, decide_eq_false hne]; rfl)]
  rw [e]
  exact withF_fuel ho b _ _ _ (by omega) (Nat.le_refl _)
theorem find_loop (o : List Int) (l : List Ob) (es : Es) (a0 : Int) (nm : ByteArray) (hs : scOk o l) (ho : OutOk o) (Q : Exit → SS → Prop) (h1 : (findV o es a0 nm).2.2 = false → Q (.exit 0) (stFX o l es)) (h2 : (findV o es a0 nm).2.2 = true → Q .ret (stFR o l es (findV o es a0 nm).1 (findV o es a0 nm).2.1 true)) :
    W 4 Try.prog (.loop (lp Try.f9 0)) (stF o l es a0 nm) Q := by
  refine W_loopE (N := 4) (P := Try.prog) (body := lp Try.f9 0) (Q := Q) (fun a : Int => stF o l es a nm) (fun a => findV o es a nm = findV o es a0 nm) (fun a => a.toNat) [0, 1, 2] [] [6, 7, 8] (fun a ha => ?_) a0 rfl
  have ha : findV o es a nm = findV o es a0 nm := ha
  refine sx_ok (Λ := noLam) gokHas _ 0 _ _ noLam_ok ?_
  rw [vc_findl]
  rw [← ha] at h1 h2
  have hok : (o.length = o.length ∧ l.length = l.length ∧ o.length ≤ 1000 ∧ l.length ≤ 1000 ∧ 1 ≤ l.length) := ⟨rfl, rfl, hs.1, by have := hs.2.1; omega, hs.2.2⟩
  refine ⟨hok, cond_of (fun hc => ⟨hok, cond_of (fun hh => ?_) (fun hh => ?_)⟩) (fun hc => ?_)⟩
  · unfold hereV at hh ⊢
    rw [if_pos hc] at hh ⊢
    cases hl : lookV es a nm with
    | none => rw [hl] at hh; cases hh
    | some i =>
      have e : findV o es a nm = (i, a, true) := by unfold findV; simp only [findF]; rw [if_pos hc, hl]
      rw [e] at h2
      exact h2 rfl
  · unfold hereV at hh
    rw [if_pos hc] at hh
    have hl : lookV es a nm = none := by
      cases hl : lookV es a nm with
      | none => rfl
      | some i => rw [hl] at hh; cases hh
    have hb := inB_iff.1 hc
    have := out_at ho hc
    have hlt : a.toNat < o.length := by omega
    rw [Nat.zero_add, getD_at hlt]
    rw [getD_at hlt] at this
    have hst := findV_step ho es nm hc hl
    rw [getD_at hlt] at hst
    exact ⟨by omega, by omega, hlt, o[a.toNat], rfl, by rw [← hst]; exact ha, by omega⟩
  · have e : findV o es a nm = (0, 0, false) := by unfold findV; simp only [findF]; rw [if_neg (by rw [hc]; simp)]
    rw [e] at h1
    exact h1 rfl
theorem find_ok : ∀ args h Q, find_t args h Q → FSpec Try.prog 9 args h Q := trH_ok fun ((_, a, nm, _) : Unit × Int × ByteArray × Unit) ((n, m, _), o, l, es, _) Q ⟨⟨⟨hn, hm, ho, hl, h1⟩, hO⟩, h⟩ => by
  dsimp only at hn hm ho hl h1 hO h; subst hn hm
  refine spec_body (Λ := lam [(0, find_l)]) gokHas Try.func9 rfl ?_ ?_
  · exact lokl (l := [(0, lp Try.f9 0)]) ⟨lam_ok fun x Q ⟨a1, a2⟩ ⟨b1, b2⟩ => find_loop x.1 x.2.1 x.2.2.1 x.2.2.2.1 x.2.2.2.2 a1 a2 Q b1 b2, trivial⟩
  show body Try.prog (gam gHas) (lam [(0, find_l)]) Try.f9 [.c (.ptr 0 0), ti a, .c (.str nm)] [.cells 67 [.view tI 1 0 o.length, .view tO 2 0 l.length, .mp 3], .row 3 tI o, .row 40 tO l, .map true tKy false tI es] _
  rw [vc_find]
  refine ⟨(o, l, es, a, nm), rfl, ⟨⟨ho, hl, h1⟩, hO⟩, fun hf => ?_, fun ht => ?_⟩
  · dsimp only at hf ⊢
    have e : ∀ (f : Nat) (a : Int), (findF f o es a nm).2.2 = false → findF f o es a nm = (0, 0, false) := by
      intro f
      induction f with
      | zero => intro a _; rfl
      | succ f ih =>
        intro a h
        simp only [findF] at h ⊢
        split
        · rename_i hb
          rw [if_pos hb] at h
          cases hl : lookV es a nm with
          | none => rw [hl] at h; exact ih _ h
          | some i => rw [hl] at h; cases h
        · rfl
    have e := e _ _ hf
    unfold findV at h
    rw [e] at h; exact h
  · dsimp only at ht ⊢
    rw [ht] at h; exact h
theorem find0_ok : ∀ args h Q, find0_t args h Q → FSpec Try.prog 9 args h Q := trH_ok fun ((_, a, nm, _) : Unit × Int × ByteArray × Unit) _ Q h => by
  refine spec_body (Λ := lam [(0, unr Try.prog (gam gHas) noLam (lp Try.f9 0) 0 1)]) gokHas Try.func9 rfl ?_ ?_
  · exact lokl (l := [(0, lp Try.f9 0)]) ⟨unr_all gokHas noLam_ok, trivial⟩
  show body Try.prog (gam gHas) (lam [(0, unr Try.prog (gam gHas) noLam (lp Try.f9 0) 0 1)]) Try.f9 [.c .nilp, ti a, .c (.str nm)] [] _
  rw [vc_find0]; exact h
theorem with_loop (o : List Int) (l : List Ob) (es : Es) (a0 b : Int) (hs : scOk o l) (ho : OutOk o) (Q : Exit → SS → Prop) (hq : ∀ a : Int, decide (a = b) = withF (a0.toNat + 1) o a0 b → Q (.exit 0) (stWX o l es a b)) :
    W 4 Try.prog (.loop (lp Try.f13 0)) (stW o l es a0 b) Q := by
  refine W_loopE (N := 4) (P := Try.prog) (body := lp Try.f13 0) (Q := Q) (fun a : Int => stW o l es a b) (fun a => withF (a.toNat + 1) o a b = withF (a0.toNat + 1) o a0 b) (fun a => a.toNat) [0, 1, 2] [1, 2] [] (fun a ha => ?_) a0 rfl
  have ha : withF (a.toNat + 1) o a b = withF (a0.toNat + 1) o a0 b := ha
  refine sx_ok (Λ := noLam) gokHas _ 0 _ _ noLam_ok ?_
  rw [vc_withl]
  have hok : (o.length = o.length ∧ l.length = l.length ∧ o.length ≤ 1000 ∧ l.length ≤ 1000 ∧ 1 ≤ l.length) := ⟨rfl, rfl, hs.1, by have := hs.2.1; omega, hs.2.2⟩
  refine ⟨hok, cond_of (fun hc => ?_) (fun hc => hq a ?_)⟩
  · simp only [Bool.and_eq_true] at hc
    have hne : a ≠ b := by simpa using hc.2
    have hb := inB_iff.1 hc.1
    have hst := withF_step ho hc.1 hne
    have := out_at ho hc.1
    have hlt : a.toNat < o.length := by omega
    rw [Nat.zero_add, getD_at hlt]
    rw [getD_at hlt] at this hst
    exact ⟨by omega, by omega, hlt, o[a.toNat], rfl, by rw [← hst]; exact ha, by omega⟩
  · rw [← ha]
    simp only [withF]
    rw [if_neg]
    intro h
    simp only [Bool.and_eq_true] at h
    have hne : a ≠ b := by simpa using h.2
    rw [h.1] at hc
    simp [hne] at hc
theorem within_ok : ∀ args h Q, within_t args h Q → FSpec Try.prog 13 args h Q := trH_ok fun ((_, a, b, _) : Unit × Int × Int × Unit) ((n, m, _), o, l, es, _) Q ⟨⟨⟨hn, hm, ho, hl, h1⟩, hO⟩, h⟩ => by
  dsimp only at hn hm ho hl h1 hO h; subst hn hm
  refine spec_body (Λ := lam [(0, with_l)]) gokHas Try.func13 rfl ?_ ?_
  · exact lokl (l := [(0, lp Try.f13 0)]) ⟨lam_ok fun x Q ⟨a1, a2⟩ b1 => with_loop x.1 x.2.1 x.2.2.1 x.2.2.2.1 x.2.2.2.2 a1 a2 Q b1, trivial⟩
  show body Try.prog (gam gHas) (lam [(0, with_l)]) Try.f13 [.c (.ptr 0 0), ti a, ti b] [.cells 67 [.view tI 1 0 o.length, .view tO 2 0 l.length, .mp 3], .row 3 tI o, .row 40 tO l, .map true tKy false tI es] _
  rw [vc_within]
  unfold withV at h
  refine ⟨⟨rfl, rfl, ho, by omega, h1⟩, cond_of (fun hc => ?_) (fun hc => ⟨(o, l, es, a, b), rfl, ⟨⟨ho, hl, h1⟩, hO⟩, fun c hw => ?_⟩)⟩
  · rw [if_neg (by simpa using hc)] at h; exact h
  · rw [if_pos (by simpa using hc), ← hw] at h
    exact h
theorem within0_ok : ∀ args h Q, within0_t args h Q → FSpec Try.prog 13 args h Q := trH_ok fun ((_, a, b, _) : Unit × Int × Int × Unit) _ Q h => by
  refine spec_body (Λ := lam [(0, unr Try.prog (gam gHas) noLam (lp Try.f13 0) 0 1)]) gokHas Try.func13 rfl ?_ ?_
  · exact lokl (l := [(0, lp Try.f13 0)]) ⟨unr_all gokHas noLam_ok, trivial⟩
  show body Try.prog (gam gHas) (lam [(0, unr Try.prog (gam gHas) noLam (lp Try.f13 0) 0 1)]) Try.f13 [.c .nilp, ti a, ti b] [] _
  rw [vc_within0]; exact h
end Go.Proofs.Ytlfnpdfgdebhkaa.Ch
