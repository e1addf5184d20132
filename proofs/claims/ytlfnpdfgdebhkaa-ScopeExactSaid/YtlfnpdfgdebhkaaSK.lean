/- Chapter 7 (scope): the reference's Find, Within, proved. No condition. -/
import Derived.Test.YtlfnpdfgdebhkaaSJV
namespace Go.Proofs.Ytlfnpdfgdebhkaa.Ch
open Go Go.Proofs Go.Proofs.Ytlfnpdfgdebhkaa.Sx
set_option linter.unusedVariables false
set_option linter.unusedSimpArgs false

theorem out_lo {o : List Int} (ho : OutOk o) {a : Int} (h0 : a ≠ 0) (h1 : 0 ≤ a) (h2 : a < o.length) : 0 ≤ o.getD a.toNat 0 ∧ o.getD a.toNat 0 < a := out_at ho (inB_iff.2 (by omega))
theorem rfF_fuel {o : List Int} (ho : OutOk o) (ins : List Int) (l : List Ob) (nm : ByteArray) : ∀ (f g : Nat) (a : Int), 0 ≤ a → a < o.length → a.toNat + 1 ≤ f → a.toNat + 1 ≤ g → rfF f o ins l a nm = rfF g o ins l a nm := by
  intro f
  induction f with
  | zero => intro g a _ _ h; omega
  | succ f ih =>
    intro g a h1 h2 h3 h4
    cases g with
    | zero => omega
    | succ g =>
      simp only [rfF]
      by_cases h0 : a = 0
      · rw [if_pos h0, if_pos h0]
      · rw [if_neg h0, if_neg h0]
        have := out_lo ho h0 h1 h2
        by_cases hr : rhereV ins l a nm ≠ 0
        · rw [if_pos hr, if_pos hr]
        · rw [if_neg hr, if_neg hr]
          exact ih g _ (by omega) (by omega) (by omega) (by omega)
theorem rfF_step {o : List Int} (ho : OutOk o) (ins : List Int) (l : List Ob) (nm : ByteArray) {a : Int} (h0 : a ≠ 0) (h1 : 0 ≤ a) (h2 : a < o.length) (hr : rhereV ins l a nm = 0) : rfF (a.toNat + 1) o ins l a nm = rfF ((o.getD a.toNat 0).toNat + 1) o ins l (o.getD a.toNat 0) nm := by
  have := out_lo ho h0 h1 h2
  have e : rfF (a.toNat + 1) o ins l a nm = rfF a.toNat o ins l (o.getD a.toNat 0) nm := by
    simp only [rfF]
    rw [if_neg h0, if_neg (by rw [hr]; simp)]
  rw [e]
  exact rfF_fuel ho ins l nm _ _ _ (by omega) (by omega) (by omega) (Nat.le_refl _)
theorem rfind_loop (o ins : List Int) (l : List Ob) (a0 : Int) (nm : ByteArray) (hs : rfOk o ins l) (ho : OutOk o) (h0 : 0 ≤ a0) (h0' : a0 < o.length) (Q : Exit → SS → Prop) (h1 : rfF (a0.toNat + 1) o ins l a0 nm = (0, 0) → Q (.exit 0) (stRFX o ins l)) (h2 : ∀ i a : Int, rfF (a0.toNat + 1) o ins l a0 nm = (i, a) → Q .ret (stRFR o ins l i a)) :
    W 4 Try.prog (.loop (lp Try.f18 0)) (stRF o ins l a0 nm) Q := by
  refine W_loopE (N := 4) (P := Try.prog) (body := lp Try.f18 0) (Q := Q) (fun a : Int => stRF o ins l a nm) (fun a => (0 ≤ a ∧ a < (o.length : Int)) ∧ rfF (a.toNat + 1) o ins l a nm = rfF (a0.toNat + 1) o ins l a0 nm) (fun a => a.toNat) [0, 1, 2] [] [6, 7] (fun a ha => ?_) a0 ⟨⟨h0, h0'⟩, rfl⟩
  obtain ⟨⟨hb1, hb2⟩, ha⟩ := ha
  have hb1 : 0 ≤ a := hb1
  have hb2 : a < (o.length : Int) := hb2
  rw [← ha] at h1 h2
  refine sx_ok (Λ := noLam) gokRef _ 0 _ _ noLam_ok ?_
  rw [vc_rfindl]
  obtain ⟨s1, s2, s3, s4⟩ := hs
  refine cond_of (fun hc => ⟨⟨rfl, rfl, rfl, s1, s2, s3, s4⟩, cond_of (fun hr => ?_) (fun hr => ?_)⟩) (fun hc => ?_)
  · have hne : a ≠ 0 := by simpa using hc
    have hr : rhereV ins l a nm ≠ 0 := by simpa using hr
    exact h2 _ _ (by simp only [rfF]; rw [if_neg hne, if_pos hr])
  · have hne : a ≠ 0 := by simpa using hc
    have hr : rhereV ins l a nm = 0 := by simpa using hr
    have hst := rfF_step ho ins l nm hne hb1 hb2 hr
    have hlo := out_lo ho hne hb1 hb2
    have hlt : a.toNat < o.length := by omega
    rw [Nat.zero_add, getD_at hlt]
    rw [getD_at hlt] at hst hlo
    exact ⟨hb1, hb2, hlt, o[a.toNat], rfl, ⟨⟨hlo.1, by omega⟩, by rw [← hst]; exact ha⟩, by omega⟩
  · have h0 : a = 0 := by simpa using hc
    exact h1 (by simp only [rfF]; rw [if_pos h0])
theorem rfind_ok : ∀ args h Q, rfind_t args h Q → FSpec Try.prog 18 args h Q := trH_ok fun ((_, a, nm, _) : Unit × Int × ByteArray × Unit) ((n, m, k, _), o, ins, l, _) Q ⟨⟨⟨hn, hm, hk, ho, he, hl, h1⟩, hO⟩, h⟩ => by
  dsimp only at hn hm hk ho he hl h1 hO h; subst hn hm hk
  refine spec_body (Λ := lam [(0, rfind_l)]) gokRef Try.func18 rfl ?_ ?_
  · exact lokl (l := [(0, lp Try.f18 0)]) ⟨lam_ok fun x Q ⟨a1, a2, a3, a4⟩ ⟨b1, b2⟩ => rfind_loop x.1 x.2.1 x.2.2.1 x.2.2.2.1 x.2.2.2.2 a1 a2 a3 a4 Q b1 b2, trivial⟩
  show body Try.prog (gam gRef) (lam [(0, rfind_l)]) Try.f18 [.c (.ptr 0 0), ti a, .c (.str nm)] [.cells 49 [.view tI 1 0 o.length, .view tI 2 0 ins.length, .view tO 3 0 l.length], .row 3 tI o, .row 3 tI ins, .row 40 tO l] _
  rw [vc_rfind]
  have hok : (o.length = o.length ∧ ins.length = ins.length ∧ l.length = l.length ∧ o.length ≤ 1000 ∧ ins.length = l.length ∧ l.length < 1000 ∧ 1 ≤ l.length) := ⟨rfl, rfl, rfl, ho, he, hl, h1⟩
  unfold rfindV at h
  refine ⟨hok, cond_of (fun hc => ?_) (fun hc => ?_)⟩
  · rw [if_neg (by simpa using hc)] at h; exact h
  · have hc : inB o.length a = true := by simpa using hc
    have hb := inB_iff.1 hc
    rw [if_pos hc] at h
    have hb0 : 0 ≤ a := by omega
    refine ⟨(o, ins, l, a, nm), rfl, ⟨⟨ho, he, hl, h1⟩, hO, hb0, hb.2⟩, fun e => ?_, fun i b e => ?_⟩
    · dsimp only at e ⊢
      rw [e] at h; exact h
    · dsimp only at e ⊢
      rw [e] at h; exact h
theorem rwF_fuel {o : List Int} (ho : OutOk o) (b : Int) : ∀ (f g : Nat) (a : Int), 0 ≤ a → a < o.length → a.toNat + 1 ≤ f → a.toNat + 1 ≤ g → rwF f o a b = rwF g o a b := by
  intro f
  induction f with
  | zero => intro g a _ _ h; omega
  | succ f ih =>
    intro g a h1 h2 h3 h4
    cases g with
    | zero => omega
    | succ g =>
      simp only [rwF]
      by_cases h0 : a ≠ 0 ∧ a ≠ b
      · rw [if_pos h0, if_pos h0]
        have := out_lo ho h0.1 h1 h2
        exact ih g _ (by omega) (by omega) (by omega) (by omega)
      · rw [if_neg h0, if_neg h0]
theorem rwF_step {o : List Int} (ho : OutOk o) {a b : Int} (h0 : a ≠ 0) (hne : a ≠ b) (h1 : 0 ≤ a) (h2 : a < o.length) : rwF (a.toNat + 1) o a b = rwF ((o.getD a.toNat 0).toNat + 1) o (o.getD a.toNat 0) b := by
  have := out_lo ho h0 h1 h2
  have e : rwF (a.toNat + 1) o a b = rwF a.toNat o (o.getD a.toNat 0) b := by
    simp only [rwF]
    rw [if_pos ⟨h0, hne⟩]
  rw [e]
  exact rwF_fuel ho b _ _ _ (by omega) (by omega) (by omega) (Nat.le_refl _)
theorem rwith_loop (o ins : List Int) (l : List Ob) (a0 b : Int) (hs : rfOk o ins l) (ho : OutOk o) (h0 : 0 ≤ a0) (h0' : a0 < o.length) (Q : Exit → SS → Prop) (hq : ∀ a : Int, decide (a = b) = rwF (a0.toNat + 1) o a0 b → Q (.exit 0) (stRWX o ins l a b)) :
    W 4 Try.prog (.loop (lp Try.f17 0)) (stRW o ins l a0 b) Q := by
  refine W_loopE (N := 4) (P := Try.prog) (body := lp Try.f17 0) (Q := Q) (fun a : Int => stRW o ins l a b) (fun a => (0 ≤ a ∧ a < (o.length : Int)) ∧ rwF (a.toNat + 1) o a b = rwF (a0.toNat + 1) o a0 b) (fun a => a.toNat) [0, 1, 2] [1, 2] [] (fun a ha => ?_) a0 ⟨⟨h0, h0'⟩, rfl⟩
  obtain ⟨⟨hb1, hb2⟩, ha⟩ := ha
  have hb1 : 0 ≤ a := hb1
  have hb2 : a < (o.length : Int) := hb2
  refine sx_ok (Λ := noLam) gokRef _ 0 _ _ noLam_ok ?_
  rw [vc_rwithl]
  refine cond_of (fun hc => ?_) (fun hc => hq a ?_)
  · simp only [Bool.and_eq_true] at hc
    have h0 : a ≠ 0 := by simpa using hc.1
    have hne : a ≠ b := by simpa using hc.2
    have hst := rwF_step ho h0 hne hb1 hb2
    have hlo := out_lo ho h0 hb1 hb2
    have hlt : a.toNat < o.length := by omega
    rw [Nat.zero_add, getD_at hlt]
    rw [getD_at hlt] at hst hlo
    exact ⟨hb1, hb2, hlt, o[a.toNat], rfl, ⟨⟨hlo.1, by omega⟩, by rw [← hst]; exact ha⟩, by omega⟩
  · rw [← ha]
    simp only [rwF]
    rw [if_neg]
    rintro ⟨h1, h2⟩
    simp [h1, h2] at hc
theorem rwith_ok : ∀ args h Q, rwith_t args h Q → FSpec Try.prog 17 args h Q := trH_ok fun ((_, a, b, _) : Unit × Int × Int × Unit) ((n, m, k, _), o, ins, l, _) Q ⟨⟨⟨hn, hm, hk, ho, he, hl, h1⟩, hO⟩, h⟩ => by
  dsimp only at hn hm hk ho he hl h1 hO h; subst hn hm hk
  refine spec_body (Λ := lam [(0, rwith_l)]) gokRef Try.func17 rfl ?_ ?_
  · exact lokl (l := [(0, lp Try.f17 0)]) ⟨lam_ok fun x Q ⟨a1, a2, a3, a4⟩ b1 => rwith_loop x.1 x.2.1 x.2.2.1 x.2.2.2.1 x.2.2.2.2 a1 a2 a3 a4 Q b1, trivial⟩
  show body Try.prog (gam gRef) (lam [(0, rwith_l)]) Try.f17 [.c (.ptr 0 0), ti a, ti b] [.cells 49 [.view tI 1 0 o.length, .view tI 2 0 ins.length, .view tO 3 0 l.length], .row 3 tI o, .row 3 tI ins, .row 40 tO l] _
  rw [vc_rwith]
  have hok : (o.length = o.length ∧ ins.length = ins.length ∧ l.length = l.length ∧ o.length ≤ 1000 ∧ ins.length = l.length ∧ l.length < 1000 ∧ 1 ≤ l.length) := ⟨rfl, rfl, rfl, ho, he, hl, h1⟩
  unfold rwithV at h
  refine ⟨hok, cond_of (fun hc => ?_) (fun hc => ⟨hok, cond_of (fun hd => ?_) (fun hd => ?_)⟩)⟩
  · have hc : inB o.length a = false := by simpa using hc
    rw [if_neg (by rw [hc]; simp)] at h; exact h
  · have hd : inB o.length b = false := by simpa using hd
    rw [if_neg (by rw [hd]; simp)] at h; exact h
  · have hc : inB o.length a = true := by simpa using hc
    have hd : inB o.length b = true := by simpa using hd
    have hb := inB_iff.1 hc
    have hb0 : 0 ≤ a := by omega
    rw [if_pos (by rw [hc, hd]; rfl)] at h
    refine ⟨(o, ins, l, a, b), rfl, ⟨⟨ho, he, hl, h1⟩, hO, hb0, hb.2⟩, fun c e => ?_⟩
    dsimp only at e ⊢
    rw [← e] at h
    exact h
end Go.Proofs.Ytlfnpdfgdebhkaa.Ch
