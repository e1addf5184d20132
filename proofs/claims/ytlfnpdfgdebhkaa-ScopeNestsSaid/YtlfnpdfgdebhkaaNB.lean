/- Chapter 7 (scope): the law ScopeNests, proved. No condition. -/
import Derived.Test.YtlfnpdfgdebhkaaNAV
namespace Go.Proofs.Ytlfnpdfgdebhkaa.Ch
open Go Go.Proofs Go.Proofs.Ytlfnpdfgdebhkaa.Sx
set_option linter.unusedVariables false
set_option linter.unusedSimpArgs false

theorem gokNests : GOK Try.prog (gam gNests) := gam_ok ⟨awake_ok, laid_ok, orNil_ok within0_ok within_ok, orNil_ok outer0_ok outer_ok, orNil_ok open0_ok failT_ok, orNil_ok put0_ok failT_ok, orNil_ok find0_ok failT_ok, orNil_ok here0_ok failT_ok, orNil_ok change0_ok failT_ok, orNil_ok len0_ok failT_ok, orNil_ok object0_ok failT_ok, trivial⟩
theorem with_self {o : List Int} {i : Int} (h : inB o.length i = true) : withV o i i = true := by
  unfold withV
  rw [if_pos h]
  simp only [withF]
  rw [if_neg (by simp)]
  simp
theorem with_up {o : List Int} (hO : OutI o) {a b : Int} (ha : inB o.length a = true) (hb : inB o.length b = true) (hne : a ≠ b) : withV o a b = withV o (o.getD a.toNat 0) b := by
  unfold withV
  rw [if_pos hb, if_pos hb]
  exact withF_step (outI_ok hO) ha hne
theorem with_none {o : List Int} {a b : Int} (ha : inB o.length a = false) : withV o a b = false := by
  unfold withV
  by_cases hb : inB o.length b = true
  · rw [if_pos hb]
    simp only [withF]
    rw [if_neg (by rw [ha]; simp)]
    exact decide_eq_false (fun e => by subst e; rw [ha] at hb; cases hb)
  · rw [if_neg hb]
theorem out_up {o : List Int} (hO : OutI o) {i : Int} (h2 : 2 ≤ i) (hl : i < o.length) : 1 ≤ o.getD i.toNat 0 ∧ o.getD i.toNat 0 < i := by
  have hi : i.toNat < o.length := by omega
  have := (hO.2 i.toNat hi).2.2 (by omega)
  rw [getD_at hi]
  omega
theorem out_one {o : List Int} (hO : OutI o) : o.getD 1 0 = 0 := by
  have h1 : 1 < o.length := by have := hO.1; omega
  rw [getD_at h1]
  exact (hO.2 1 h1).2.1 (by omega)
theorem with_univ {o : List Int} (hO : OutI o) : ∀ (n : Nat) (i : Int), i.toNat ≤ n → inB o.length i = true → withV o i 1 = true := by
  intro n
  induction n with
  | zero => intro i hn hi; have := inB_iff.1 hi; omega
  | succ n ih =>
    intro i hn hi
    have hb := inB_iff.1 hi
    have h1 : inB o.length 1 = true := inB_iff.2 (by omega)
    by_cases he : i = 1
    · subst he; exact with_self hi
    · rw [with_up hO hi h1 he]
      have := out_up hO (i := i) (by omega) (by omega)
      exact ih _ (by omega) (inB_iff.2 (by omega))
theorem with_late {o : List Int} (hO : OutI o) : ∀ (n : Nat) (i k : Int), i.toNat ≤ n → inB o.length i = true → i < k → withV o i k = false := by
  intro n
  induction n with
  | zero => intro i k hn hi; have := inB_iff.1 hi; omega
  | succ n ih =>
    intro i k hn hi hk
    have hb := inB_iff.1 hi
    by_cases hkk : inB o.length k = true
    · rw [with_up hO hi hkk (by omega)]
      by_cases he : i = 1
      · subst he
        rw [show (1 : Int).toNat = 1 from rfl, out_one hO]
        exact with_none (by simp [inB])
      · have := out_up hO (i := i) (by omega) (by omega)
        exact ih _ k (by omega) (inB_iff.2 (by omega)) (by omega)
    · unfold withV; rw [if_neg hkk]
theorem nests_inner (o : List Int) (l : List Ob) (es : Es) (i : Int) (hO : OutI o) (hs : scOk o l) (h1 : 1 ≤ i) (h2 : i < o.length) (Q : Exit → SS → Prop) (hq : Q (.exit 2) (stN1 o l es ((o.length : Int) - 1) i)) : W 0 Try.prog (.loop (lpIn (lp Try.f6 0) 0 0)) (stN2 o l es ((o.length : Int) - 1) i 1) Q := by
  refine W_loopE (N := 0) (P := Try.prog) (body := lpIn (lp Try.f6 0) 0 0) (Q := Q) (fun k : Nat => stN2 o l es ((o.length : Int) - 1) i ((k : Int) + 1)) (fun k => k < o.length) (fun k => o.length - k) [3, 6, 7, 8] [3, 6, 7] [2] (fun k hk => ?_) 0 (by have := hO.1; omega)
  have hk : k < o.length := hk
  obtain ⟨ho, hl, hl1⟩ := hs
  refine sx_ok (Λ := noLam) gokNests _ 2 _ _ noLam_ok ?_
  rw [vc_n2]
  refine cond_of (fun hc => ?_) (fun hc => hq)
  have hc : (k : Int) + 1 ≤ (o.length : Int) - 1 := by simpa using hc
  have ei : IntKind.i64.wrap ((k : Int) + 1 + 1) = ((k + 1 : Nat) : Int) + 1 := by rw [w64 (by omega) (by omega)]; omega
  have hi : inB o.length i = true := inB_iff.2 (by omega)
  have hkk : inB o.length ((k : Int) + 1) = true := inB_iff.2 (by omega)
  have hoa : ((o.length = o.length ∧ l.length = l.length ∧ o.length ≤ 1000 ∧ l.length < 1000 ∧ 1 ≤ l.length) ∧ OutOk o) := ⟨⟨rfl, rfl, by omega, by omega, by omega⟩, outI_ok hO⟩
  rw [ei]
  have go : ∃ y : Nat, stN2 o l es ((o.length : Int) - 1) i (((k + 1 : Nat) : Int) + 1) = stN2 o l es ((o.length : Int) - 1) i ((y : Int) + 1) ∧ y < o.length ∧ o.length - y < o.length - k := ⟨k + 1, rfl, by omega, by omega⟩
  refine cond_of (fun he => ?_) (fun he => ?_)
  · have he : i = (k : Int) + 1 := by simpa using he
    rw [← he, with_self hi]
    refine ⟨hoa, cond_of (fun h => by cases h) (fun _ => cond_of (fun h => ?_) (fun _ => ?_))⟩
    · simp at h
    · exact go
  · have he : i ≠ (k : Int) + 1 := by simpa using he
    have late : ∀ P : Prop, (k : Int) + 1 > i → (bif false || true && withV o i ((k : Int) + 1) then P else ∃ y : Nat, stN2 o l es ((o.length : Int) - 1) i (((k + 1 : Nat) : Int) + 1) = stN2 o l es ((o.length : Int) - 1) i ((y : Int) + 1) ∧ y < o.length ∧ o.length - y < o.length - k) := fun P h => by
      rw [with_late hO i.toNat i _ (Nat.le_refl _) hi h]
      exact go
    refine cond_of (fun h1' => ?_) (fun h1' => ?_)
    · have h1' : 1 < i := by simpa using h1'
      have hu : withV o i ((k : Int) + 1) = withV o (outerV o i) ((k : Int) + 1) := by
        rw [with_up hO hi hkk he]
        unfold outerV
        rw [if_pos hi]
      have hz : (!(withV o i ((k : Int) + 1) == (false || true && withV o (outerV o i) ((k : Int) + 1)))) = false := by rw [← hu]; simp
      refine ⟨⟨rfl, rfl, by omega, by omega, by omega⟩, hoa, hoa, ?_⟩
      rw [hz]
      refine cond_of (fun h => by cases h) (fun _ => cond_of (fun h => ⟨hoa, late _ (by simpa using h)⟩) (fun _ => go))
    · have h1' : i = 1 := by
        have : ¬ (1 < i) := by simpa using h1'
        omega
      have hz : withV o i ((k : Int) + 1) = false := by
        rw [with_up hO hi hkk he, h1', show (1 : Int).toNat = 1 from rfl, out_one hO]
        exact with_none (by simp [inB])
      refine ⟨hoa, ?_⟩
      rw [hz]
      exact cond_of (fun h => by simp at h) (fun _ => cond_of (fun h => ⟨hoa, go⟩) (fun _ => go))
theorem nests_outer (o : List Int) (l : List Ob) (es : Es) (hO : OutI o) (hs : scOk o l) (Q : Exit → SS → Prop) (hq : Q (.exit 0) (⟨167, [], []⟩ : SS)) : W 0 Try.prog (.loop (lp Try.f6 0)) (stN1 o l es ((o.length : Int) - 1) 1) Q := by
  refine W_loopE (N := 0) (P := Try.prog) (body := lp Try.f6 0) (Q := Q) (fun k : Nat => stN1 o l es ((o.length : Int) - 1) ((k : Int) + 1)) (fun k => k < o.length) (fun k => o.length - k) [3, 6, 7] [] [2] (fun k hk => ?_) 0 (by have := hO.1; omega)
  have hk : k < o.length := hk
  refine sx_ok (Λ := lam [(2, n2_l)]) gokNests _ 0 _ _ (lokl (l := [(2, lpIn (lp Try.f6 0) 0 0)]) ⟨lam_ok fun x Q ⟨⟨a1, a2⟩, a3, a4⟩ a => nests_inner x.o x.l x.es x.i a1 a2 a3 a4 Q a, trivial⟩) ?_
  rw [vc_n1]
  have hs' := hs
  obtain ⟨ho, hl, hl1⟩ := hs'
  refine cond_of (fun hc => ?_) (fun hc => hq)
  have hc : (k : Int) + 1 ≤ (o.length : Int) - 1 := by simpa using hc
  have ei : IntKind.i64.wrap ((k : Int) + 1 + 1) = ((k + 1 : Nat) : Int) + 1 := by rw [w64 (by omega) (by omega)]; omega
  have hi : inB o.length ((k : Int) + 1) = true := inB_iff.2 (by omega)
  have hoa : ((o.length = o.length ∧ l.length = l.length ∧ o.length ≤ 1000 ∧ l.length < 1000 ∧ 1 ≤ l.length) ∧ OutOk o) := ⟨⟨rfl, rfl, by omega, by omega, by omega⟩, outI_ok hO⟩
  have hob : (o.length = o.length ∧ l.length = l.length ∧ o.length ≤ 1000 ∧ l.length ≤ 1000 ∧ 1 ≤ l.length) := ⟨rfl, rfl, by omega, by omega, by omega⟩
  rw [with_univ hO _ _ (Nat.le_refl _) hi, with_self hi]
  have go : ∃ y : Nat, stN1 o l es ((o.length : Int) - 1) (IntKind.i64.wrap ((k : Int) + 1 + 1)) = stN1 o l es ((o.length : Int) - 1) ((y : Int) + 1) ∧ y < o.length ∧ o.length - y < o.length - k := ⟨k + 1, by rw [ei], by omega, by omega⟩
  refine ⟨hoa, hoa, cond_of (fun h => by simp at h) (fun _ => cond_of (fun h2 => ?_) (fun _ => ?_))⟩
  · have h2 : 1 < (k : Int) + 1 := by simpa using h2
    have hu := out_up hO (i := (k : Int) + 1) (by omega) (by omega)
    have ho' : outerV o ((k : Int) + 1) = o.getD ((k : Int) + 1).toNat 0 := by unfold outerV; rw [if_pos hi]
    refine ⟨hob, ?_⟩
    rw [ho', decide_eq_false (p := o.getD ((k : Int) + 1).toNat 0 ≥ (k : Int) + 1) (by omega), decide_eq_false (p := o.getD ((k : Int) + 1).toNat 0 < 1) (by omega)]
    exact ⟨hob, ⟨o, l, es, (k : Int) + 1⟩, rfl, ⟨⟨hO, hs⟩, by show (1 : Int) ≤ (k : Int) + 1; omega, by show (k : Int) + 1 < (o.length : Int); omega⟩, go⟩
  · exact ⟨⟨o, l, es, (k : Int) + 1⟩, rfl, ⟨⟨hO, hs⟩, by show (1 : Int) ≤ (k : Int) + 1; omega, by show (k : Int) + 1 < (o.length : Int); omega⟩, go⟩
theorem nests_ok (acts : List Ac) : FSpec Try.prog 6 [.c (.row tA acts)] [] fun r h' => r = .p (.c (.bool true)) := by
  refine spec_body (Λ := lam [(0, n1_l)]) gokNests Try.func6 rfl ?_ ?_
  · exact lokl (l := [(0, lp Try.f6 0)]) ⟨lam_ok fun x Q ⟨a1, a2⟩ a => nests_outer x.o x.l x.es a1 a2 Q a, trivial⟩
  rw [vc_nests]
  intro o ins l es hL hm
  obtain ⟨hO, hI, ho, hl⟩ := hL
  have h2 := hO.1
  refine ⟨⟨o, l, es, 1⟩, by rw [w64 (x := (o.length : Int) - 1) (by omega) (by omega)], ⟨hO, ⟨by show o.length ≤ 1000; omega, by show l.length < 1000; omega, hI.2.1⟩⟩, rfl⟩
end Go.Proofs.Ytlfnpdfgdebhkaa.Ch
