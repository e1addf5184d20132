/- Chapter 7 (scope): the law ScopeApart, proved. No condition. -/
import Derived.Test.YtlfnpdfgdebhkaaPAV
namespace Go.Proofs.Ytlfnpdfgdebhkaa.Ch
open Go Go.Proofs Go.Proofs.Ytlfnpdfgdebhkaa.Sx
set_option linter.unusedVariables false
set_option linter.unusedSimpArgs false

theorem gokApart : GOK Try.prog (gam gApart) := gam_ok ⟨awake_ok, laid_ok, orNil_ok within0_ok within_ok, orNil_ok put0_ok put_ok, orNil_ok find0_ok find_ok, trivial⟩
theorem with_self {o : List Int} {i : Int} (h : inB o.length i = true) : withV o i i = true := by
  unfold withV
  rw [if_pos h]
  simp only [withF]
  rw [if_neg (by simp)]
  simp
theorem with_up {o : List Int} (hO : OutI o) {a b : Int} (ha : inB o.length a = true) (hb : inB o.length b = true) (hne : a ≠ b) : withV o a b = withV o (o.getD a.toNat 0) b := by
  unfold withV
  rw [if_pos hb, if_pos hb]
  exact withF_step (outI_ok hO) ha hne
theorem with_none {o : List Int} {a b : Int} (ha : inB o.length a = false) : withV o a b = false := by
  unfold withV
  by_cases hb : inB o.length b = true
  · rw [if_pos hb]
    simp only [withF]
    rw [if_neg (by rw [ha]; simp)]
    exact decide_eq_false (fun e => by subst e; rw [ha] at hb; cases hb)
  · rw [if_neg hb]
theorem find_out {o : List Int} {a : Int} (ha : inB o.length a = false) (es : Es) (nm : ByteArray) : findV o es a nm = (0, 0, false) := by
  unfold findV; simp only [findF]; rw [if_neg (by rw [ha]; simp)]
theorem find_hit {o : List Int} {a : Int} (ha : inB o.length a = true) {es : Es} {nm : ByteArray} {i : Int} (h : lookV es a nm = some i) : findV o es a nm = (i, a, true) := by
  unfold findV; simp only [findF]; rw [if_pos ha, h]
theorem find_never {o : List Int} {es : Es} {nm : ByteArray} (h : ∀ a, lookV es a nm = none) : ∀ (f : Nat) (a : Int), findF f o es a nm = (0, 0, false) := by
  intro f
  induction f with
  | zero => intro a; rfl
  | succ f ih =>
    intro a
    simp only [findF]
    by_cases hb : inB o.length a = true
    · rw [if_pos hb, h]; exact ih _
    · rw [if_neg hb]
/-- What is found behind a Put of the name nm in the scope k. -/
theorem find_after {o : List Int} (hO : OutI o) {es es' : Es} {nm : ByteArray} {k L : Int} (hk : inB o.length k = true) (h1 : lookV es' k nm = some L) (h2 : ∀ a, a ≠ k → lookV es' a nm = lookV es a nm) : ∀ (n : Nat) (a : Int), a.toNat ≤ n →
    (withV o a k = false → findV o es' a nm = findV o es a nm) ∧ (withV o a k = true → findV o es' a nm = (L, k, true) ∨ (findV o es' a nm = findV o es a nm ∧ withV o (findV o es' a nm).2.1 k = true ∧ (findV o es' a nm).2.1 ≠ k)) := by
  intro n
  induction n with
  | zero =>
    intro a hn
    have ha : inB o.length a = false := by
      cases h : inB o.length a with
      | false => rfl
      | true => have := inB_iff.1 h; omega
    rw [find_out ha, find_out ha, with_none ha]
    exact ⟨fun _ => rfl, fun h => by cases h⟩
  | succ n ih =>
    intro a hn
    by_cases ha : inB o.length a = true
    · have hb := inB_iff.1 ha
      by_cases he : a = k
      · subst he
        rw [with_self ha, find_hit ha h1]
        exact ⟨fun h => (by cases h), fun _ => Or.inl rfl⟩
      · have hl := h2 a he
        have hw := with_up hO ha hk he
        cases hc : lookV es a nm with
        | some i =>
          rw [hc] at hl
          rw [find_hit ha hl, find_hit ha hc]
          exact ⟨fun _ => rfl, fun h => Or.inr ⟨rfl, h, he⟩⟩
        | none =>
          rw [hc] at hl
          rw [findV_step (outI_ok hO) es' nm ha hl, findV_step (outI_ok hO) es nm ha hc, hw]
          have hlo := out_at (outI_ok hO) ha
          exact ih _ (by omega)
    · have ha : inB o.length a = false := by simpa using ha
      rw [find_out ha, find_out ha, with_none ha]
      exact ⟨fun _ => rfl, fun h => by cases h⟩
theorem apart_first (d : AD) (h : aOk d) (Q : Exit → SS → Prop) (hq : ∀ W, wasOk d W → Q (.exit 0) (stA1X d.o d.l d.es d.nm ((d.o.length : Int) - 1) d.k W)) : W 0 Try.prog (.loop (lp Try.f4 0)) (stA1 d.o d.l d.es d.nm ((d.o.length : Int) - 1) d.k (List.replicate d.o.length 0) 1) Q := by
  obtain ⟨o, l, es, nm, k, W0, ob⟩ := d
  obtain ⟨hO, ho, hl, hl1⟩ := h
  dsimp only at hO ho hl hl1 hq ⊢
  refine W_loopE (N := 0) (P := Try.prog) (body := lp Try.f4 0) (Q := Q) (fun x : Nat × List Int => stA1 o l es nm ((o.length : Int) - 1) k x.2 ((x.1 : Int) + 1)) (fun x => x.1 < o.length ∧ x.2.length = o.length ∧ ∀ i : Nat, 1 ≤ i → i ≤ x.1 → x.2.getD i 0 = (findV o es i nm).1) (fun x => o.length - x.1) [2, 7, 10, 11, 12, 13] [2, 7, 10, 11, 12] [6] (fun ⟨i, W⟩ ⟨h1, h2, h3⟩ => ?_) (0, List.replicate o.length 0) ⟨by have := hO.1; show 0 < o.length; omega, by simp, fun i a b => by dsimp only at b; omega⟩
  dsimp only at h1 h2 h3 ⊢
  refine sx_ok (Λ := noLam) gokApart _ 0 _ _ noLam_ok ?_
  rw [vc_a1]
  refine cond_of (fun hc => ?_) (fun hc => hq W ⟨h2, fun j a b => h3 j a ?_⟩)
  · have hc : (i : Int) + 1 ≤ (o.length : Int) - 1 := by simpa using hc
    have ei : IntKind.i64.wrap ((i : Int) + 1 + 1) = ((i + 1 : Nat) : Int) + 1 := by rw [w64 (by omega) (by omega)]; omega
    rw [ei]
    refine ⟨⟨⟨rfl, rfl, by omega, by omega, by omega⟩, outI_ok hO⟩, by omega, by omega, by omega, ⟨(i + 1, W.set (0 + ((i : Int) + 1).toNat) (findV o es ((i : Int) + 1) nm).1), by unfold stA1; rw [List.length_set]; rfl, ⟨by show i + 1 < o.length; omega, by rw [List.length_set]; exact h2, fun j a b => ?_⟩, by show o.length - (i + 1) < o.length - i; omega⟩⟩
    dsimp only at b ⊢
    have e : 0 + ((i : Int) + 1).toNat = i + 1 := by omega
    rw [e]
    by_cases hj : j = i + 1
    · subst hj
      rw [getD_at (by rw [List.length_set]; omega), List.getElem_set_self]
      rfl
    · rw [← h3 j a (by omega), getD_at (by rw [List.length_set]; omega), List.getElem_set_ne (Ne.symm hj), getD_at (by omega)]
  · have hc : ¬ ((i : Int) + 1 ≤ (o.length : Int) - 1) := by simpa using hc
    have b : j < o.length := b
    omega
theorem apart_second (d : AD) (h : aOk d) (hW : d.W.length = d.o.length) (hA : ∀ i : Nat, 1 ≤ i → i < d.o.length → apOk d i) (Q : Exit → SS → Prop) (hq : Q (.exit 2) (⟨145, [], []⟩ : SS)) : W 0 Try.prog (.loop (lp Try.f4 1)) (stA2 d.o d.l d.es d.nm ((d.o.length : Int) - 1) d.k d.W d.ob 1) Q := by
  obtain ⟨o, l, es, nm, k, W0, ob⟩ := d
  obtain ⟨hO, ho, hl, hl1⟩ := h
  dsimp only at hO ho hl hl1 hq hW hA ⊢
  refine W_loopE (N := 0) (P := Try.prog) (body := lp Try.f4 1) (Q := Q) (fun x : Nat => stA2 o l es nm ((o.length : Int) - 1) k W0 ob ((x : Int) + 1)) (fun x => x < o.length) (fun x => o.length - x) [2, 7, 10, 11, 12, 17, 19] [] [6] (fun i h1 => ?_) 0 (by have := hO.1; show 0 < o.length; omega)
  have h1 : i < o.length := h1
  refine sx_ok (Λ := noLam) gokApart _ 2 _ _ noLam_ok ?_
  rw [vc_a2]
  refine cond_of (fun hc => ?_) (fun hc => hq)
  have hc : (i : Int) + 1 ≤ (o.length : Int) - 1 := by simpa using hc
  have ei : IntKind.i64.wrap ((i : Int) + 1 + 1) = ((i + 1 : Nat) : Int) + 1 := by rw [w64 (by omega) (by omega)]; omega
  rw [ei]
  have hoa : ((o.length = o.length ∧ l.length = l.length ∧ o.length ≤ 1000 ∧ l.length < 1000 ∧ 1 ≤ l.length) ∧ OutOk o) := ⟨⟨rfl, rfl, by omega, by omega, by omega⟩, outI_ok hO⟩
  have go : ∃ y : Nat, stA2 o l es nm ((o.length : Int) - 1) k W0 ob (((i + 1 : Nat) : Int) + 1) = stA2 o l es nm ((o.length : Int) - 1) k W0 ob ((y : Int) + 1) ∧ y < o.length ∧ o.length - y < o.length - i := ⟨i + 1, rfl, by omega, by omega⟩
  have ha := hA (i + 1) (by omega) (by omega)
  rw [show ((i + 1 : Nat) : Int) = (i : Int) + 1 by omega] at ha
  obtain ⟨a1, a2⟩ := ha
  dsimp only at a1 a2
  have hi1 : (0 : Int) ≤ (i : Int) + 1 := by omega
  have hi2 : (i : Int) + 1 < (W0.length : Int) := by omega
  have hi3 : 0 + ((i : Int) + 1).toNat < W0.length := by omega
  refine ⟨hoa, cond_of (fun hs => ?_) (fun hs => ?_)⟩
  · rw [a1 hs]
    exact go
  · obtain ⟨b1, b2⟩ := a2 hs
    rw [Nat.zero_add]
    have e0 : tI.dft = (0 : Int) := rfl
    refine ⟨hoa, fun _ => ⟨hi1, hi2, trivial⟩, fun _ => ⟨by omega, trivial⟩, cond_of (fun hx => ?_) (fun hx => ⟨hoa, fun _ => ⟨hi1, hi2, trivial⟩, fun _ => ⟨by omega, trivial⟩, cond_of (fun hy => ?_) (fun _ => go)⟩)⟩
    · exfalso
      simp only [Bool.and_eq_true, Bool.not_eq_true', bne_iff_ne] at hx
      exact hx.2 (b1 hx.1)
    · simp only [Bool.and_eq_true, bne_iff_ne] at hy
      rcases b2 with b2 | ⟨b2, b3, b4⟩ | b2
      · exact absurd b2 hy.2
      · refine cond_of (fun hz => ?_) (fun _ => ⟨hoa, cond_of (fun hz => ?_) (fun _ => go)⟩)
        · exact absurd b2 (bne_iff_ne.1 hz)
        · exfalso
          rw [b3] at hz
          simp only [Bool.not_true, Bool.false_or, Bool.true_and, beq_iff_eq] at hz
          exact b4 hz
      · rw [b2] at hy; cases hy.1
theorem apart_ok (acts : List Ac) (at_ : Int) (nm : ByteArray) : FSpec Try.prog 4 [.c (.row tA acts), ti at_, .c (.str nm)] [] fun r h' => r = .p (.c (.bool true)) := by
  refine spec_body (Λ := lam [(0, a1_l), (2, a2_l)]) gokApart Try.func4 rfl ?_ ?_
  · exact lokl (l := [(0, lp Try.f4 0), (2, lp Try.f4 1)]) ⟨lam_ok fun x Q a1 a => apart_first x a1 Q a, lam_ok fun x Q ⟨a1, a2, a3⟩ a => apart_second x a1 a2 a3 Q a, trivial⟩
  rw [vc_apart]
  intro o ins l es hL hm
  obtain ⟨hO, hI, ho, hl⟩ := hL
  have h2 := hO.1
  have e1 : IntKind.i64.wrap ((o.length : Int) - 1) = ((o.length - 1 : Nat) : Int) := by rw [w64 (by omega) (by omega)]; omega
  have e2 : IntKind.i64.wrap (((o.length - 1 : Nat) : Int) + 1) = (o.length : Int) := by rw [w64 (by omega) (by omega)]; omega
  obtain ⟨e3, hr⟩ := remU_eq at_ (o.length - 1) (by omega) (by omega)
  have e4 : IntKind.i64.wrap (1 + (remU at_ (o.length - 1) : Int)) = ((1 + remU at_ (o.length - 1) : Nat) : Int) := by rw [w64 (by omega) (by omega)]; omega
  rw [e1, e2, e3, e4, Int.toNat_natCast]
  generalize hk : 1 + remU at_ (o.length - 1) = k
  have hkk : inB o.length (k : Int) = true := inB_iff.2 (by omega)
  refine ⟨by rw [w64u (by omega) (by omega)]; omega, by omega, by omega, by omega, ⟨o, l, es, nm, k, [], 0⟩, by dsimp only; rw [List.length_replicate, show (((o.length - 1 : Nat) : Int)) = (o.length : Int) - 1 by omega], ⟨hO, by show o.length ≤ 1000; omega, by show l.length < 1000; omega, hI.2.1⟩, fun W hW => ⟨⟨rfl, rfl, by show o.length ≤ 1000; omega, by show l.length < 1000; omega, hI.2.1⟩, fun hp => ?_, fun hp => ?_⟩⟩
  · dsimp only at hp ⊢
    refine cond_of (fun _ => ?_) (fun h => ?_)
    · generalize hv : putE o.length es (k : Int) (1, nm, 0, 0, 0, (0, (0, 0), false, ⟨#[]⟩), 0, 0, 0) = v at hp ⊢
      unfold putE at hv
      dsimp only at hv
      by_cases hs : strEq nm ⟨#[]⟩ = true
      · rw [if_neg (by rw [hs]; simp)] at hv
        subst hv
        rw [hs]; rfl
      · have hs : strEq nm ⟨#[]⟩ = false := by simpa using hs
        rw [if_pos (by rw [hkk, hs]; rfl)] at hv
        split at hv
        · subst hv; rfl
        · exact absurd hv.symm hp
    · exact absurd hp (by simpa using h)
  · dsimp only at hp ⊢
    obtain ⟨hW1, hW2⟩ := hW
    have hI2 := inv_put hI (k : Int) (1, nm, 0, 0, 0, (0, (0, 0), false, ⟨#[]⟩), 0, 0, 0) (putE_none hp)
    have hn := putE_none hp
    dsimp only at hn hI2 hW1 hW2
    refine ⟨⟨o, l ++ [(1, nm, 0, 0, 0, (0, (0, 0), false, ⟨#[]⟩), 0, 0, 0)], putEs es (k : Int) nm l.length, nm, k, W, (l.length : Int)⟩, rfl, ⟨⟨hO, by show o.length ≤ 1000; omega, by show (l ++ [_]).length < 1000; rw [List.length_append]; simp only [List.length_cons, List.length_nil]; omega, hI2.2.1⟩, hW1, fun i hi1 hi2 => ⟨fun hs => ?_, fun hs => ?_⟩⟩, rfl⟩
    · dsimp only at hs hi2 ⊢
      have := find_never (o := o) (es := putEs es (k : Int) nm l.length) (nm := nm) (fun a => by
        rw [hI2.2.2]
        cases hf : firstM (matB (ins ++ [(k : Int)]) (l ++ [(1, nm, 0, 0, 0, (0, (0, 0), false, ⟨#[]⟩), 0, 0, 0)]) a nm) (l ++ [(1, nm, 0, 0, 0, (0, (0, 0), false, (⟨#[]⟩ : ByteArray)), 0, 0, 0)]).length with
        | none => rfl
        | some j =>
          have := (firstM_some hf).2
          unfold matB at this
          rw [hs] at this
          simp at this) ((i : Int).toNat + 1) i
      unfold findV
      rw [this]
    · dsimp only at hs hi2 ⊢
      have hes : putEs es (k : Int) nm l.length = es ++ [(((k : Int), nm), (l.length : Int))] := by
        unfold putEs; rw [if_neg (by rw [hs]; simp)]; exact setM_none hn
      have l1 : lookV (putEs es (k : Int) nm l.length) (k : Int) nm = some (l.length : Int) := by
        rw [hes]
        unfold lookV at hn ⊢
        rw [lookM_app, hn]; simp
      have l2 : ∀ a, a ≠ (k : Int) → lookV (putEs es (k : Int) nm l.length) a nm = lookV es a nm := fun a ha => by
        rw [hes]
        unfold lookV
        rw [lookM_app]
        cases lookM (kt := tKy) (a, nm) es with
        | some x => rfl
        | none =>
          dsimp only
          rw [if_neg (fun e => ha (congrArg Prod.fst e))]
      have hw : W.getD (i : Int).toNat 0 = (findV o es (i : Int) nm).1 := hW2 i hi1 hi2
      obtain ⟨f1, f2⟩ := find_after hO hkk l1 l2 i (i : Int) (by omega)
      rw [hw]
      cases hwv : withV o (i : Int) (k : Int) with
      | false => exact ⟨fun _ => by rw [f1 hwv], Or.inr (Or.inr rfl)⟩
      | true =>
        refine ⟨fun h => (by cases h), ?_⟩
        rcases f2 hwv with g | ⟨g1, g2, g3⟩
        · left; rw [g]
        · right; left; exact ⟨by rw [g1], g2, g3⟩
end Go.Proofs.Ytlfnpdfgdebhkaa.Ch
