/- Chapter 20 (lattice): the law LatticeRises, proved. No condition. -/
import Derived.Test.YtdjcdmjnmjhkkaaLJV
namespace Go.Proofs.Ytdjcdmjnmjhkkaa.Ch
open Go Go.Proofs Go.Proofs.Ytdjcdmjnmjhkkaa.Sx
set_option linter.unusedVariables false
set_option linter.unusedSimpArgs false

theorem joinR_ok : ∀ args h Q, joinR_t args h Q → FSpec Try.prog 8 args h Q := trH_ok fun ((t, (c, xs), (d, ys), _) : Int × Kn × Kn × Unit) _ Q ⟨hl, h⟩ => by
  refine spec_frz 0 [] (join_ok [ti t, .agg [.bool c, .row tI xs], .agg [.bool d, .row tI ys]] [] _ ?_)
  refine ⟨hl, rfl, _, _, _, _, rfl, rfl, ⟨by show 0 + _ ≤ _; omega, trivial⟩, fun x hx => hx, ?_⟩
  show Q (.p (.agg [.bool (joinV t (c, xs) (d, ys)).1, .row tI (vw (joinV t (c, xs) (d, ys)).2 0 (joinV t (c, xs) (d, ys)).2.length)])) [.gone]
  rw [vw_all]; exact h
theorem bottomR_ok : ∀ args h Q, bottomR_t args h Q → FSpec Try.prog 12 args h Q := trH_ok fun ((n, _) : Int × Unit) _ Q h => by
  exact spec_data tKn (bottom_ok [ti n] [] _ ⟨[.bool false, .nils], (false, []), rfl, rfl, h⟩)
theorem gokJs : GOK Try.prog (gam gJs) := gam_ok ⟨awake_ok, good_ok, joinR_ok, same_ok, top_ok, below_ok, bottomR_ok, height_ok, trivial⟩
/-! ### what rises -/
def sumR (t : Int) : List Int → Nat
  | [] => 0
  | c :: r => rk t c + sumR t r
def rankV (t : Int) (f : Kn) : Nat := bif f.1 then 1 + sumR t f.2 else 0
theorem zip_rise {t : Int} (ht : tagB t = true) : ∀ {l m : List Int}, l.length = m.length → (∀ c ∈ l, Cg t c) → (∀ c ∈ m, Cg t c) → sumR t l ≤ sumR t (List.zipWith (cellV t) l m) ∧ (List.zipWith (cellV t) l m = l ∨ sumR t l < sumR t (List.zipWith (cellV t) l m))
  | [], m, _, _, _ => by simp
  | _ :: _, [], h, _, _ => by simp at h
  | a :: l, b :: m, h, h1, h2 => by
    simp only [List.zipWith_cons_cons, sumR]
    obtain ⟨e1, e2⟩ := cell_rise ht (h1 a (by simp)) (h2 b (by simp))
    obtain ⟨e3, e4⟩ := zip_rise ht (by simpa using h) (fun c hc => h1 c (by simp [hc])) (fun c hc => h2 c (by simp [hc]))
    refine ⟨by omega, ?_⟩
    rcases e2 with e2 | e2
    · rcases e4 with e4 | e4
      · left; rw [e2, e4]
      · right; omega
    · right; omega
theorem join_rise {t n : Int} (ht : tagB t = true) {a b : Kn} (ha : Gd t n a) (hb : Gd t n b) : a = joinV t a b ∨ rankV t a < rankV t (joinV t a b) := by
  rcases cases_b a.1 with h1 | h1
  · rw [join_f h1]
    rcases cases_b b.1 with h2 | h2
    · left; rw [gd_false ha h1, gd_false hb h2]
    · right; unfold rankV; rw [h1, h2]; simp; omega
  · rcases cases_b b.1 with h2 | h2
    · left; rw [join_g h1 h2]
    · have hl : a.2.length = b.2.length := by have := (ha.1 h1).1; have := (hb.1 h2).1; omega
      obtain ⟨e1, e2⟩ := zip_rise ht hl (ha.1 h1).2 (hb.1 h2).2
      rw [join_t' h1 h2]
      rcases e2 with e2 | e2
      · left; rw [e2, ← h1]
      · right; unfold rankV; rw [h1]; simp; omega
theorem sum_most {t : Int} (ht : tagB t = true) : ∀ {l : List Int}, (∀ c ∈ l, Cg t c) → sumR t l ≤ (if t = 1 then 2 else 1) * l.length
  | [], _ => by simp [sumR]
  | a :: l, h => by
    have h1 := rk_most ht (h a (by simp))
    have h2 := sum_most ht (l := l) (fun c hc => h c (by simp [hc]))
    simp only [sumR, List.length_cons]
    split at h1 <;> split at h2 <;> rename_i q1 q2 <;> first | (rw [if_pos q1]; omega) | (rw [if_neg q1]; omega) | (exact absurd q1 q2) | (exact absurd q2 q1)
theorem rank_most {t : Int} {k : Nat} (hk : k ≤ 60) (ht : tagB t = true) {a : Kn} (ha : Gd t k a) : (rankV t a : Int) ≤ heightV t k := by
  have hb : boundV k = k := by rw [bound_is]; omega
  unfold heightV
  rw [if_neg (fun x => by rcases x with x | x; omega; rw [ht] at x; cases x), hb]
  rcases cases_b a.1 with h1 | h1
  · unfold rankV; rw [h1]; split <;> simp <;> omega
  · have hl := (ha.1 h1).1
    have := sum_most ht (ha.1 h1).2
    unfold rankV; rw [h1]
    simp only [cond_true]
    split <;> rename_i q
    · rw [if_pos q] at this; omega
    · rw [if_neg q] at this; omega
/-! ### the loops -/
theorem rises_1 (t : Int) (fs : List Kn) (hl : fs.length ≤ 200) (Q : Exit → SS → Prop) (hq : ∀ n : Nat, (∀ f ∈ fs, f.2.length ≤ n) → Q (.exit 0) (stRX' t fs n)) : W 0 Try.prog (.loop (lp Try.f4 0)) (stR1 t fs 0 0) Q := by
  refine W_loopE (N := 0) (P := Try.prog) (body := lp Try.f4 0) (Q := Q) (fun x : Nat × Nat => stR1 t fs x.2 x.1) (fun x => x.1 ≤ fs.length ∧ ∀ f ∈ fs.take x.1, f.2.length ≤ x.2) (fun x => fs.length - x.1) [0, 1, 5, 6] [0, 1, 5] [] (fun ⟨i, n⟩ ⟨hi, hn⟩ => ?_) (0, 0) ⟨Nat.zero_le _, by simp⟩
  dsimp only at hi hn ⊢
  refine sx_ok (Λ := noLam) gokJs _ 0 _ _ noLam_ok ?_
  rw [vc_r1]
  intro _
  refine cond_of (fun hc => ?_) (fun hc => ?_)
  · have hc : i < fs.length := by simpa using hc
    have ei : IntKind.i64.wrap ((i : Int) + 1) = ((i + 1 : Nat) : Int) := w64n (n := i + 1) (by omega)
    rw [ei, Int.toNat_natCast, getD_at hc]
    refine ⟨by omega, by omega, hc, fun _ => ?_⟩
    have e : mx2 (n : Int) (fs[i].2.length : Int) = ((max n fs[i].2.length : Nat) : Int) := by unfold mx2; split <;> omega
    rw [e]
    refine ⟨(i + 1, max n fs[i].2.length), rfl, ⟨hc, ?_⟩, by show fs.length - (i + 1) < fs.length - i; omega⟩
    intro f hf
    dsimp only at hf ⊢
    rw [List.take_succ_eq_append_getElem hc] at hf
    rcases List.mem_append.1 hf with hf | hf
    · have := hn f hf; omega
    · obtain rfl := List.mem_singleton.1 hf; omega
  · have hc : ¬ (i < fs.length) := by simpa using hc
    rw [List.take_of_length_le (by omega)] at hn
    exact hq n hn
theorem rises_2 (t : Int) (fs : List Kn) (n : Nat) (hl : fs.length ≤ 200) (Q : Exit → SS → Prop) (h1 : Q .ret (⟨91, [(4, .p (tb true))], []⟩ : SS)) (h2 : (∀ f ∈ fs, goodV t n f = true) → Q (.exit 2) (stRX' t fs n)) : W 0 Try.prog (.loop (lp Try.f4 1)) (stR2 t fs n 0) Q := by
  refine W_loopE (N := 0) (P := Try.prog) (body := lp Try.f4 1) (Q := Q) (fun x : Nat => stR2 t fs n x) (fun x => x ≤ fs.length ∧ ∀ f ∈ fs.take x, goodV t n f = true) (fun x => fs.length - x) [0, 1, 5, 7] [0, 1, 5] [4] (fun i ⟨hi, hn⟩ => ?_) 0 ⟨Nat.zero_le _, by simp⟩
  refine sx_ok (Λ := noLam) gokJs _ 2 _ _ noLam_ok ?_
  rw [vc_r2]
  intro _
  refine cond_of (fun hc => ?_) (fun hc => ?_)
  · have hc : i < fs.length := by simpa using hc
    have ei : IntKind.i64.wrap ((i : Int) + 1) = ((i + 1 : Nat) : Int) := w64n (n := i + 1) (by omega)
    rw [ei, Int.toNat_natCast, getD_at hc]
    refine ⟨by omega, by omega, hc, cond_of (fun _ => h1) (fun hg => ?_)⟩
    have hg : goodV t n fs[i] = true := by simpa using hg
    refine ⟨i + 1, rfl, ⟨hc, fun f hf => ?_⟩, by omega⟩
    rw [List.take_succ_eq_append_getElem hc] at hf
    rcases List.mem_append.1 hf with hf | hf
    · exact hn f hf
    · obtain rfl := List.mem_singleton.1 hf; exact hg
  · have hc : ¬ (i < fs.length) := by simpa using hc
    rw [List.take_of_length_le (by omega)] at hn
    exact h2 hn
structure RD where
  i : Nat
  f : Kn
  ch : Nat
theorem rises_3 (t : Int) (fs : List Kn) (n : Nat) (hl : fs.length ≤ 200) (hn : n ≤ 60) (hne : fs ≠ []) (hg : ∀ f ∈ fs, goodV t n f = true) (Q : Exit → SS → Prop) (hq : ∀ ch : Nat, (ch : Int) ≤ heightV t n → Q (.exit 4) (stR3X t n ch)) : W 0 Try.prog (.loop (lp Try.f4 2)) (stR3 t fs n (false, []) 0 0) Q := by
  have ht : tagB t = true := by
    cases fs with
    | nil => exact absurd rfl hne
    | cons f r => exact (good_iff.1 (hg f (by simp))).1
  refine W_loopE (N := 0) (P := Try.prog) (body := lp Try.f4 2) (Q := Q) (fun x : RD => stR3 t fs n x.f x.ch x.i) (fun x => x.i ≤ fs.length ∧ Gd t n x.f ∧ x.ch ≤ rankV t x.f ∧ x.ch ≤ x.i) (fun x => fs.length - x.i) [0, 1, 5, 8, 9, 10] [0, 5, 9] [4] (fun ⟨i, f, ch⟩ ⟨hi, hf, hc1, hc2⟩ => ?_) ⟨0, (false, []), 0⟩ ⟨Nat.zero_le _, ⟨fun h => by (cases h), fun _ => rfl⟩, Nat.zero_le _, Nat.zero_le _⟩
  dsimp only at hi hf hc1 hc2 ⊢
  refine sx_ok (Λ := noLam) gokJs _ 4 _ _ noLam_ok ?_
  rw [vc_r3]
  intro _
  refine cond_of (fun hc => ?_) (fun hc => ?_)
  · have hc : i < fs.length := by simpa using hc
    have ei : IntKind.i64.wrap ((i : Int) + 1) = ((i + 1 : Nat) : Int) := w64n (n := i + 1) (by omega)
    have ec : IntKind.i64.wrap ((ch : Int) + 1) = ((ch + 1 : Nat) : Int) := w64n (n := ch + 1) (by omega)
    rw [ei, ec, Int.toNat_natCast, getD_at hc]
    have hx := (good_iff.1 (hg fs[i] (List.getElem_mem hc))).2
    generalize hxd : fs[i] = x at hx
    have hj := join_good ht hf hx
    have len : ∀ {a : Kn}, Gd t n a → a.2.length ≤ 100000 := fun {a} h => by
      rcases cases_b a.1 with h1 | h1
      · rw [gd_false h h1]; simp
      · have := (h.1 h1).1; omega
    have hup := below_up ht hf hx
    have hgj : goodV t n (joinV t f x) = true := good_iff.2 ⟨ht, hj⟩
    rw [hup, hgj]
    have step : bif !decide (f = joinV t f x) then ∃ y : RD, stR3 t fs n (joinV t f x) (ch + 1) (i + 1) = stR3 t fs n y.f y.ch y.i ∧ (y.i ≤ fs.length ∧ Gd t n y.f ∧ y.ch ≤ rankV t y.f ∧ y.ch ≤ y.i) ∧ fs.length - y.i < fs.length - i
        else ∃ y : RD, stR3 t fs n (joinV t f x) ch (i + 1) = stR3 t fs n y.f y.ch y.i ∧ (y.i ≤ fs.length ∧ Gd t n y.f ∧ y.ch ≤ rankV t y.f ∧ y.ch ≤ y.i) ∧ fs.length - y.i < fs.length - i := by
      have hr := join_rise ht hf hx
      refine cond_of (fun hd => ?_) (fun hd => ?_)
      · have hd : f ≠ joinV t f x := by simpa using hd
        have hr : rankV t f < rankV t (joinV t f x) := by rcases hr with hr | hr; exact absurd hr hd; exact hr
        exact ⟨⟨i + 1, joinV t f x, ch + 1⟩, rfl, ⟨hc, hj, by show ch + 1 ≤ rankV t (joinV t f x); omega, by show ch + 1 ≤ i + 1; omega⟩, by show fs.length - (i + 1) < fs.length - i; omega⟩
      · have hd : f = joinV t f x := by simpa using hd
        exact ⟨⟨i + 1, joinV t f x, ch⟩, rfl, ⟨hc, hj, by show ch ≤ rankV t (joinV t f x); rw [← hd]; exact hc1, by show ch ≤ i + 1; omega⟩, by show fs.length - (i + 1) < fs.length - i; omega⟩
    exact ⟨by omega, by omega, hc, ⟨⟨len hf, len hx⟩, ⟨len hf, len hj⟩, step⟩, ⟨len hf, len hx⟩, ⟨len hf, len hj⟩, step⟩
  · have := rank_most hn ht hf
    exact hq ch (by omega)
theorem rises_ok (t : Int) (fs : List Kn) : FSpec Try.prog 4 [ti t, .c (.row tKn fs)] [] fun r h' => r = .p (.c (.bool true)) := by
  refine spec_body (Λ := lam [(0, r1_l), (2, r2_l), (4, r3_l)]) gokJs Try.func4 rfl ?_ ?_
  · exact lokl (l := [(0, lp Try.f4 0), (2, lp Try.f4 1), (4, lp Try.f4 2)]) ⟨lam_ok fun x Q a1 a => rises_1 x.1 x.2 a1 Q a, lam_ok fun x Q a1 ⟨a, b⟩ => rises_2 x.1 x.2.1 x.2.2 a1 Q a b, lam_ok fun x Q ⟨a1, a2, a3, a4⟩ a => rises_3 x.1 x.2.1 x.2.2 a1 a2 a3 a4 Q a, trivial⟩
  rw [vc_rises]
  intro _
  refine cond_of (fun _ => rfl) (fun hc => ⟨(t, fs), rfl, ?_, fun n hn => cond_of (fun _ => rfl) (fun h60 => ⟨(t, fs, n), rfl, ?_, rfl, fun hg => ⟨(t, fs, n), rfl, ⟨?_, ?_, ?_, hg⟩, fun ch hch => ?_⟩⟩)⟩)
  all_goals simp only [Bool.or_eq_false_iff, decide_eq_false_iff_not] at hc
  · show fs.length ≤ 200; omega
  · show fs.length ≤ 200; omega
  · show fs.length ≤ 200; omega
  · show n ≤ 60
    have : ¬ (60 < (n : Int)) := by simpa using h60
    omega
  · intro e
    have e : fs = [] := e
    subst e
    simp at hc
  · dsimp only at hch ⊢
    rw [decide_eq_true hch]
end Go.Proofs.Ytdjcdmjnmjhkkaa.Ch
