/- Chapter 15 (cell): the contracts of its functions, proved. No condition. -/
import Derived.Test.YtpkmppfijhhpbaaCAV
namespace Go.Proofs.Ytpkmppfijhhpbaa.Ch
open Go Go.Proofs Go.Proofs.Ytpkmppfijhhpbaa.Sx
set_option linter.unusedVariables false
set_option linter.unusedSimpArgs false

theorem w64 {x : Int} (h1 : -9223372036854775808 ≤ x) (h2 : x ≤ 9223372036854775807) : IntKind.i64.wrap x = x := by rw [IntKind.wrap_i64]; omega
theorem gok0 : GOK Try.prog (gam []) := gam_ok trivial
theorem new_ok : ∀ args h Q, new_t args h Q → FSpec Try.prog 7 args h Q :=
  tr_ok (he := fun _ => []) noH_ok fun x y Q h => by
    refine spec_ownH 41 tV 0 0 (spec_body gok0 Try.func7 rfl noLam_ok ?_)
    show body Try.prog (gam []) noLam Try.f7 [] [] _
    rw [vc_new]
    exact .inr h
theorem make_ok : ∀ args h Q, make_t args h Q → FSpec Try.prog 9 args h Q :=
  tr_ok memD_ok fun (_, ys, _) (xs, n) Q ⟨⟨hn, hx⟩, h1, h2⟩ => by
    dsimp only at hn hx h1 h2
    subst hn
    refine spec_body gok0 Try.func9 rfl noLam_ok ?_
    show body Try.prog (gam []) noLam Try.f9 [.c (.ptr 0 0), .c (.row tV ys)] (memH xs) _
    rw [vc_make]
    intro hy hx'
    rw [w64 (by omega) (by omega), vw_all]
    by_cases hc : 65536 < xs.length + ys.length
    · rw [show decide ((ys.length : Int) > 65536 - (xs.length : Int)) = true by simp; omega]
      exact h1 hc
    · rw [show decide ((ys.length : Int) > 65536 - (xs.length : Int)) = false by simp; omega]
      intro _
      refine ⟨by omega, by rw [List.length_append]; omega, ?_⟩
      rw [w64 (by omega) (by omega)]
      exact h2 (by omega)
theorem len_ok : ∀ args h Q, len_t args h Q → FSpec Try.prog 15 args h Q :=
  tr_ok memD_ok fun (_, _) (xs, n) Q ⟨hn, h1⟩ => by
    dsimp only at hn h1
    subst hn
    refine spec_body gok0 Try.func15 rfl noLam_ok ?_
    show body Try.prog (gam []) noLam Try.f15 [.c (.ptr 0 0)] (memH xs) _
    rw [vc_len]
    exact fun _ => h1
theorem row_core (xs : List V) (at_ k : Int) (Q : SV → List HB → Prop) (hx : xs.length ≤ 65536) (ha : i64 at_) (hk : i64 k) (h1 : has xs.length at_ k = false → Q (.tup [.c .nils, ti 1]) (memH xs))
    (h2 : has xs.length at_ k = true → Q (.tup [.c (.view tV 1 (at_ - 1).toNat k.toNat), ti 0]) (memH xs)) : FSpec Try.prog 16 [.c (.ptr 0 0), ti at_, ti k] (memH xs) Q := by
  refine spec_body gok0 Try.func16 rfl noLam_ok ?_
  show body Try.prog (gam []) noLam Try.f16 [.c (.ptr 0 0), ti at_, ti k] (memH xs) _
  rw [vc_row]
  obtain ⟨ha1, ha2⟩ := ha
  obtain ⟨hk1, hk2⟩ := hk
  cases hh : has xs.length at_ k with
  | true =>
    have h3 := hh
    simp only [has, Bool.and_eq_true, decide_eq_true_eq] at h3
    obtain ⟨⟨c1, c2⟩, c3⟩ := h3
    have e1 : IntKind.i64.wrap (at_ - 1) = at_ - 1 := w64 (by omega) (by omega)
    have e2 : IntKind.i64.wrap ((xs.length : Int) - k) = (xs.length : Int) - k := w64 (by omega) (by omega)
    have e3 : IntKind.i64.wrap (at_ - 1 + k) = at_ - 1 + k := w64 (by omega) (by omega)
    rw [e1, e2, e3]
    have hb : (decide (k < 0) || decide (at_ < 1) || decide (k > (xs.length : Int)) || decide (at_ - 1 > (xs.length : Int) - k)) = false := by simp; omega
    rw [hb]
    refine ⟨by omega, by omega, by omega, ?_⟩
    have e4 : hiN xs.length (some (at_ - 1 + k)) - loN (some (at_ - 1)) = k.toNat := by simp only [hiN, loN]; omega
    rw [e4, Nat.zero_add]
    exact h2 hh
  | false =>
    have h3 := hh
    simp only [has, Bool.and_eq_false_iff, decide_eq_false_iff_not] at h3
    have hb : (decide (k < 0) || decide (at_ < 1) || decide (k > (xs.length : Int)) || decide (IntKind.i64.wrap (at_ - 1) > IntKind.i64.wrap ((xs.length : Int) - k))) = true := by
      by_cases c2 : k < 0
      · simp [c2]
      · by_cases c1 : at_ < 1
        · simp [c1]
        · by_cases c4 : k > (xs.length : Int)
          · simp [c4]
          · have e1 : IntKind.i64.wrap (at_ - 1) = at_ - 1 := w64 (by omega) (by omega)
            have e2 : IntKind.i64.wrap ((xs.length : Int) - k) = (xs.length : Int) - k := w64 (by omega) (by omega)
            rw [e1, e2]
            simp; omega
    rw [hb]
    exact h1 hh
theorem row_ok : ∀ args h Q, row_t args h Q → FSpec Try.prog 16 args h Q :=
  tr_ok memD_ok fun (_, at_, k, _) (xs, n) Q ⟨⟨hn, hx, ha, hk⟩, h1, h2⟩ => by
    dsimp only at hn
    subst hn
    exact row_core xs at_ k Q hx ha hk h1 h2
theorem clone_ok : ∀ args h Q, clone_t args h Q → FSpec Try.prog 17 args h Q :=
  tr_ok (he := fun _ => []) noH_ok fun (xs, _) y Q ⟨h0, h1⟩ => by
    dsimp only at h0 h1
    refine spec_ownR 41 tV 0 (spec_body gok0 Try.func17 rfl noLam_ok ?_)
    show body Try.prog (gam []) noLam Try.f17 [.c (.row tV xs)] [] _
    rw [vc_clone]
    intro b hb
    cases b with
    | true => rw [hb rfl] at h1; exact .inr h1
    | false =>
      have e1 : vw ([] : List V) 0 0 ++ xs = xs := by simp [vw]
      rw [e1]
      exact ⟨Nat.le_refl _, by omega, .inl h1⟩
theorem gok1 : GOK Try.prog (gam [(16, [], row_t), (17, [], clone_t)]) := gam_ok ⟨row_ok, clone_ok, trivial⟩
theorem get_core (xs : List V) (at_ k : Int) (Q : SV → List HB → Prop) (hx : xs.length ≤ 65536) (ha : i64 at_) (hk : i64 k) (h1 : has xs.length at_ k = false → Q (.tup [.c (.view tV 2 0 0), ti 1]) (memH xs ++ [.row 41 tV []]))
    (h2 : has xs.length at_ k = true → Q (.tup [.c (.view tV 2 0 (vw xs (at_ - 1).toNat k.toNat).length), ti 0]) (memH xs ++ [.row 41 tV (vw xs (at_ - 1).toNat k.toNat)])) : FSpec Try.prog 11 [.c (.ptr 0 0), ti at_, ti k] (memH xs) Q := by
  refine spec_body gok1 Try.func11 rfl noLam_ok ?_
  show body Try.prog (gam [(16, [], row_t), (17, [], clone_t)]) noLam Try.f11 [.c (.ptr 0 0), ti at_, ti k] (memH xs) _
  rw [vc_get]
  refine ⟨⟨rfl, hx, ha, hk⟩, fun hf => ⟨by omega, h1 hf⟩, fun ht => ?_⟩
  have h3 := ht
  simp only [has, Bool.and_eq_true, decide_eq_true_eq] at h3
  have hlen : (vw xs (at_ - 1).toNat k.toNat).length ≤ xs.length := by unfold vw; rw [List.length_take, List.length_drop]; omega
  exact ⟨by omega, by omega, h2 ht⟩
theorem get_ok : ∀ args h Q, get_t args h Q → FSpec Try.prog 11 args h Q :=
  tr_ok memD_ok fun (_, at_, k, _) (xs, n) Q ⟨⟨hn, hx, ha, hk⟩, h1, h2⟩ => by
    dsimp only at hn
    subst hn
    exact get_core xs at_ k Q hx ha hk h1 h2
theorem set_core (xs ys : List V) (at_ : Int) (Q : SV → List HB → Prop) (hx : xs.length ≤ 65536) (ha : i64 at_) (h1 : has xs.length at_ ys.length = false → Q (.p (ti 1)) (memH xs))
    (h2 : has xs.length at_ ys.length = true → Q (.p (ti 0)) (memH (splice xs (at_ - 1).toNat ys))) : FSpec Try.prog 14 [.c (.ptr 0 0), ti at_, .c (.row tV ys)] (memH xs) Q := by
  refine spec_body gok1 Try.func14 rfl noLam_ok ?_
  show body Try.prog (gam [(16, [], row_t), (17, [], clone_t)]) noLam Try.f14 [.c (.ptr 0 0), ti at_, .c (.row tV ys)] (memH xs) _
  rw [vc_set]
  intro hy
  simp only [maxI] at hy
  refine ⟨⟨rfl, hx, ha, by constructor <;> omega⟩, fun hf => h1 hf, fun ht => ?_⟩
  have h3 := ht
  simp only [has, Bool.and_eq_true, decide_eq_true_eq] at h3
  refine ⟨by omega, ?_⟩
  have e1 : List.take (min ys.length ((ys.length : Int)).toNat) ys = ys := by simp
  have e2 := splice_len (l := xs) (n := ys) (o := (at_ - 1).toNat) (by omega)
  have h4 := h2 ht
  rw [e1]
  unfold memH at h4
  rw [e2] at h4
  exact h4
theorem set_ok : ∀ args h Q, set_t args h Q → FSpec Try.prog 14 args h Q :=
  tr_ok memD_ok fun (_, at_, ys, _) (xs, n) Q ⟨⟨hn, hx, ha⟩, h1, h2⟩ => by
    dsimp only at hn
    subst hn
    exact set_core xs ys at_ Q hx ha h1 h2
end Go.Proofs.Ytpkmppfijhhpbaa.Ch
