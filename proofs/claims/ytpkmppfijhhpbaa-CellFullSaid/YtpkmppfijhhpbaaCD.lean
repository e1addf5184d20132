/- Chapter 15 (cell): the contracts of the statements' helpers, proved. No condition. -/
import Derived.Test.YtpkmppfijhhpbaaCCV
namespace Go.Proofs.Ytpkmppfijhhpbaa.Ch
open Go Go.Proofs Go.Proofs.Ytpkmppfijhhpbaa.Sx
set_option linter.unusedVariables false
set_option linter.unusedSimpArgs false

theorem eqV_iff (a b : V) : (a.1 == b.1 && (a.2.1 == b.2.1 && (a.2.2.1 == b.2.2.1 && (a.2.2.2.1 == b.2.2.2.1 && (strEq a.2.2.2.2 b.2.2.2.2 && true))))) = true ↔ a = b := by
  obtain ⟨a1, a2, a3, a4, a5⟩ := a
  obtain ⟨b1, b2, b3, b4, b5⟩ := b
  simp [strEq_iff, Prod.mk.injEq]
theorem getD_at {α : Type} {l : List α} {i : Nat} (h : i < l.length) (d : α) : l.getD i d = l[i] := by
  rw [List.getD_eq_getElem?_getD, List.getElem?_eq_getElem h]; rfl
theorem same_loop (xs ys : List V) (hl : xs.length = ys.length) (Q : Exit → SS → Prop) (h1 : xs = ys → Q (.exit 0) (stNo 26)) (h2 : xs ≠ ys → Q .ret (stRes 26 4 (.c (.bool false)))) :
    ∀ i : Nat, (i ≤ xs.length ∧ xs.take i = ys.take i) → W 0 Try.prog (.loop (lp Try.f13 0)) (stSame xs ys i) Q := by
  refine W_loopC (stSame xs ys) (fun i => i ≤ xs.length ∧ xs.take i = ys.take i) (fun i => xs.length - i) [0, 1, 5] [4] ?_
  rintro i ⟨hi, ht⟩
  refine sx_ok (Λ := noLam) gok0 _ 0 _ _ noLam_ok ?_
  rw [vc_same_l]
  intro hx
  by_cases hc : i < xs.length
  · have hy : i < ys.length := by omega
    rw [show decide ((i : Int) < (xs.length : Int)) = true by simp; omega]
    simp only [Int.toNat_natCast]
    refine ⟨by omega, by omega, hc, by omega, by omega, hy, ?_⟩
    rw [getD_at hc, getD_at hy]
    cases he : (xs[i].1 == ys[i].1 && (xs[i].2.1 == ys[i].2.1 && (xs[i].2.2.1 == ys[i].2.2.1 && (xs[i].2.2.2.1 == ys[i].2.2.2.1 && (strEq xs[i].2.2.2.2 ys[i].2.2.2.2 && true))))) with
    | true =>
      have heq := (eqV_iff _ _).1 he
      have hm : (xs.length : Int) ≤ 9223372036854775807 := by simp only [maxI] at hx; omega
      have ew : IntKind.i64.wrap ((i : Int) + 1) = ((i + 1 : Nat) : Int) := by rw [w64 (x := (i : Int) + 1) (by omega) (by omega)]; rfl
      rw [ew]
      refine ⟨i + 1, rfl, ⟨by omega, ?_⟩, by omega⟩
      rw [List.take_succ_eq_append_getElem hc, List.take_succ_eq_append_getElem hy, ht, heq]
    | false =>
      refine h2 (fun e => ?_)
      subst e
      have := (eqV_iff xs[i] xs[i]).2 rfl
      rw [he] at this
      cases this
  · rw [show decide ((i : Int) < (xs.length : Int)) = false by simp; omega]
    refine h1 ?_
    rw [List.take_of_length_le (by omega), List.take_of_length_le (by omega)] at ht
    exact ht
theorem same_ok : ∀ args h Q, same_t args h Q → FSpec Try.prog 13 args h Q :=
  tr_ok (he := fun _ => []) noH_ok fun (xs, ys, _) y Q h1 => by
    dsimp only at h1
    refine spec_body (Λ := lam [(0, same_l)]) gok0 Try.func13 rfl ?_ ?_
    · show LOK 0 Try.prog (lam [(0, same_l)]) [(0, lp Try.f13 0)]
      exact lokl ⟨lam_ok fun x Q ⟨hl, _⟩ ⟨a1, a2⟩ => same_loop x.1 x.2 hl Q a1 a2 0 ⟨by omega, by simp⟩, trivial⟩
    · show body Try.prog (gam []) (lam [(0, same_l)]) Try.f13 [.c (.row tV xs), .c (.row tV ys)] [] _
      rw [vc_same]
      intro hx hy
      by_cases hl : xs.length = ys.length
      · rw [show ((xs.length : Int) != (ys.length : Int)) = false by simp; omega]
        refine ⟨(xs, ys), rfl, ⟨hl, hx⟩, fun e => ?_, fun e => ?_⟩
        · rw [decide_eq_true e] at h1; exact h1
        · rw [decide_eq_false e] at h1; exact h1
      · rw [show ((xs.length : Int) != (ys.length : Int)) = true by simp; omega]
        rw [decide_eq_false (fun e => hl (congrArg List.length e))] at h1
        exact h1
theorem great_loop (x : A) (hx : x.2.2.2.length ≤ 20) (Q : Exit → SS → Prop) (h1 : greatV x.2.2.2 = false → Q (.exit 0) (stNo 23)) (h2 : greatV x.2.2.2 = true → Q .ret (stRes 23 2 (.c (.bool true)))) :
    ∀ i : Nat, (i ≤ x.2.2.2.length ∧ greatV (x.2.2.2.take i) = false) → W 0 Try.prog (.loop (lp Try.f8 0)) (stGreat x i) Q := by
  refine W_loopC (stGreat x) (fun i => i ≤ x.2.2.2.length ∧ greatV (x.2.2.2.take i) = false) (fun i => x.2.2.2.length - i) [1, 3] [2] ?_
  rintro i ⟨hi, ht⟩
  refine sx_ok (Λ := noLam) gok0 _ 0 _ _ noLam_ok ?_
  rw [vc_great_l]
  intro _
  by_cases hc : i < x.2.2.2.length
  · rw [show decide ((i : Int) < (x.2.2.2.length : Int)) = true by simp; omega]
    refine ⟨by omega, by omega, by omega, ?_⟩
    generalize hv : x.2.2.2.getD ((i : Int)).toNat tV.dft = v
    have hv' : v = x.2.2.2[i] := by rw [← hv, Int.toNat_natCast]; exact getD_at hc _
    intro _
    by_cases hg : 100 < v.2.2.2.2.size
    · rw [show decide (((ByteArray.size v.2.2.2.2 : Nat) : Int) > 100) = true by simp; omega]
      refine h2 ?_
      unfold greatV
      rw [List.any_eq_true]
      exact ⟨v, by rw [hv']; exact List.getElem_mem hc, by simpa using hg⟩
    · rw [show decide (((ByteArray.size v.2.2.2.2 : Nat) : Int) > 100) = false by simp; omega]
      have ew : IntKind.i64.wrap ((i : Int) + 1) = ((i + 1 : Nat) : Int) := by rw [w64 (x := (i : Int) + 1) (by omega) (by omega)]; rfl
      rw [ew]
      refine ⟨i + 1, rfl, ⟨by omega, ?_⟩, by omega⟩
      unfold greatV at ht ⊢
      rw [List.take_succ_eq_append_getElem hc, List.any_append, ht, ← hv']
      simp [hg]
  · rw [show decide ((i : Int) < (x.2.2.2.length : Int)) = false by simp; omega]
    refine h1 ?_
    rw [List.take_of_length_le (by omega)] at ht
    exact ht
theorem great_ok : ∀ args h Q, great_t args h Q → FSpec Try.prog 8 args h Q :=
  tr_ok (he := fun _ => []) noH_ok fun (x, _) y Q h1 => by
    dsimp only at h1
    refine spec_body (Λ := lam [(0, great_l)]) gok0 Try.func8 rfl ?_ ?_
    · show LOK 0 Try.prog (lam [(0, great_l)]) [(0, lp Try.f8 0)]
      exact lokl ⟨lam_ok fun x Q hl ⟨a1, a2⟩ => great_loop x hl Q a1 a2 0 ⟨by omega, by simp [greatV]⟩, trivial⟩
    · show body Try.prog (gam []) (lam [(0, great_l)]) Try.f8 [.agg (toCV tA x)] [] _
      rw [vc_great]
      intro hx
      by_cases hl : 20 < x.2.2.2.length
      · rw [show decide (((List.length x.2.2.2 : Nat) : Int) > 20) = true by simp; omega]
        rw [decide_eq_true hl, Bool.true_or] at h1
        exact h1
      · rw [show decide (((List.length x.2.2.2 : Nat) : Int) > 20) = false by simp; omega]
        rw [decide_eq_false hl, Bool.false_or] at h1
        refine ⟨x, rfl, by omega, fun e => ?_, fun e => ?_⟩
        · rw [e] at h1; exact h1
        · rw [e] at h1; exact h1
theorem rmake_core (xs ys : List V) (Q : SV → List HB → Prop) (hx : xs.length ≤ 65536) (h1 : 65536 < xs.length + ys.length → Q (.tup [.c (.row tV xs), ti 0, ti 14]) [])
    (h2 : xs.length + ys.length ≤ 65536 → Q (.tup [.c (.view tV 0 0 (xs ++ ys).length), ti (xs.length + 1), ti 0]) [.row 41 tV (xs ++ ys)]) : FSpec Try.prog 10 [.c (.row tV xs), .c (.row tV ys)] [] Q := by
  refine spec_body (Λ := noLam) gok0 Try.func10 rfl noLam_ok ?_
  show body Try.prog (gam []) noLam Try.f10 [.c (.row tV xs), .c (.row tV ys)] [] _
  rw [vc_rmake]
  intro hy _
  have e1 : IntKind.i64.wrap (65536 - (xs.length : Int)) = 65536 - xs.length := w64 (by omega) (by omega)
  have e2 : vw ([] : List V) 0 0 ++ xs = xs := by simp [vw]
  have e3 : IntKind.i64.wrap ((xs.length : Int) + 1) = xs.length + 1 := w64 (by omega) (by omega)
  rw [e1, e2, vw_all, e3]
  by_cases hc : 65536 < xs.length + ys.length
  · rw [show decide ((ys.length : Int) > 65536 - (xs.length : Int)) = true by simp; omega]
    exact h1 hc
  · rw [show decide ((ys.length : Int) > 65536 - (xs.length : Int)) = false by simp; omega]
    exact ⟨Nat.le_refl _, by omega, by omega, by rw [List.length_append]; omega, fun _ => h2 (by omega)⟩
theorem rmake_ok : ∀ args h Q, rmake_t args h Q → FSpec Try.prog 10 args h Q :=
  tr_ok (he := fun _ => []) noH_ok fun (xs, ys, _) y Q ⟨hx, h1, h2⟩ => rmake_core xs ys Q hx h1 h2
theorem has_core (xs : List V) (at_ k : Int) (Q : SV → List HB → Prop) (hx : xs.length ≤ 65536) (ha : i64 at_) (hk : i64 k) (h1 : Q (.p (.c (.bool (has xs.length at_ k)))) []) : FSpec Try.prog 12 [.c (.row tV xs), ti at_, ti k] [] Q := by
  refine spec_body (Λ := noLam) gok0 Try.func12 rfl noLam_ok ?_
  show body Try.prog (gam []) noLam Try.f12 [.c (.row tV xs), ti at_, ti k] [] _
  rw [vc_has]
  obtain ⟨ha1, ha2⟩ := ha
  obtain ⟨hk1, hk2⟩ := hk
  have e : (decide (at_ ≥ 1) && decide (k ≥ 0) && decide (k ≤ (xs.length : Int)) && decide (IntKind.i64.wrap (at_ - 1) ≤ IntKind.i64.wrap ((xs.length : Int) - k))) = has xs.length at_ k := by
    unfold has
    by_cases c1 : 1 ≤ at_
    · by_cases c2 : 0 ≤ k
      · have e1 : IntKind.i64.wrap (at_ - 1) = at_ - 1 := w64 (by omega) (by omega)
        have e2 : IntKind.i64.wrap ((xs.length : Int) - k) = (xs.length : Int) - k := w64 (by omega) (by omega)
        rw [e1, e2]
        by_cases c3 : at_ - 1 + k ≤ (xs.length : Int)
        · simp [c1, c2, c3]; omega
        · simp [c1, c2, c3]; omega
      · simp [c2]
    · simp [c1]
  rw [e]
  exact h1
theorem has_ok : ∀ args h Q, has_t args h Q → FSpec Try.prog 12 args h Q :=
  tr_ok (he := fun _ => []) noH_ok fun (xs, at_, k, _) y Q ⟨⟨hx, ha, hk⟩, h1⟩ => has_core xs at_ k Q hx ha hk h1
/-- The contracts of all functions that the statements call. -/
noncomputable def gAll : List (Nat × List Bool × Tr) := [(7, [], new_t), (8, [], great_t), (9, [], make_t), (10, [], rmake_t), (11, [], get_t), (12, [], has_t), (13, [], same_t), (14, [], set_t), (15, [], len_t)]
theorem gokAll : GOK Try.prog (gam gAll) := gam_ok ⟨new_ok, great_ok, make_ok, rmake_ok, get_ok, has_ok, same_ok, set_ok, len_ok, trivial⟩
end Go.Proofs.Ytpkmppfijhhpbaa.Ch
