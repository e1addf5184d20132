/- Chapter 20 (lattice): Join, Below, Repeat, proved. No condition. -/
import Derived.Test.YtdjcdmjnmjhkkaaLCV
import Derived.Laws.BitsAllLaws
namespace Go.Proofs.Ytdjcdmjnmjhkkaa.Ch
open Go Go.Proofs Go.Proofs.Ytdjcdmjnmjhkkaa.Sx
set_option linter.unusedVariables false
set_option linter.unusedSimpArgs false

theorem gokJoin : GOK Try.prog (gam gJoin) := gam_ok ⟨clone_ok, cell_ok, trivial⟩
theorem vw_all {α : Type} (l : List α) : vw l 0 l.length = l := by simp [vw]
theorem join_loop (t : Int) (xs ys : List Int) (hx : xs.length ≤ 100000) (hy : ys.length ≤ 100000) (Q : Exit → SS → Prop) (hq : Q (.exit 1) (stJX (List.zipWith (cellV t) xs ys))) :
    W 0 Try.prog (.loop (lp Try.f8 0)) (stJ0 t xs ys (min xs.length ys.length : Nat)) Q := by
  refine W_ownH 3 tI 3 1 ?_
  show W 0 Try.prog (.loop (lp Try.f8 0)) (stJ t xs ys [] (min xs.length ys.length) 0) Q
  refine W_loopE (N := 0) (P := Try.prog) (body := lp Try.f8 0) (Q := Q) (fun x : Nat × List Int => stJ t xs ys x.2 (min xs.length ys.length) x.1) (fun x => x.1 ≤ min xs.length ys.length ∧ x.2 = (List.zipWith (cellV t) xs ys).take x.1) (fun x => min xs.length ys.length - x.1) [0, 4, 5, 6, 7, 28, 29] [6, 7] [] (fun ⟨i, zs⟩ ⟨hi, hz⟩ => ?_) (0, []) ⟨Nat.zero_le _, rfl⟩
  dsimp only at hi hz ⊢
  refine sx_ok (Λ := noLam) gokJoin _ 1 _ _ noLam_ok ?_
  rw [vc_join_l]
  have hlen : (List.zipWith (cellV t) xs ys).length = min xs.length ys.length := List.length_zipWith
  have hzl : zs.length = i := by rw [hz, List.length_take, hlen]; omega
  refine cond_of (fun hc => ?_) (fun hc => ?_)
  · have hc : i < min xs.length ys.length := by simpa using hc
    have h1 : i < xs.length := by omega
    have h2 : i < ys.length := by omega
    have ei : IntKind.i64.wrap ((i : Int) + 1) = ((i + 1 : Nat) : Int) := w64n (n := i + 1) (by omega)
    rw [ei, Int.toNat_natCast, getD_at h1, getD_at h2, vw_all]
    refine ⟨by omega, by omega, h1, by omega, by omega, h2, by simp, by omega, by simp only [List.length_append, List.length_cons, List.length_nil]; omega, ⟨(i + 1, zs ++ [cellV t xs[i] ys[i]]), rfl, ⟨by show i + 1 ≤ _; omega, ?_⟩, by show _ - (i + 1) < _ - i; omega⟩⟩
    dsimp only
    rw [List.take_succ_eq_append_getElem (by rw [hlen]; exact hc), ← hz, List.getElem_zipWith]
  · have hc : ¬ (i < min xs.length ys.length) := by simpa using hc
    have e : zs = List.zipWith (cellV t) xs ys := by rw [hz, List.take_of_length_le (by omega)]
    rw [e]; exact hq
theorem join_ok : ∀ args h Q, join_t args h Q → FSpec Try.prog 8 args h Q := trH_ok fun ((t, (c, xs), (d, ys), _) : Int × Kn × Kn × Unit) _ Q ⟨⟨hx, hy⟩, h⟩ => by
  dsimp only at hx hy h
  refine spec_body (Λ := lam [(1, join_l)]) gokJoin Try.func8 rfl ?_ ?_
  · exact lokl (l := [(1, lp Try.f8 0)]) ⟨lam_ok fun x Q ⟨a1, a2⟩ a => join_loop x.1 x.2.1 x.2.2 a1 a2 Q a, trivial⟩
  show body Try.prog (gam gJoin) (lam [(1, join_l)]) Try.f8 [ti t, .agg [.bool c, .row tI xs], .agg [.bool d, .row tI ys]] [] _
  unfold joinV at h
  cases c with
  | false =>
    rw [vc_join0]
    rw [if_pos rfl] at h
    exact ⟨by omega, h⟩
  | true =>
    rw [if_neg (by simp)] at h
    cases d with
    | false =>
      rw [vc_join1]
      rw [if_pos rfl] at h
      exact ⟨by omega, h⟩
    | true =>
      rw [vc_join2]
      rw [if_neg (by simp)] at h
      intro _ _
      have e : mn2 (xs.length : Int) (ys.length : Int) = ((min xs.length ys.length : Nat) : Int) := by unfold mn2; split <;> omega
      rw [e]
      exact ⟨(t, xs, ys), rfl, ⟨hx, hy⟩, h⟩
theorem below_ok : ∀ args h Q, below_t args h Q → FSpec Try.prog 11 args h Q := trH_ok fun ((t, (c, xs), (d, ys), _) : Int × Kn × Kn × Unit) _ Q ⟨⟨hx, hy⟩, h⟩ => by
  dsimp only at hx hy h
  refine spec_body (Γ := gam [(8, [], join_t), (9, [], same_t)]) (gam_ok ⟨join_ok, same_ok, trivial⟩) Try.func11 rfl noLam_ok ?_
  show body Try.prog (gam [(8, [], join_t), (9, [], same_t)]) noLam Try.f11 [ti t, .agg [.bool c, .row tI xs], .agg [.bool d, .row tI ys]] [] _
  rw [vc_below, vw_all]
  exact ⟨⟨hx, hy⟩, by omega, h⟩
theorem and_low {y : Int} (h0 : 0 ≤ y) (h1 : y < 4294967296) : bits .and .u64 y 4294967295 = y := by
  rw [u64_and y 4294967295 h0 (by omega) (by omega) (by omega)]
  rw [show (4294967295 : Int).toNat = 2 ^ 32 - 1 from rfl, Nat.and_two_pow_sub_one_eq_mod, Nat.mod_eq_of_lt (by omega)]
  omega
theorem mul64_ok : ∀ args h Q, mul_t args h Q → FSpec Try.prog 28 args h Q := trH_ok fun ((x, y, _) : Int × Int × Unit) _ Q ⟨⟨hx, h0, h1⟩, h⟩ => by
  dsimp only at hx h0 h1 h
  have h0 : (0 : Int) ≤ y := h0
  have h1 : y < (4294967296 : Int) := h1
  subst hx
  refine spec_body gok0 Try.func28 rfl noLam_ok ?_
  show body Try.prog (gam []) noLam Try.f28 [.c (.int .u64 1), .c (.int .u64 y)] [] _
  rw [vc_mul64, and_low h0 h1, and_low (y := 1) (by omega) (by omega)]
  have e1 : y.fdiv (2 ^ 32) = 0 := by rw [Int.fdiv_eq_ediv_of_nonneg _ (by omega)]; omega
  have e2 : Int.fdiv 1 (2 ^ 32) = 0 := by rw [Int.fdiv_eq_ediv_of_nonneg _ (by omega)]; omega
  have e3 : Int.fdiv 0 (2 ^ 32) = 0 := by rw [Int.fdiv_eq_ediv_of_nonneg _ (by omega)]; omega
  have w0 : IntKind.u64.wrap 0 = 0 := w64u (by omega) (by omega)
  have wy : IntKind.u64.wrap y = y := w64u (by omega) (by omega)
  have a0 : bits .and .u64 0 4294967295 = 0 := and_low (y := 0) (by omega) (by omega)
  rw [e1, e2, Int.one_mul, Int.one_mul, Int.zero_mul, Int.zero_mul, w0, wy, e1]
  rw [Int.add_zero, w0, e3, a0, Int.add_zero, w0, e3, Int.add_zero, w0]
  refine ⟨by omega, by omega, by omega, by omega, by omega, h⟩
theorem mul_ok : ∀ args h Q, mul_t args h Q → FSpec Try.prog 26 args h Q := trH_ok fun ((x, y, _) : Int × Int × Unit) _ Q ⟨⟨hx, h0, h1⟩, h⟩ => by
  refine spec_body (Γ := gam [(28, [], mul_t), (27, [], failT)]) (gam_ok ⟨mul64_ok, failT_ok, trivial⟩) Try.func26 rfl noLam_ok ?_
  show body Try.prog (gam [(28, [], mul_t), (27, [], failT)]) noLam Try.f26 [.c (.int .u64 x), .c (.int .u64 y)] [] _
  rw [vc_mul]
  exact ⟨⟨hx, h0, h1⟩, h⟩
theorem rep_loop (n : Nat) (x : Int) (hn : n ≤ 65536) (Q : Exit → SS → Prop) (hq : Q (.exit 0) (stRX (List.replicate n x))) :
    W 0 Try.prog (.loop (lp Try.f21 0)) (stR (splice (List.replicate n (0 : Int)) 0 ([x].take (min 1 n))) (min 1 n : Nat)) Q := by
  have h0 : (splice (List.replicate n (0 : Int)) 0 ([x].take (min 1 n))).length = n ∧ (splice (List.replicate n (0 : Int)) 0 ([x].take (min 1 n))).take (min 1 n) = List.replicate (min 1 n) x := by
    cases n with
    | zero => simp [splice]
    | succ n => simp [splice, show min 1 (n + 1) = 1 by omega]
  refine W_loopE (N := 0) (P := Try.prog) (body := lp Try.f21 0) (Q := Q) (fun p : List Int × Nat => stR p.1 p.2) (fun p => p.1.length = n ∧ p.2 ≤ n ∧ (1 ≤ p.2 ∨ n = 0) ∧ p.1.take p.2 = List.replicate p.2 x) (fun p => n - p.2) [7, 8] [7] [] (fun ⟨zs, i⟩ ⟨hl, hi, h1, ht⟩ => ?_) (_, min 1 n) ⟨h0.1, by show min 1 n ≤ n; omega, by show 1 ≤ min 1 n ∨ n = 0; omega, h0.2⟩
  dsimp only at hl hi h1 ht ⊢
  refine sx_ok (Λ := noLam) gok0 _ 0 _ _ noLam_ok ?_
  rw [vc_rep_l]
  intro hm
  refine cond_of (fun hc => ?_) (fun hc => ?_)
  · have hc : i < zs.length := by simpa using hc
    have e1 : hiN zs.length (some (i : Int)) = i := by simp [hiN]
    have e2 : hiN zs.length none = n := by simp [hiN, hl]
    have e3 : loN (some (i : Int)) = i := by simp [loN]
    have e4 : vw zs 0 i = List.replicate i x := by unfold vw; rw [List.drop_zero, ht]
    rw [e1, e2, e3, Nat.sub_zero, e4, List.length_replicate, List.take_replicate, show min (min i (n - i)) i = min i (n - i) by omega]
    have ei : IntKind.i64.wrap ((i : Int) + ((min i (n - i) : Nat) : Int)) = ((i + min i (n - i) : Nat) : Int) := by rw [w64 (by omega) (by omega)]; omega
    rw [ei]
    have hsl : (splice zs (0 + i) (List.replicate (min i (n - i)) x)).length = zs.length := by
      unfold splice; simp only [List.length_append, List.length_take, List.length_replicate, List.length_drop]; omega
    refine ⟨by omega, by omega, by omega, by omega, by omega, by omega, ⟨(splice zs (0 + i) (List.replicate (min i (n - i)) x), i + min i (n - i)), by unfold stR; rw [hsl], ⟨by rw [hsl]; exact hl, by show i + min i (n - i) ≤ n; omega, by show 1 ≤ i + min i (n - i) ∨ n = 0; omega, ?_⟩, by show n - (i + min i (n - i)) < n - i; omega⟩⟩
    dsimp only
    unfold splice
    rw [Nat.zero_add, ht, List.replicate_append_replicate, List.take_append_of_le_length (by rw [List.length_replicate]; omega), List.take_of_length_le (by rw [List.length_replicate]; omega)]
  · have hc : ¬ (i < zs.length) := by simpa using hc
    have e : zs = List.replicate n x := by
      have : i = n := by omega
      subst this
      rw [← ht, List.take_of_length_le (by omega)]
    rw [e]; exact hq
theorem rep_ok : ∀ args h Q, rep_t args h Q → FSpec Try.prog 21 args h Q := trH_ok fun ((xs, n, _) : List Int × Int × Unit) _ Q ⟨⟨h1, h0, hn⟩, h⟩ => by
  dsimp only at h1 h0 hn h
  have h0 : (0 : Int) ≤ n := h0
  have hn : n ≤ (65536 : Int) := hn
  match xs, h1 with
  | [x], _ =>
  refine spec_body (Γ := gam [(26, [], mul_t)]) (Λ := lam [(0, rep_l)]) (gam_ok ⟨mul_ok, trivial⟩) Try.func21 rfl ?_ ?_
  · exact lokl (l := [(0, lp Try.f21 0)]) ⟨lam_ok fun x Q a1 a => rep_loop x.1 x.2 a1 Q a, trivial⟩
  show body Try.prog (gam [(26, [], mul_t)]) (lam [(0, rep_l)]) Try.f21 [.c (.row tI [x]), ti n] [] _
  rw [vc_rep]
  have e1 : IntKind.u64.wrap n = n := w64u (by omega) (by omega)
  have e2 : IntKind.i64.wrap n = n := w64 (by omega) (by omega)
  rw [e1, e2]
  refine cond_of (fun hc => absurd hc (by simpa using h0)) (fun _ => fun _ => ⟨⟨by rw [w64u (by simp) (by simp)]; rfl, h0, by show n < 4294967296; omega⟩, cond_of (fun hc => ?_) (fun _ => ⟨h0, Int.le_refl _, by omega, by rw [List.length_replicate]; omega, (n.toNat, x), ?_, by show n.toNat ≤ 65536; omega, ?_⟩)⟩)
  · have : (9223372036854775807 : Int) < n := by simpa using hc
    omega
  · have hsl : (splice (List.replicate n.toNat (0 : Int)) 0 (List.take (min 1 n.toNat) [x])).length = n.toNat := by
      unfold splice
      simp only [List.length_append, List.length_take, List.length_replicate, List.length_drop, List.length_cons, List.length_nil]; omega
    dsimp only
    rw [hsl]; rfl
  · dsimp only
    rw [List.length_replicate]; exact h
end Go.Proofs.Ytdjcdmjnmjhkkaa.Ch
