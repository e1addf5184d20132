/- Chapter 21 (solve): what is looked for in rows, proved. No condition. -/
import Derived.Test.YtloiimhmmcheoaaMAV
namespace Go.Proofs.Ytloiimhmmcheoaa.Ch
open Go Go.Proofs Go.Proofs.Ytloiimhmmcheoaa.Sx
set_option linter.unusedVariables false
set_option linter.unusedSimpArgs false

theorem isAct_ok : ∀ args h Q, isAct_t args h Q → FSpec Try.prog 41 args h Q := trH_ok fun ((p, a, _) : Pb × Ac × Unit) _ Q h => by
  refine spec_body gok0 Try.func41 rfl noLam_ok ?_
  show body Try.prog (gam []) noLam Try.f41 [.agg (toCV tPb p), .agg (toCV tAct a)] [] _
  rw [vc_isAct]
  dsimp only at h
  unfold isActV actK at h
  generalize (p.2.2.2.2.2.1 == (2 : Int)) = b1 at h ⊢
  generalize (decide (a.2.1 < 0) || decide (a.2.1 ≥ p.2.2.2.2.2.2) || decide (a.2.2 < 0)) = b2 at h ⊢
  generalize (a.1 == (1 : Int)) = b3 at h ⊢
  generalize (a.1 == (2 : Int)) = b4 at h ⊢
  generalize (a.1 == (3 : Int)) = b5 at h ⊢
  cases b1 <;> cases b2 <;> cases b3 <;> cases b4 <;> cases b5 <;> exact h
theorem out_ok : ∀ args h Q, out_t args h Q → FSpec Try.prog 20 args h Q := trH_ok fun ((k, _) : Int × Unit × Unit) (((n, _), _) : (Int × Unit) × Unit) Q h => by
  refine spec_body gok0 Try.func20 rfl noLam_ok ?_
  show body Try.prog (gam []) noLam Try.f20 [ti k, .c (.ptr 0 0)] (boxH n) _
  rw [vc_out]
  dsimp only at h
  unfold outB at h
  exact h
theorem way_ok : ∀ args h Q, way_t args h Q → FSpec Try.prog 42 args h Q := trH_ok fun ((k, _) : Int × Unit × Unit) (((nx, ac, ed, sr, cm, cl, tg, nn, _), _) : (List (List Int) × List (List Ac) × List (List (List Ac)) × List Int × Bool × List Int × Int × Int × Unit) × Unit) Q h => by
  refine spec_body gok0 Try.func42 rfl noLam_ok ?_
  show body Try.prog (gam []) noLam Try.f42 [ti k, .c (.ptr 0 0)] (pbH (nx, ac, ed, sr, (cm, cl), tg, nn)) _
  rw [vc_way]
  dsimp only at h ⊢
  unfold outB at h
  exact h
theorem abad_ok : ∀ args h Q, abad_t args h Q → FSpec Try.prog 40 args h Q := trH_ok fun ((a, _) : Ac × Unit × Unit) (((nx, ac, ed, sr, cm, cl, tg, nn, _), _) : (List (List Int) × List (List Ac) × List (List (List Ac)) × List Int × Bool × List Int × Int × Int × Unit) × Unit) Q h => by
  refine spec_body (Γ := gam [(41, [], isAct_t)]) (gam_ok ⟨isAct_ok, trivial⟩) Try.func40 rfl noLam_ok ?_
  show body Try.prog (gam [(41, [], isAct_t)]) noLam Try.f40 [.agg (toCV tAct a), .c (.ptr 0 0)] (pbH (nx, ac, ed, sr, (cm, cl), tg, nn)) _
  rw [vc_abad]
  exact h
theorem out_loop (ks : List Int) (n : Int) (hm : ks.length ≤ maxI) (Q : Exit → SS → Prop) (h1 : ks.any (outB n) = false → Q (.exit 0) (st0_out n)) (h2 : ∀ r : Nat, ks.any (outB n) = true → r ≤ maxI → Q .ret (st1_out n r)) :
    W 1 Try.prog (.loop (lp Try.f39 0)) (st_out ks n 0) Q := by
  refine W_loopE (st_out ks n) (fun i => i ≤ ks.length ∧ (ks.take i).any (outB n) = false) (fun i => ks.length - i) [0, 1, 7, 8] [] [4] ?_ 0 ⟨Nat.zero_le _, by simp⟩
  rintro i ⟨hi, ht⟩
  refine sx_ok (Λ := noLam) (Γ := gam [(20, [], out_t)]) (gam_ok ⟨out_ok, trivial⟩) _ 0 _ _ noLam_ok ?_
  rw [vc_lout]
  simp only [maxI] at hm
  refine cond_of (fun hc => ?_) (fun hc => ?_)
  · have hc : i < ks.length := by simpa using hc
    have ei : IntKind.i64.wrap ((i : Int) + 1) = ((i + 1 : Nat) : Int) := w64n (n := i + 1) (by omega)
    rw [ei]
    rw [Int.toNat_natCast, getD_at hc]
    refine ⟨by omega, by omega, hc, cond_of (fun hb => ?_) (fun hb => ?_)⟩
    · exact h2 i (List.any_eq_true.2 ⟨_, List.getElem_mem hc, hb⟩) (by simp only [maxI]; omega)
    · exact ⟨i + 1, rfl, ⟨hc, by rw [List.take_succ_eq_append_getElem hc, List.any_append, ht, List.any_cons, List.any_nil, Bool.or_false, Bool.false_or]; exact hb⟩, by omega⟩
  · have hc : ¬ (i < ks.length) := by simpa using hc
    rw [List.take_of_length_le (by omega)] at ht
    exact h1 ht
theorem iout_ok : ∀ args h Q, iout_t args h Q → FSpec Try.prog 39 args h Q := trH_ok fun ((ks, _) : List Int × (Unit × Unit) × Unit) (((n, _), _) : (Int × Unit) × Unit) Q h => by
  refine spec_body (Λ := lam [(0, out_l)]) (Γ := gam [(20, [], out_t)]) (gam_ok ⟨out_ok, trivial⟩) Try.func39 rfl ?_ ?_
  · exact lokl (l := [(0, lp Try.f39 0)]) ⟨lam_ok fun x Q hm ⟨a1, a2⟩ => out_loop x.1 x.2 hm Q a1 a2, trivial⟩
  · show body Try.prog (gam [(20, [], out_t)]) (lam [(0, out_l)]) Try.f39 [.c (.row tI ks), .clo 20 [.ptr 0 0]] (boxH n) _
    rw [vc_iout]
    exact fun hm => ⟨(ks, n), rfl, hm, fun hf => h (-1) (by rw [hf]; rfl), fun r ht _ => h r (by rw [ht]; simp)⟩
theorem cout_ok : ∀ args h Q, cout_t args h Q → FSpec Try.prog 19 args h Q := trH_ok fun ((ks, _) : List Int × (Unit × Unit) × Unit) (((n, _), _) : (Int × Unit) × Unit) Q h => by
  refine spec_body (Γ := gam [(39, [], iout_t)]) (gam_ok ⟨iout_ok, trivial⟩) Try.func19 rfl noLam_ok ?_
  show body Try.prog (gam [(39, [], iout_t)]) noLam Try.f19 [.c (.row tI ks), .clo 20 [.ptr 0 0]] (boxH n) _
  rw [vc_cout]
  intro r hr
  rw [show decide (r ≥ 0) = decide (0 ≤ r) from rfl, ← hr]
  exact h
theorem way_loop (ks : List Int) (n : Pb) (hm : ks.length ≤ maxI) (Q : Exit → SS → Prop) (h1 : ks.any (outB n.1.length) = false → Q (.exit 0) (st0_way n)) (h2 : ∀ r : Nat, ks.any (outB n.1.length) = true → r ≤ maxI → Q .ret (st1_way n r)) :
    W 1 Try.prog (.loop (lp Try.f39 0)) (st_way ks n 0) Q := by
  refine W_loopE (st_way ks n) (fun i => i ≤ ks.length ∧ (ks.take i).any (outB n.1.length) = false) (fun i => ks.length - i) [0, 1, 7, 8] [] [4] ?_ 0 ⟨Nat.zero_le _, by simp⟩
  rintro i ⟨hi, ht⟩
  refine sx_ok (Λ := noLam) (Γ := gam [(42, [], way_t)]) (gam_ok ⟨way_ok, trivial⟩) _ 0 _ _ noLam_ok ?_
  rw [vc_lway]
  simp only [maxI] at hm
  refine cond_of (fun hc => ?_) (fun hc => ?_)
  · have hc : i < ks.length := by simpa using hc
    have ei : IntKind.i64.wrap ((i : Int) + 1) = ((i + 1 : Nat) : Int) := w64n (n := i + 1) (by omega)
    rw [ei]
    rw [Int.toNat_natCast, getD_at hc]
    refine ⟨by omega, by omega, hc, cond_of (fun hb => ?_) (fun hb => ?_)⟩
    · exact h2 i (List.any_eq_true.2 ⟨_, List.getElem_mem hc, hb⟩) (by simp only [maxI]; omega)
    · exact ⟨i + 1, rfl, ⟨hc, by rw [List.take_succ_eq_append_getElem hc, List.any_append, ht, List.any_cons, List.any_nil, Bool.or_false, Bool.false_or]; exact hb⟩, by omega⟩
  · have hc : ¬ (i < ks.length) := by simpa using hc
    rw [List.take_of_length_le (by omega)] at ht
    exact h1 ht
theorem iway_ok : ∀ args h Q, iway_t args h Q → FSpec Try.prog 39 args h Q := trH_ok fun ((ks, _) : List Int × (Unit × Unit) × Unit) (((nx, ac, ed, sr, cm, cl, tg, nn, _), _) : (List (List Int) × List (List Ac) × List (List (List Ac)) × List Int × Bool × List Int × Int × Int × Unit) × Unit) Q h => by
  refine spec_body (Λ := lam [(0, way_l)]) (Γ := gam [(42, [], way_t)]) (gam_ok ⟨way_ok, trivial⟩) Try.func39 rfl ?_ ?_
  · exact lokl (l := [(0, lp Try.f39 0)]) ⟨lam_ok fun x Q hm ⟨a1, a2⟩ => way_loop x.1 x.2 hm Q a1 a2, trivial⟩
  · show body Try.prog (gam [(42, [], way_t)]) (lam [(0, way_l)]) Try.f39 [.c (.row tI ks), .clo 42 [.ptr 0 0]] (pbH (nx, ac, ed, sr, (cm, cl), tg, nn)) _
    rw [vc_iway]
    exact fun hm => ⟨(ks, (nx, ac, ed, sr, (cm, cl), tg, nn)), rfl, hm, fun hf => h (-1) (by rw [hf]; rfl), fun r ht _ => h r (by rw [ht]; simp)⟩
theorem cway_ok : ∀ args h Q, cway_t args h Q → FSpec Try.prog 19 args h Q := trH_ok fun ((ks, _) : List Int × (Unit × Unit) × Unit) (((nx, ac, ed, sr, cm, cl, tg, nn, _), _) : (List (List Int) × List (List Ac) × List (List (List Ac)) × List Int × Bool × List Int × Int × Int × Unit) × Unit) Q h => by
  refine spec_body (Γ := gam [(39, [], iway_t)]) (gam_ok ⟨iway_ok, trivial⟩) Try.func19 rfl noLam_ok ?_
  show body Try.prog (gam [(39, [], iway_t)]) noLam Try.f19 [.c (.row tI ks), .clo 42 [.ptr 0 0]] (pbH (nx, ac, ed, sr, (cm, cl), tg, nn)) _
  rw [vc_cway]
  intro r hr
  rw [show decide (r ≥ 0) = decide (0 ≤ r) from rfl, ← hr]
  exact h
theorem abad_loop (ks : List Ac) (n : Pb) (hm : ks.length ≤ maxI) (Q : Exit → SS → Prop) (h1 : ks.any (badA n.2.2.2.2.2.1 n.2.2.2.2.2.2) = false → Q (.exit 0) (st0_abad n)) (h2 : ∀ r : Nat, ks.any (badA n.2.2.2.2.2.1 n.2.2.2.2.2.2) = true → r ≤ maxI → Q .ret (st1_abad n r)) :
    W 1 Try.prog (.loop (lp Try.f54 0)) (st_abad ks n 0) Q := by
  refine W_loopE (st_abad ks n) (fun i => i ≤ ks.length ∧ (ks.take i).any (badA n.2.2.2.2.2.1 n.2.2.2.2.2.2) = false) (fun i => ks.length - i) [0, 1, 7, 8] [] [4] ?_ 0 ⟨Nat.zero_le _, by simp⟩
  rintro i ⟨hi, ht⟩
  refine sx_ok (Λ := noLam) (Γ := gam [(40, [], abad_t)]) (gam_ok ⟨abad_ok, trivial⟩) _ 0 _ _ noLam_ok ?_
  rw [vc_labad]
  simp only [maxI] at hm
  refine cond_of (fun hc => ?_) (fun hc => ?_)
  · have hc : i < ks.length := by simpa using hc
    have ei : IntKind.i64.wrap ((i : Int) + 1) = ((i + 1 : Nat) : Int) := w64n (n := i + 1) (by omega)
    rw [ei]
    rw [Int.toNat_natCast, getD_at hc]
    refine ⟨by omega, by omega, hc, cond_of (fun hb => ?_) (fun hb => ?_)⟩
    · exact h2 i (List.any_eq_true.2 ⟨_, List.getElem_mem hc, hb⟩) (by simp only [maxI]; omega)
    · exact ⟨i + 1, rfl, ⟨hc, by rw [List.take_succ_eq_append_getElem hc, List.any_append, ht, List.any_cons, List.any_nil, Bool.or_false, Bool.false_or]; exact hb⟩, by omega⟩
  · have hc : ¬ (i < ks.length) := by simpa using hc
    rw [List.take_of_length_le (by omega)] at ht
    exact h1 ht
theorem iabad_ok : ∀ args h Q, iabad_t args h Q → FSpec Try.prog 54 args h Q := trH_ok fun ((ks, _) : List Ac × (Unit × Unit) × Unit) (((nx, ac, ed, sr, cm, cl, tg, nn, _), _) : (List (List Int) × List (List Ac) × List (List (List Ac)) × List Int × Bool × List Int × Int × Int × Unit) × Unit) Q h => by
  refine spec_body (Λ := lam [(0, abad_l)]) (Γ := gam [(40, [], abad_t)]) (gam_ok ⟨abad_ok, trivial⟩) Try.func54 rfl ?_ ?_
  · exact lokl (l := [(0, lp Try.f54 0)]) ⟨lam_ok fun x Q hm ⟨a1, a2⟩ => abad_loop x.1 x.2 hm Q a1 a2, trivial⟩
  · show body Try.prog (gam [(40, [], abad_t)]) (lam [(0, abad_l)]) Try.f54 [.c (.row tAct ks), .clo 40 [.ptr 0 0]] (pbH (nx, ac, ed, sr, (cm, cl), tg, nn)) _
    rw [vc_iabad]
    exact fun hm => ⟨(ks, (nx, ac, ed, sr, (cm, cl), tg, nn)), rfl, hm, fun hf => h (-1) (by rw [hf]; rfl), fun r ht _ => h r (by rw [ht]; simp)⟩
theorem cabad_ok : ∀ args h Q, cabad_t args h Q → FSpec Try.prog 43 args h Q := trH_ok fun ((ks, _) : List Ac × (Unit × Unit) × Unit) (((nx, ac, ed, sr, cm, cl, tg, nn, _), _) : (List (List Int) × List (List Ac) × List (List (List Ac)) × List Int × Bool × List Int × Int × Int × Unit) × Unit) Q h => by
  refine spec_body (Γ := gam [(54, [], iabad_t)]) (gam_ok ⟨iabad_ok, trivial⟩) Try.func43 rfl noLam_ok ?_
  show body Try.prog (gam [(54, [], iabad_t)]) noLam Try.f43 [.c (.row tAct ks), .clo 40 [.ptr 0 0]] (pbH (nx, ac, ed, sr, (cm, cl), tg, nn)) _
  rw [vc_cabad]
  intro r hr
  rw [show decide (r ≥ 0) = decide (0 ≤ r) from rfl, ← hr]
  exact h
end Go.Proofs.Ytloiimhmmcheoaa.Ch
