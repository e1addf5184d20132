/- Chapter 3 (tree): walk, Walk, laid, proved. No condition. -/
import Derived.Test.YtmncmmdicpcgmaaTG
namespace Go.Proofs.Ytmncmmdicpcgmaa.Ch
open Go Go.Proofs Go.Proofs.Ytmncmmdicpcgmaa.Sx
set_option linter.unusedVariables false
set_option linter.unusedSimpArgs false

theorem nodes_tree : ∀ l : List Nd, nodes (treeOf l) = l := by
  refine snoc_ind rfl (fun l a ih => ?_)
  rw [treeOf_snoc]
  unfold nodes at ih ⊢
  rw [List.map_append, ih]
  rfl
theorem nodes_len (rows : List Rw) : (nodes rows).length = rows.length := by simp [nodes]
theorem tree_ok {l : List Nd} (hv : Valid l) (hl : l.length ≤ 65536) : TreeOk (treeOf l) := ⟨by rw [nodes_tree]; exact hv, by rw [nodes_tree], by rw [treeOf_len]; exact hl⟩
theorem tree_at {rows : List Rw} (h : TreeOk rows) {i : Int} (h1 : 1 ≤ i) (h2 : i ≤ rows.length) : rowAt rows i = (ndAt (nodes rows) i, min (cnt (nodes rows) i : Int) 65537, dep (nodes rows) i) := by
  obtain ⟨hv, he, hl⟩ := h
  have := treeOf_at hv (by rw [nodes_len]; exact hl) i h1 (by rw [nodes_len]; exact h2)
  rw [← he] at this
  exact this
noncomputable def flat (l : List Nd) (ks : List Int) : List Int := (ks.filter Ch.part).flatMap (pre l)
theorem flat_succ (l : List Nd) (ks : List Int) (j : Nat) (h : j < ks.length) : flat l (ks.take (j + 1)) = flat l (ks.take j) ++ (if 0 < ks[j] then pre l ks[j] else []) := by
  unfold flat
  rw [List.take_succ_eq_append_getElem h, List.filter_append, List.flatMap_append]
  congr 1
  by_cases hp : 0 < ks[j]
  · simp [Ch.part, hp]
  · simp [Ch.part, hp]
theorem flat_le (l : List Nd) (ks : List Int) (j : Nat) : (flat l (ks.take j)).length ≤ (flat l ks).length := by
  have : flat l ks = flat l (ks.take j) ++ flat l (ks.drop j) := by
    unfold flat
    rw [← List.flatMap_append, ← List.filter_append, List.take_append_drop]
  rw [this, List.length_append]; omega
theorem walk_step2 (m : Nat) (hm : ∀ args h Q, walks_t m args h Q → FSpec Try.prog 27 args h Q) (rows : List Rw) (out ks : List Int) (ht : TreeOk rows) (hlen : ks.length ≤ maxI) (hk : ∀ k ∈ ks, k.toNat < m ∧ 0 ≤ k ∧ k ≤ rows.length) (hb : out.length + (flat (nodes rows) ks).length ≤ 1000000) (Q : Exit → SS → Prop)
    (h1 : Q (.exit 0) (stWalk1 rows (out ++ flat (nodes rows) ks))) : W 2 Try.prog (.loop (lp Try.f27 0)) (stWalk rows out ks 0) Q := by
  have h := W_loopE (N := 2) (P := Try.prog) (body := lp Try.f27 0) (Q := Q) (fun j : Nat => stWalk rows (out ++ flat (nodes rows) (ks.take j)) ks j) (fun j => j ≤ ks.length) (fun j => ks.length - j) [0, 1, 22, 23, 24] [1] [] (fun j hj => by
    refine sx_ok (Λ := noLam) (gam_ok (l := gWalk m) ⟨hm, orNil_ok has0_ok has_ok, trivial⟩) _ 0 _ _ noLam_ok ?_
    rw [vc_walk2_l]
    simp only [maxI] at hlen
    refine cond_of (fun hc => ?_) (fun hc => ?_)
    · have hc : j < ks.length := by simpa using hc
      have ei : IntKind.i64.wrap ((j : Int) + 1) = ((j + 1 : Nat) : Int) := w64n (n := j + 1) (by omega)
      have hs := flat_succ (nodes rows) ks j hc
      have hle := flat_le (nodes rows) ks (j + 1)
      have hkj := hk _ (List.getElem_mem hc)
      rw [Int.toNat_natCast, getD_at hc, ei]
      refine ⟨by omega, by omega, hc, cond_of (fun hp => ?_) (fun hp => ?_)⟩
      · have hp : 0 < ks[j] := by simpa using hp
        rw [if_pos hp] at hs
        rw [hs, List.length_append] at hle
        refine ⟨⟨rfl, rfl, ht, by omega, hkj.2.2, hkj.1, by rw [List.length_append]; unfold cnt; omega⟩, j + 1, ?_, hc, by omega⟩
        rw [hs, ← List.append_assoc]; rfl
      · have hp : ¬ (0 < ks[j]) := by simpa using hp
        rw [if_neg hp, List.append_nil] at hs
        exact ⟨j + 1, by rw [hs]; rfl, hc, by omega⟩
    · have hc : ¬ (j < ks.length) := by simpa using hc
      rw [List.take_of_length_le (by omega)]
      exact h1) 0 (Nat.zero_le _)
  simpa [flat] using h
theorem walk_step3 (m : Nat) (hm : ∀ args h Q, walks_t m args h Q → FSpec Try.prog 27 args h Q) (rows : List Rw) (out ks : List Int) (ht : TreeOk rows) (hlen : ks.length ≤ maxI) (hk : ∀ k ∈ ks, k.toNat < m ∧ 0 ≤ k ∧ k ≤ rows.length) (hb : out.length + (flat (nodes rows) ks).length ≤ 1000000) (Q : Exit → SS → Prop)
    (h1 : Q (.exit 0) (stWalk1 rows (out ++ flat (nodes rows) ks))) : W 3 Try.prog (.loop (lp Try.f27 0)) (stWalk rows out ks 0) Q := by
  have h := W_loopE (N := 3) (P := Try.prog) (body := lp Try.f27 0) (Q := Q) (fun j : Nat => stWalk rows (out ++ flat (nodes rows) (ks.take j)) ks j) (fun j => j ≤ ks.length) (fun j => ks.length - j) [0, 1, 22, 23, 24] [1] [] (fun j hj => by
    refine sx_ok (Λ := noLam) (gam_ok (l := gWalk m) ⟨hm, orNil_ok has0_ok has_ok, trivial⟩) _ 0 _ _ noLam_ok ?_
    rw [vc_walk3_l]
    simp only [maxI] at hlen
    refine cond_of (fun hc => ?_) (fun hc => ?_)
    · have hc : j < ks.length := by simpa using hc
      have ei : IntKind.i64.wrap ((j : Int) + 1) = ((j + 1 : Nat) : Int) := w64n (n := j + 1) (by omega)
      have hs := flat_succ (nodes rows) ks j hc
      have hle := flat_le (nodes rows) ks (j + 1)
      have hkj := hk _ (List.getElem_mem hc)
      rw [Int.toNat_natCast, getD_at hc, ei]
      refine ⟨by omega, by omega, hc, cond_of (fun hp => ?_) (fun hp => ?_)⟩
      · have hp : 0 < ks[j] := by simpa using hp
        rw [if_pos hp] at hs
        rw [hs, List.length_append] at hle
        refine ⟨⟨rfl, rfl, ht, by omega, hkj.2.2, hkj.1, by rw [List.length_append]; unfold cnt; omega⟩, j + 1, ?_, hc, by omega⟩
        rw [hs, ← List.append_assoc]; rfl
      · have hp : ¬ (0 < ks[j]) := by simpa using hp
        rw [if_neg hp, List.append_nil] at hs
        exact ⟨j + 1, by rw [hs]; rfl, hc, by omega⟩
    · have hc : ¬ (j < ks.length) := by simpa using hc
      rw [List.take_of_length_le (by omega)]
      exact h1) 0 (Nat.zero_le _)
  simpa [flat] using h
theorem walk_facts {m : Nat} {rows : List Rw} {out : List Int} {i : Int} (hw : walkO (m + 1) rows i out) : (0 ≤ IntKind.i64.wrap (i - 1) ∧ IntKind.i64.wrap (i - 1) < (rows.length : Int) ∧ 0 + (IntKind.i64.wrap (i - 1)).toNat < rows.length ∧ rows.getD (0 + (IntKind.i64.wrap (i - 1)).toNat) tR.dft = rowAt rows i) ∧
    pre (nodes rows) i = i :: flat (nodes rows) (kidsOf (rowAt rows i).1) ∧ (∀ k ∈ kidsOf (rowAt rows i).1, k.toNat < m ∧ 0 ≤ k ∧ k ≤ (rows.length : Int)) ∧ (out ++ [i]).length + (flat (nodes rows) (kidsOf (rowAt rows i).1)).length ≤ 1000000 := by
  obtain ⟨ht, h1, h2, h3, h4⟩ := hw
  obtain ⟨e1, e2, e3, e4, e5⟩ := has_row (rows := rows) (i := i) (by simp [hasB, h1, h2]) ht.2.2
  have hat := tree_at ht h1 h2
  have hpre := pre_eq (l := nodes rows) ht.1 h1 (by rw [nodes_len]; exact h2)
  have hpre' : pre (nodes rows) i = i :: flat (nodes rows) (kidsOf (rowAt rows i).1) := by rw [hpre, hat]; rfl
  unfold cnt at h4
  rw [hpre', List.length_cons] at h4
  refine ⟨⟨e1, e2, e3, e4⟩, hpre', fun k hk => ?_, by rw [List.length_append]; simp only [List.length_cons, List.length_nil]; omega⟩
  rw [hat] at hk
  have := kid_lt (l := nodes rows) ht.1 h1 (by rw [nodes_len]; exact h2) hk
  omega
theorem walk_ok : ∀ (m : Nat) args h Q, walks_t m args h Q → FSpec Try.prog 27 args h Q := by
  intro m
  induction m with
  | zero => exact orLen_ok (trH_ok fun _ ((n, _), rows, _) Q ⟨⟨_, hw⟩, _⟩ => by obtain ⟨_, _, _, h, _⟩ := hw; omega) (trH_ok fun _ ((n, _), rows, out, _) Q ⟨⟨_, _, hw⟩, _⟩ => by obtain ⟨_, _, _, h, _⟩ := hw; omega)
  | succ m ih =>
    have hΓ : GOK Try.prog (gam (gWalk m)) := gam_ok ⟨ih, orNil_ok has0_ok has_ok, trivial⟩
    have hΛ2 : LOK 2 Try.prog (lam [(0, walk2_l m)]) (loopL Try.f27) := lokl (l := [(0, lp Try.f27 0)]) ⟨lam_ok fun x Q ⟨a1, a2, a3, a4⟩ a => walk_step2 m ih x.1 x.2.1 x.2.2 a1 a2 a3 a4 Q a, trivial⟩
    have hΛ3 : LOK 3 Try.prog (lam [(0, walk3_l m)]) (loopL Try.f27) := lokl (l := [(0, lp Try.f27 0)]) ⟨lam_ok fun x Q ⟨a1, a2, a3, a4⟩ a => walk_step3 m ih x.1 x.2.1 x.2.2 a1 a2 a3 a4 Q a, trivial⟩
    refine orLen_ok (trH_ok fun ((_, _, i, _) : Unit × Unit × Int × Unit) ((n, _), rows, _) Q ⟨⟨hn, hw⟩, h⟩ => ?_) (trH_ok fun ((_, l, i, _) : Unit × Nat × Int × Unit) ((n, _), rows, out, _) Q ⟨⟨hn, ho, hw⟩, h⟩ => ?_)
    · dsimp only at hn hw h
      subst hn
      refine spec_body hΓ Try.func27 rfl hΛ2 ?_
      show body Try.prog (gam (gWalk m)) (lam [(0, walk2_l m)]) Try.f27 [.c (.ptr 0 0), .c .nils, ti i] (treeH rows) _
      rw [vc_walkN]
      obtain ⟨⟨e1, e2, e3, e4⟩, f1, f2, f3⟩ := walk_facts hw
      rw [e4]
      refine ⟨by simp, by simp, e1, e2, e3, fun hl => ⟨(rows, [i], kidsOf (rowAt rows i).1), rfl, ⟨hw.1, hl, f2, f3⟩, ?_⟩⟩
      dsimp only
      rw [f1] at h
      exact h
    · dsimp only at hn ho hw h
      subst hn ho
      refine spec_body hΓ Try.func27 rfl hΛ3 ?_
      show body Try.prog (gam (gWalk m)) (lam [(0, walk3_l m)]) Try.f27 [.c (.ptr 0 0), .c (.view tI 2 0 out.length), ti i] [.cells 59 [.view tR 1 0 rows.length], .row 56 tR rows, .row 3 tI out] _
      rw [vc_walk]
      obtain ⟨⟨e1, e2, e3, e4⟩, f1, f2, f3⟩ := walk_facts hw
      rw [vw_all, e4]
      have ho : 0 + out.length ≤ out.length := by omega
      have hs : (out ++ [i]).length * 8 ≤ 140737488355328 := by omega
      refine ⟨by simp, ho, hs, e1, e2, e3, fun hl => ⟨(rows, out ++ [i], kidsOf (rowAt rows i).1), rfl, ⟨hw.1, hl, f2, f3⟩, ?_⟩⟩
      dsimp only
      rw [f1, show out ++ i :: flat (nodes rows) (kidsOf (rowAt rows i).1) = out ++ [i] ++ flat (nodes rows) (kidsOf (rowAt rows i).1) by simp] at h
      exact h
theorem walkT_ok : ∀ args h Q, walkT_t args h Q → FSpec Try.prog 17 args h Q := trH_ok fun ((_, i, _) : Unit × Int × Unit) ((n, _), rows, _) Q ⟨⟨hn, ht⟩, h1, h2⟩ => by
  dsimp only at hn h1 h2
  subst hn
  refine spec_body (gam_ok (l := gWalk (i.toNat + 1)) ⟨walk_ok _, orNil_ok has0_ok has_ok, trivial⟩) Try.func17 rfl noLam_ok ?_
  show body Try.prog (gam (gWalk (i.toNat + 1))) noLam Try.f17 [.c (.ptr 0 0), ti i] (treeH rows) _
  rw [vc_walkT]
  refine ⟨rfl, ht.2.2, fun hh => ?_, fun hh => ?_, ?_⟩
  · have := has_row (rows := rows) (i := i) (by simpa using hh) ht.2.2; exact ⟨this.1, this.2.1, trivial⟩
  · have := has_row (rows := rows) (i := i) (by simpa using hh) ht.2.2; exact ⟨this.2.2.1, trivial⟩
  · cases hh : hasB rows.length i with
    | false => rw [hh] at h1; exact h1 rfl
    | true =>
      obtain ⟨e1, e2, e3, e4, e5⟩ := has_row hh ht.2.2
      rw [hh] at h1 h2
      have hi := hh
      simp only [hasB, Bool.and_eq_true, decide_eq_true_eq] at hi
      rw [e4, tree_at ht hi.1 hi.2]
      dsimp only
      rw [Bool.true_and] at h1 h2
      refine cond_of (fun hc => h1 ?_) (fun hc => ⟨⟨rfl, ht, hi.1, hi.2, by omega, ?_⟩, h2 ?_⟩)
      · simp at hc ⊢; omega
      · simp at hc; simp only [List.length_nil]; omega
      · simp at hc ⊢; omega
theorem walkT0_ok : ∀ args h Q, walkT0_t args h Q → FSpec Try.prog 17 args h Q := trH_ok fun (_, i, _) _ Q h => by
  refine spec_body (gam_ok (l := gWalk 0) ⟨walk_ok _, orNil_ok has0_ok has_ok, trivial⟩) Try.func17 rfl noLam_ok ?_
  show body Try.prog (gam (gWalk 0)) noLam Try.f17 [.c .nilp, ti i] [] _
  rw [vc_walkT0]; exact h
theorem addS_ok : ∀ args h Q, addS_t args h Q → FSpec Try.prog 21 args h Q := trH_ok fun (_, n, _) ((m, _), rows, _) Q ⟨⟨hn, hl, hr, hk⟩, h1, h2⟩ => by
  dsimp only at hn hl hr hk h1 h2
  subst hn
  exact add_core rows n Q (by omega) hr hk h1 (fun hg => ⟨fun h => by omega, fun _ => h2 hg⟩)
end Go.Proofs.Ytmncmmdicpcgmaa.Ch
