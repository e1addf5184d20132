/- Chapter 3 (tree): Add, proved. No condition. -/
import Derived.Test.YtmncmmdicpcgmaaTCV
namespace Go.Proofs.Ytmncmmdicpcgmaa.Ch
open Go Go.Proofs Go.Proofs.Ytmncmmdicpcgmaa.Sx
set_option linter.unusedVariables false
set_option linter.unusedSimpArgs false

theorem gokAdd : GOK Try.prog (gam gAdd) := gam_ok ⟨orNil_ok has0_ok has_ok, isKind_ok, contains_ok, clone_ok, trivial⟩
theorem any_false {α : Type} {p : α → Bool} {l : List α} (h : l.any p = false) {x : α} (hx : x ∈ l) : p x = false := by
  cases hp : p x with
  | false => rfl
  | true => rw [List.any_eq_true.2 ⟨x, hx, hp⟩] at h; cases h
theorem good_kids {n : Nd} {hv : Nat} (h : goodB n hv = true) {k : Int} (hk : k ∈ kidsOf n) : 0 ≤ k ∧ k ≤ hv := by
  simp only [goodB, Bool.and_eq_true, Bool.not_eq_true'] at h
  have := any_false h.2 hk
  simp only [badB, Bool.or_eq_false_iff, decide_eq_false_iff_not] at this
  omega
theorem rowAt_mem {rows : List Rw} {k : Int} (h1 : 1 ≤ k) (h2 : k ≤ rows.length) (h3 : rows.length ≤ 65536) : rowAt rows k ∈ rows ∧ IntKind.i64.wrap (k - 1) = k - 1 ∧ (k - 1).toNat < rows.length ∧ rowAt rows k = rows.getD (k - 1).toNat tR.dft := by
  have e : IntKind.i64.wrap (k - 1) = k - 1 := w64 (by omega) (by omega)
  have hl : (k - 1).toNat < rows.length := by omega
  unfold rowAt
  rw [e]
  exact ⟨by rw [getD_at hl]; exact List.getElem_mem hl, rfl, hl, rfl⟩
theorem foldl_take {α β : Type} (f : β → α → β) (b : β) (l : List α) (i : Nat) (h : i < l.length) : (l.take (i + 1)).foldl f b = f ((l.take i).foldl f b) l[i] := by
  rw [List.take_succ_eq_append_getElem h, List.foldl_append]; rfl
/-- What is counted stays small. -/
theorem cnt_small {rows : List Rw} (hr : RowsOk rows) (hl : rows.length ≤ 65536) : ∀ (ks : List Int) (c : Int), (∀ k ∈ ks, 0 ≤ k ∧ k ≤ rows.length) → 0 ≤ c ∧ c ≤ 65537 → 0 ≤ ks.foldl (addCnt rows) c ∧ ks.foldl (addCnt rows) c ≤ 65537
  | [], c, _, h => h
  | k :: r, c, hk, h => by
    refine cnt_small hr hl r _ (fun q hq => hk q (by simp [hq])) ?_
    unfold addCnt
    split
    · exact h
    · rename_i h0
      have h1 := hk k (by simp)
      have := hr _ (rowAt_mem (rows := rows) (k := k) (by omega) h1.2 hl).1
      unfold mn2
      split <;> omega
theorem dep_small {rows : List Rw} (hr : RowsOk rows) (hl : rows.length ≤ 65536) (m : Int) (hm : ∀ r ∈ rows, r.2.2 ≤ m) : ∀ (ks : List Int) (d : Int), (∀ k ∈ ks, 0 ≤ k ∧ k ≤ rows.length) → 0 ≤ d ∧ d ≤ m + 1 → 0 ≤ ks.foldl (addDep rows) d ∧ ks.foldl (addDep rows) d ≤ m + 1
  | [], d, _, h => h
  | k :: r, d, hk, h => by
    refine dep_small hr hl m hm r _ (fun q hq => hk q (by simp [hq])) ?_
    unfold addDep
    split
    · exact h
    · rename_i h0
      have h1 := hk k (by simp)
      have hmem := (rowAt_mem (rows := rows) (k := k) (by omega) h1.2 hl).1
      have := hm _ hmem
      have := hr _ hmem
      unfold mx2
      split <;> omega
theorem add_step (rows : List Rw) (n : Nd) (hk : (kidsOf n).length ≤ 65536) (hl : rows.length ≤ 65536) (hr : RowsOk rows) (hg : goodB n rows.length = true) (i : Nat) (hi : i ≤ (kidsOf n).length) (K : SS → Prop) (Q : Exit → SS → Prop)
    (hK : i < (kidsOf n).length → K (stAdd rows n (((kidsOf n).take (i + 1)).foldl (addCnt rows) 1) (((kidsOf n).take (i + 1)).foldl (addDep rows) 1) (i + 1)))
    (h1 : Q (.exit 1) (stAdd1 rows n ((kidsOf n).foldl (addCnt rows) 1) ((kidsOf n).foldl (addDep rows) 1))) :
    sx Try.prog (gam gAdd) noLam (lp Try.f21 0) 1 (stAdd rows n (((kidsOf n).take i).foldl (addCnt rows) 1) (((kidsOf n).take i).foldl (addDep rows) 1) i) (thenQ (cq 2 [2, 3, 7, 44, 45, 46] K) (cQE 2 [2, 7] [] Q)) := by
  rw [vc_add_l]
  refine cond_of (fun hc => ?_) (fun hc => ?_)
  · have hc : i < (kidsOf n).length := by simpa using hc
    have ei : IntKind.i64.wrap ((i : Int) + 1) = ((i + 1 : Nat) : Int) := w64n (n := i + 1) (by omega)
    have hmem := List.getElem_mem hc
    have hgk := good_kids hg hmem
    have hK := hK hc
    rw [foldl_take _ _ _ _ hc, foldl_take _ _ _ _ hc] at hK
    have hc0 := cnt_small hr hl ((kidsOf n).take i) 1 (fun k hk => good_kids hg (List.mem_of_mem_take hk)) (by omega)
    generalize ((kidsOf n).take i).foldl (addCnt rows) 1 = c at *
    generalize ((kidsOf n).take i).foldl (addDep rows) 1 = d at *
    rw [Int.toNat_natCast, Nat.zero_add, getD_at hc, ei]
    generalize (kidsOf n)[i] = k at *
    refine ⟨by omega, by omega, hc, cond_of (fun h0 => ?_) (fun h0 => ?_)⟩
    · have h0 : k = 0 := by simpa using h0
      rw [show addCnt rows c k = c by unfold addCnt; rw [if_pos h0], show addDep rows d k = d by unfold addDep; rw [if_pos h0]] at hK
      exact hK
    · have h0 : k ≠ 0 := by simpa using h0
      obtain ⟨m1, m2, m3, m4⟩ := rowAt_mem (rows := rows) (k := k) (by omega) hgk.2 hl
      have hrr := hr _ m1
      rw [show addCnt rows c k = mn2 (c + (rowAt rows k).2.1) 65537 by unfold addCnt; rw [if_neg h0], show addDep rows d k = mx2 d ((rowAt rows k).2.2 + 1) by unfold addDep; rw [if_neg h0]] at hK
      rw [m2, Nat.zero_add, ← m4, w64 (x := c + (rowAt rows k).2.1) (by omega) (by omega), w64 (x := (rowAt rows k).2.2 + 1) (by omega) (by omega)]
      exact ⟨by omega, by omega, m3, by omega, by omega, m3, hK⟩
  · have hc : ¬ (i < (kidsOf n).length) := by simpa using hc
    rw [List.take_of_length_le (by omega)]
    exact h1
theorem add_loop (rows : List Rw) (n : Nd) (hk : (kidsOf n).length ≤ 65536) (hl : rows.length ≤ 65536) (hr : RowsOk rows) (hg : goodB n rows.length = true) (Q : Exit → SS → Prop)
    (h1 : Q (.exit 1) (stAdd1 rows n (mkRow rows n).2.1 (mkRow rows n).2.2)) : W 2 Try.prog (.loop (lp Try.f21 0)) (stAdd rows n 1 1 0) Q :=
  W_loopE (N := 2) (P := Try.prog) (body := lp Try.f21 0) (Q := Q) (fun i : Nat => stAdd rows n (((kidsOf n).take i).foldl (addCnt rows) 1) (((kidsOf n).take i).foldl (addDep rows) 1) i) (fun i => i ≤ (kidsOf n).length) (fun i => (kidsOf n).length - i) [2, 3, 7, 44, 45, 46] [2, 7] [] (fun i hi => by
    refine sx_ok (Λ := noLam) gokAdd _ 1 _ _ noLam_ok ?_
    exact add_step rows n hk hl hr hg i hi _ _ (fun h => ⟨i + 1, rfl, h, by omega⟩) h1) 0 (Nat.zero_le _)
theorem add_core (rows : List Rw) (n : Nd) (Q : SV → List HB → Prop) (hl : rows.length ≤ 65536) (hr : RowsOk rows) (hk : (kidsOf n).length ≤ 65536) (h1 : goodB n rows.length = false → Q (.tup [ti 0, ti 1]) (treeH rows))
    (h2 : goodB n rows.length = true → (rows.length = 65536 → Q (.tup [ti 0, ti 3]) (treeH rows)) ∧ (rows.length < 65536 → Q (.tup [ti (rows.length + 1), ti 0]) (treeH (rows ++ [mkRow rows n])))) : FSpec Try.prog 21 [.c (.ptr 0 0), .agg (toCV tN n)] (treeH rows) Q := by
  refine spec_body (Λ := lam [(1, add_l)]) gokAdd Try.func21 rfl ?_ ?_
  · exact lokl (l := [(1, lp Try.f21 0)]) ⟨lam_ok fun x Q ⟨a1, a2, a3, a4⟩ a => add_loop x.1 x.2 a1 a2 a3 a4 Q a, trivial⟩
  · show body Try.prog (gam gAdd) (lam [(1, add_l)]) Try.f21 [.c (.ptr 0 0), .agg (toCV tN n)] (treeH rows) _
    rw [vc_add]
    have hgd : goodB n rows.length = (kindB n.1 && !((kidsOf n).any (badB rows.length))) := rfl
    refine cond_of (fun hb => ?_) (fun hb => ⟨rfl, cond_of (fun hc => ?_) (fun hc => fun _ => ?_)⟩)
    · exact h1 (by rw [hgd]; simp at hb; simp [hb])
    · exact h1 (by rw [hgd]; rw [Bool.false_or] at hc; rw [hc]; simp)
    · rw [Bool.false_or] at hc
      have hg : goodB n rows.length = true := by rw [hgd, hc]; simp at hb; simp [hb]
      obtain ⟨h3, h4⟩ := h2 hg
      refine cond_of (fun hd => ?_) (fun hd => ?_)
      · simp only [Bool.or_eq_true, decide_eq_true_eq] at hd
        exact h3 (by have : n.2.2.2.length ≤ 65536 := hk; omega)
      · simp only [Bool.or_eq_false_iff, decide_eq_false_iff_not] at hd
        have h4 := h4 (by omega)
        refine ⟨by have : n.2.2.2.length ≤ 65536 := hk; omega, fun _ => ⟨(rows, n), rfl, ⟨hk, hl, hr, hg⟩, ?_⟩⟩
        dsimp only
        have e2 : ∀ x : Rw, vw [x] 0 1 = [x] := fun x => rfl
        rw [vw_all, vw_all, e2, List.length_append]
        refine ⟨by omega, by simp, by omega, by simp; omega, fun _ => ?_⟩
        rw [treeH, List.length_append] at h4
        exact h4
theorem add_ok : ∀ args h Q, add_t args h Q → FSpec Try.prog 21 args h Q := trH_ok fun (_, n, _) ((m, _), rows, _) Q ⟨⟨hn, hl, hr, hk⟩, h1, h2⟩ => by
  dsimp only at hn hl hr hk h1 h2; subst hn
  exact add_core rows n Q hl hr hk h1 h2
theorem add0_ok : ∀ args h Q, add0_t args h Q → FSpec Try.prog 21 args h Q := trH_ok fun (_, n, _) _ Q h => by
  refine spec_body gokAdd Try.func21 rfl noLam_ok ?_
  show body Try.prog (gam gAdd) noLam Try.f21 [.c .nilp, .agg (toCV tN n)] [] _
  rw [vc_add0]; exact h
end Go.Proofs.Ytmncmmdicpcgmaa.Ch
