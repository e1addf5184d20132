/- Chapter 3 (tree): great, Good, Ints, Alike, Node, Depth, proved. No condition. -/
import Derived.Test.YtmncmmdicpcgmaaTFV
namespace Go.Proofs.Ytmncmmdicpcgmaa.Ch
open Go Go.Proofs Go.Proofs.Ytmncmmdicpcgmaa.Sx
set_option linter.unusedVariables false
set_option linter.unusedSimpArgs false

theorem any_take {α : Type} {p : α → Bool} {l : List α} {i : Nat} (h : i < l.length) (ht : (l.take i).any p = false) (hb : p l[i] = false) : (l.take (i + 1)).any p = false := by
  rw [List.take_succ_eq_append_getElem h, List.any_append, ht]; simp [hb]
theorem any_at {α : Type} {p : α → Bool} {l : List α} {i : Nat} (h : i < l.length) (hb : p l[i] = true) : l.any p = true := List.any_eq_true.2 ⟨_, List.getElem_mem h, hb⟩
theorem great_loop (l : List Nd) (hl : l.length ≤ 60) (Q : Exit → SS → Prop) (h1 : l.any greatN = false → Q (.exit 0) (stE 29 [])) (h2 : l.any greatN = true → Q .ret (stR 29 2 (tb true) [])) : W 0 Try.prog (.loop (lp Try.f8 0)) (stGreat l 0) Q := by
  refine W_loopE (stGreat l) (fun i => i ≤ l.length ∧ (l.take i).any greatN = false) (fun i => l.length - i) [0, 3] [] [2] ?_ 0 ⟨Nat.zero_le _, by simp⟩
  rintro i ⟨hi, ht⟩
  refine sx_ok (Λ := noLam) gok0 _ 0 _ _ noLam_ok ?_
  rw [vc_great_l]
  intro _
  refine cond_of (fun hc => ?_) (fun hc => ?_)
  · have hc : i < l.length := by simpa using hc
    have ei : IntKind.i64.wrap ((i : Int) + 1) = ((i + 1 : Nat) : Int) := w64n (n := i + 1) (by omega)
    have h2 := fun h => h2 (any_at hc h)
    have hK := fun h => any_take hc ht h
    rw [Int.toNat_natCast, getD_at hc, ei]
    generalize l[i] = n at *
    have hg : greatN n = (decide (20 < n.2.2.2.length) || decide (200 < n.2.2.1.size)) := rfl
    refine ⟨by omega, by omega, hc, fun hm => ⟨fun _ => ⟨by omega, by omega, trivial⟩, fun _ => ⟨hc, trivial⟩, cond_of (fun hb => ?_) (fun hb => ?_)⟩⟩
    · exact h2 (by rw [hg]; simp only [Bool.or_eq_true, decide_eq_true_eq] at hb ⊢; omega)
    · exact ⟨i + 1, rfl, ⟨hc, hK (by rw [hg]; simp only [Bool.or_eq_false_iff, decide_eq_false_iff_not] at hb ⊢; omega)⟩, by omega⟩
  · have hc : ¬ (i < l.length) := by simpa using hc
    rw [List.take_of_length_le (by omega)] at ht
    exact h1 ht
theorem great_ok : ∀ args h Q, great_t args h Q → FSpec Try.prog 8 args h Q := trH_ok fun (l, _) _ Q h => by
  refine spec_body (Λ := lam [(0, great_l)]) gok0 Try.func8 rfl ?_ ?_
  · exact lokl (l := [(0, lp Try.f8 0)]) ⟨lam_ok fun x Q hm ⟨a1, a2⟩ => great_loop x hm Q a1 a2, trivial⟩
  · show body Try.prog (gam []) (lam [(0, great_l)]) Try.f8 [.c (.row tN l)] [] _
    rw [vc_great]
    intro _
    have hg : greatB l = (decide (60 < l.length) || l.any greatN) := rfl
    refine cond_of (fun hc => ?_) (fun hc => ⟨l, rfl, by simp at hc; omega, fun hf => ?_, fun ht => ?_⟩)
    · have : greatB l = true := by rw [hg]; simp only [Bool.or_eq_true, decide_eq_true_eq] at hc ⊢; left; omega
      dsimp only at h; rw [this] at h; exact h
    · have : greatB l = false := by rw [hg, hf]; simp only [Bool.or_eq_false_iff, decide_eq_false_iff_not] at hc ⊢; exact ⟨by omega, trivial⟩
      dsimp only at h; rw [this] at h; exact h
    · have : greatB l = true := by rw [hg, ht]; simp
      dsimp only at h; rw [this] at h; exact h
theorem good_loop (n : Nd) (hv : Nat) (Q : Exit → SS → Prop) (h1 : (kidsOf n).any (badB hv) = false → Q (.exit 0) (stE 36 [])) (h2 : (kidsOf n).any (badB hv) = true → Q .ret (stR 36 4 (tb false) [])) : W 0 Try.prog (.loop (lp Try.f23 0)) (stGood n hv 0) Q := by
  refine W_loopE (stGood n hv) (fun i => i ≤ n.2.2.2.length ∧ (n.2.2.2.take i).any (badB hv) = false) (fun i => n.2.2.2.length - i) [1, 2, 5] [] [4] ?_ 0 ⟨Nat.zero_le _, by simp⟩
  rintro i ⟨hi, ht⟩
  refine sx_ok (Λ := noLam) gok0 _ 0 _ _ noLam_ok ?_
  rw [vc_good_l]
  intro hm
  simp only [maxI] at hm
  refine cond_of (fun hc => ?_) (fun hc => ?_)
  · have hc : i < n.2.2.2.length := by simpa using hc
    have ei : IntKind.i64.wrap ((i : Int) + 1) = ((i + 1 : Nat) : Int) := w64n (n := i + 1) (by omega)
    have h2 := fun h => h2 (any_at hc h)
    have hK := fun h => any_take hc ht h
    rw [Int.toNat_natCast, getD_at hc, ei]
    generalize n.2.2.2[i] = k at *
    have hg : badB hv k = (decide (k < 0) || decide (k > (hv : Int))) := rfl
    refine ⟨by omega, by omega, hc, fun _ => ⟨by omega, by omega, trivial⟩, fun _ => ⟨hc, trivial⟩, cond_of (fun hb => h2 (by rw [hg]; exact hb)) (fun hb => ⟨i + 1, rfl, ⟨hc, hK (by rw [hg]; exact hb)⟩, by omega⟩)⟩
  · have hc : ¬ (i < n.2.2.2.length) := by simpa using hc
    rw [List.take_of_length_le (by omega)] at ht
    exact h1 ht
theorem good_ok : ∀ args h Q, good_t args h Q → FSpec Try.prog 23 args h Q := trH_ok fun ((n, hv, _) : Nd × Int × Unit) _ Q ⟨h0, h⟩ => by
  have h0 : (0 : Int) ≤ hv := h0
  dsimp only at h
  obtain ⟨hv, rfl⟩ : ∃ m : Nat, hv = (m : Int) := ⟨hv.toNat, by omega⟩
  rw [Int.toNat_natCast] at h
  refine spec_body (Λ := lam [(0, good_l)]) gok0 Try.func23 rfl ?_ ?_
  · exact lokl (l := [(0, lp Try.f23 0)]) ⟨lam_ok fun x Q hm ⟨a1, a2⟩ => good_loop x.1 x.2 Q a1 a2, trivial⟩
  · show body Try.prog (gam []) (lam [(0, good_l)]) Try.f23 [.agg (toCV tN n), ti (hv : Int)] [] _
    rw [vc_good]
    have hg : goodB n hv = (kindB n.1 && !((kidsOf n).any (badB hv))) := rfl
    have hk : kindB n.1 = !(decide (n.1 < 1) || decide (n.1 > 47)) := by
      unfold kindB
      rw [Bool.eq_iff_iff]; simp only [Bool.or_eq_true, Bool.and_eq_true, Bool.not_eq_true', Bool.or_eq_false_iff, Bool.and_eq_false_iff, decide_eq_true_eq, decide_eq_false_iff_not]; omega
    refine cond_of (fun hc => ?_) (fun hc => ?_)
    · rw [hc] at hk; rw [hg, hk] at h; exact h
    · rw [hc] at hk
      rw [hg, hk] at h
      exact ⟨(n, hv), rfl, trivial, fun hf => by rw [hf] at h; exact h, fun ht => by rw [ht] at h; exact h⟩
theorem eq_take {α : Type} {a b : List α} {i : Nat} (h : i < a.length) (h' : i < b.length) (ht : a.take i = b.take i) (he : a[i] = b[i]) : a.take (i + 1) = b.take (i + 1) := by
  rw [List.take_succ_eq_append_getElem h, List.take_succ_eq_append_getElem h', ht, he]
theorem ints_loop (a b : List Int) (hl : a.length = b.length) (Q : Exit → SS → Prop) (h1 : a = b → Q (.exit 0) (stE 26 [])) (h2 : a ≠ b → Q .ret (stR 26 4 (tb false) [])) : W 0 Try.prog (.loop (lp Try.f16 0)) (stInts a b 0) Q := by
  refine W_loopE (stInts a b) (fun i => i ≤ a.length ∧ a.take i = b.take i) (fun i => a.length - i) [0, 1, 5] [] [4] ?_ 0 ⟨Nat.zero_le _, by simp⟩
  rintro i ⟨hi, ht⟩
  refine sx_ok (Λ := noLam) gok0 _ 0 _ _ noLam_ok ?_
  rw [vc_ints_l]
  intro hm
  simp only [maxI] at hm
  refine cond_of (fun hc => ?_) (fun hc => ?_)
  · have hc : i < a.length := by simpa using hc
    have hc' : i < b.length := by omega
    have ei : IntKind.i64.wrap ((i : Int) + 1) = ((i + 1 : Nat) : Int) := w64n (n := i + 1) (by omega)
    rw [Int.toNat_natCast, getD_at hc, getD_at hc', ei]
    refine ⟨by omega, by omega, hc, by omega, by omega, hc', cond_of (fun hb => ?_) (fun hb => ?_)⟩
    · exact h2 (fun e => by subst e; simp at hb)
    · exact ⟨i + 1, rfl, ⟨hc, eq_take hc hc' ht (by simpa using hb)⟩, by omega⟩
  · have hc : ¬ (i < a.length) := by simpa using hc
    rw [List.take_of_length_le (by omega), List.take_of_length_le (by omega)] at ht
    exact h1 ht
theorem ints_ok : ∀ args h Q, ints_t args h Q → FSpec Try.prog 16 args h Q := trH_ok fun ((a, b, _) : List Int × List Int × Unit) _ Q h => by
  dsimp only at h
  refine spec_body (Λ := lam [(0, ints_l)]) gok0 Try.func16 rfl ?_ ?_
  · exact lokl (l := [(0, lp Try.f16 0)]) ⟨lam_ok fun x Q hm ⟨a1, a2⟩ => ints_loop x.1 x.2 hm Q a1 a2, trivial⟩
  · show body Try.prog (gam []) (lam [(0, ints_l)]) Try.f16 [.c (.row tI a), .c (.row tI b)] [] _
    rw [vc_ints]
    intro _ _
    refine cond_of (fun hc => ?_) (fun hc => ⟨(a, b), rfl, by simp at hc; show a.length = b.length; omega, fun e => ?_, fun e => ?_⟩)
    · rw [decide_eq_false (fun e => by subst e; simp at hc)] at h; exact h
    · rw [decide_eq_true e] at h; exact h
    · rw [decide_eq_false e] at h; exact h
theorem alike_loop (a b : Nd) (hl : (kidsOf a).length = (kidsOf b).length) (Q : Exit → SS → Prop) (h1 : kidsOf a = kidsOf b → Q (.exit 0) (stE 52 [])) (h2 : kidsOf a ≠ kidsOf b → Q .ret (stR 52 4 (tb false) [])) : W 0 Try.prog (.loop (lp Try.f14 0)) (stAlike a b 0) Q := by
  have hl : a.2.2.2.length = b.2.2.2.length := hl
  refine W_loopE (stAlike a b) (fun i => i ≤ a.2.2.2.length ∧ a.2.2.2.take i = b.2.2.2.take i) (fun i => a.2.2.2.length - i) [2, 3, 5] [] [4] ?_ 0 ⟨Nat.zero_le _, by simp⟩
  rintro i ⟨hi, ht⟩
  refine sx_ok (Λ := noLam) gok0 _ 0 _ _ noLam_ok ?_
  rw [vc_alike_l]
  intro hm
  simp only [maxI] at hm
  refine cond_of (fun hc => ?_) (fun hc => ?_)
  · have hc : i < a.2.2.2.length := by simpa using hc
    have hc' : i < b.2.2.2.length := by omega
    have ei : IntKind.i64.wrap ((i : Int) + 1) = ((i + 1 : Nat) : Int) := w64n (n := i + 1) (by omega)
    rw [Int.toNat_natCast, getD_at hc, getD_at hc', ei]
    refine ⟨by omega, by omega, hc, by omega, by omega, hc', cond_of (fun hb => ?_) (fun hb => ?_)⟩
    · refine h2 (fun e => ?_)
      have e : a.2.2.2 = b.2.2.2 := e
      have : a.2.2.2[i] = b.2.2.2[i] := by simp only [e]
      rw [this] at hb
      simp at hb
    · exact ⟨i + 1, rfl, ⟨hc, eq_take hc hc' ht (by simpa using hb)⟩, by omega⟩
  · have hc : ¬ (i < a.2.2.2.length) := by simpa using hc
    rw [List.take_of_length_le (by omega), List.take_of_length_le (by omega)] at ht
    exact h1 ht
theorem alike_ok : ∀ args h Q, alike_t args h Q → FSpec Try.prog 14 args h Q := trH_ok fun ((a, b, _) : Nd × Nd × Unit) _ Q h => by
  dsimp only at h
  refine spec_body (Λ := lam [(0, alike_l)]) gok0 Try.func14 rfl ?_ ?_
  · exact lokl (l := [(0, lp Try.f14 0)]) ⟨lam_ok fun x Q hm ⟨a1, a2⟩ => alike_loop x.1 x.2 hm Q a1 a2, trivial⟩
  · show body Try.prog (gam []) (lam [(0, alike_l)]) Try.f14 [.agg (toCV tN a), .agg (toCV tN b)] [] _
    rw [vc_alike]
    obtain ⟨ak, ⟨af, al, ac⟩, ax, aq⟩ := a
    obtain ⟨bk, ⟨bf, bl, bc⟩, bx, bq⟩ := b
    have hs := strEq_iff ax bx
    refine cond_of (fun hc => ?_) (fun hc => ⟨((ak, (af, al, ac), ax, aq), (bk, (bf, bl, bc), bx, bq)), rfl, ?_, fun e => ?_, fun e => ?_⟩)
    · rw [decide_eq_false (fun e => by cases e; rw [hs.2 rfl] at hc; simp at hc)] at h; exact h
    · have hc2 : ((aq.length : Int) != (bq.length : Int)) = false := (Bool.or_eq_false_iff.1 hc).2
      simp at hc2
      show aq.length = bq.length
      omega
    · have e : aq = bq := e
      rw [decide_eq_true (by simp [hs] at hc; obtain ⟨⟨⟨h1, h2⟩, h3⟩, _⟩ := hc; simp_all)] at h; exact h
    · rw [decide_eq_false (fun e' => by cases e'; exact e rfl)] at h; exact h
theorem gokHas : GOK Try.prog (gam gHas) := gam_ok ⟨orNil_ok has0_ok has_ok, clone_ok, trivial⟩
theorem has_row {rows : List Rw} {i : Int} (h : hasB rows.length i = true) (hl : rows.length ≤ 65536) : 0 ≤ IntKind.i64.wrap (i - 1) ∧ IntKind.i64.wrap (i - 1) < (rows.length : Int) ∧ 0 + (IntKind.i64.wrap (i - 1)).toNat < rows.length ∧ rows.getD (0 + (IntKind.i64.wrap (i - 1)).toNat) tR.dft = rowAt rows i ∧ rowAt rows i ∈ rows := by
  simp only [hasB, Bool.and_eq_true, decide_eq_true_eq] at h
  obtain ⟨m1, m2, m3, m4⟩ := rowAt_mem (rows := rows) (k := i) h.1 h.2 hl
  rw [m2, Nat.zero_add]
  exact ⟨by omega, by omega, m3, m4.symm, m1⟩
theorem node_ok : ∀ args h Q, node_t args h Q → FSpec Try.prog 15 args h Q := trH_ok fun ((_, i, _) : Unit × Int × Unit) ((n, _), rows, _) Q ⟨⟨hn, hl, hk⟩, h1, h2⟩ => by
  dsimp only at hn hl hk h1 h2; subst hn
  refine spec_body gokHas Try.func15 rfl noLam_ok ?_
  show body Try.prog (gam gHas) noLam Try.f15 [.c (.ptr 0 0), ti i] (treeH rows) _
  rw [vc_node]
  refine ⟨rfl, hl, cond_of (fun hc => h1 (by simpa using hc)) (fun hc => ?_)⟩
  have hc : hasB rows.length i = true := by simpa using hc
  obtain ⟨e1, e2, e3, e4, e5⟩ := has_row hc hl
  rw [e4]
  exact ⟨e1, e2, e3, by have : (rowAt rows i).1.2.2.2.length ≤ 65536 := hk _ e5; omega, h2 hc⟩
theorem node0_ok : ∀ args h Q, node0_t args h Q → FSpec Try.prog 15 args h Q := trH_ok fun (_, i, _) _ Q h => by
  refine spec_body gokHas Try.func15 rfl noLam_ok ?_
  show body Try.prog (gam gHas) noLam Try.f15 [.c .nilp, ti i] [] _
  rw [vc_node0]; exact h
theorem depth_ok : ∀ args h Q, depth_t args h Q → FSpec Try.prog 18 args h Q := trH_ok fun ((_, i, _) : Unit × Int × Unit) ((n, _), rows, _) Q ⟨⟨hn, hl⟩, h1, h2⟩ => by
  dsimp only at hn hl h1 h2; subst hn
  refine spec_body gokHas Try.func18 rfl noLam_ok ?_
  show body Try.prog (gam gHas) noLam Try.f18 [.c (.ptr 0 0), ti i] (treeH rows) _
  rw [vc_depth]
  refine ⟨rfl, hl, cond_of (fun hc => h1 (by simpa using hc)) (fun hc => ?_)⟩
  have hc : hasB rows.length i = true := by simpa using hc
  obtain ⟨e1, e2, e3, e4, e5⟩ := has_row hc hl
  rw [e4]
  exact ⟨e1, e2, e3, h2 hc⟩
theorem depth0_ok : ∀ args h Q, depth0_t args h Q → FSpec Try.prog 18 args h Q := trH_ok fun (_, i, _) _ Q h => by
  refine spec_body gokHas Try.func18 rfl noLam_ok ?_
  show body Try.prog (gam gHas) noLam Try.f18 [.c .nilp, ti i] [] _
  rw [vc_depth0]; exact h
end Go.Proofs.Ytmncmmdicpcgmaa.Ch
