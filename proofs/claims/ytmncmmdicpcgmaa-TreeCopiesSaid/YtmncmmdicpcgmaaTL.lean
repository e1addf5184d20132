/- Chapter 3 (tree): the reference's walk, proved. No condition. -/
import Derived.Test.YtmncmmdicpcgmaaTK
namespace Go.Proofs.Ytmncmmdicpcgmaa.Ch
open Go Go.Proofs Go.Proofs.Ytmncmmdicpcgmaa.Sx
set_option linter.unusedVariables false
set_option linter.unusedSimpArgs false

theorem drop_step (ks : List Int) (t : Nat) (h : t < ks.length) : ks.drop (ks.length - (t + 1)) = ks[ks.length - (t + 1)]'(by omega) :: ks.drop (ks.length - t) := by
  rw [List.drop_eq_getElem_cons (by omega)]
  congr 2; omega
theorem rwalkIn_loop (l : List Nd) (out todo : List Int) (n : Nat) (ks : List Int) (hn : n ≤ todo.length) (hk : ks.length ≤ 65536) (hm : n ≤ 100000000) (Q : Exit → SS → Prop)
    (hq : ∀ td : List Int, td.take (n + (ks.filter Ch.part).length) = todo.take n ++ (ks.filter Ch.part).reverse → n + (ks.filter Ch.part).length ≤ td.length → Q (.exit 2) (stW l out td 0 (n + (ks.filter Ch.part).length))) :
    W 0 Try.prog (.loop (lpIn (lp Try.f10 0) 0 0)) (stWI l out todo n ks ((ks.length : Int) - 1)) Q := by
  have h := W_loopE (N := 0) (P := Try.prog) (body := lpIn (lp Try.f10 0) 0 0) (Q := Q) (fun x : Nat × List Int × Nat => stWI l out x.2.1 x.2.2 ks ((ks.length : Int) - 1 - (x.1 : Int)))
    (fun x => x.1 ≤ ks.length ∧ x.2.2 ≤ x.2.1.length ∧ x.2.2 = n + ((ks.drop (ks.length - x.1)).filter Ch.part).length ∧ x.2.1.take x.2.2 = todo.take n ++ ((ks.drop (ks.length - x.1)).filter Ch.part).reverse) (fun x => ks.length - x.1) [0, 5, 6, 8, 9] [0, 5, 6] [] (fun (t, td, m) ⟨a1, a2, a3, a4⟩ => by
    dsimp only at a1 a2 a3 a4 ⊢
    refine sx_ok (Λ := noLam) (gam_ok (l := gCount) ⟨rcount_ok, trivial⟩) _ 2 _ _ noLam_ok ?_
    rw [vc_wi]
    refine cond_of (fun hc => ?_) (fun hc => ?_)
    · have hc : t < ks.length := by simp at hc; omega
      have hs := drop_step ks t hc
      have ej : ((ks.length : Int) - 1 - (t : Int)).toNat = ks.length - (t + 1) := by omega
      have ew : IntKind.i64.wrap ((ks.length : Int) - 1 - (t : Int) - 1) = (ks.length : Int) - 1 - ((t + 1 : Nat) : Int) := by rw [w64 (by omega) (by omega)]; omega
      have hfl : ((ks.drop (ks.length - t)).filter Ch.part).length ≤ ks.length := by
        refine Nat.le_trans (List.length_filter_le _ _) ?_
        rw [List.length_drop]; omega
      have hvl : (vw td 0 m).length = m := vw_len (by omega)
      have hvt : vw td 0 m = td.take m := by simp [vw]
      rw [ej, ew, getD_at (show ks.length - (t + 1) < ks.length by omega)]
      generalize ks[ks.length - (t + 1)]'(by omega) = k at *
      refine ⟨by omega, by omega, by omega, cond_of (fun hp => ?_) (fun hp => ?_)⟩
      · have hp : Ch.part k = true := by unfold Ch.part; simpa using hp
        rw [List.length_append, hvl]
        refine ⟨by omega, by omega, by omega, by simp, by omega, by simp only [List.length_cons, List.length_nil]; omega, (t + 1, vw td 0 m ++ [k], m + 1), by simp only [List.length_append, hvl, List.length_cons, List.length_nil], ⟨hc, ?_, ?_, ?_⟩, by dsimp only; omega⟩
        · rw [List.length_append, hvl]; simp
        · rw [hs, List.filter_cons, if_pos hp, List.length_cons]; show m + 1 = _; omega
        · dsimp only
          rw [hs, List.filter_cons, if_pos hp, List.reverse_cons, ← List.append_assoc, ← a4, ← hvt]
          exact List.take_of_length_le (by rw [List.length_append, hvl]; simp)
      · have hp : ¬ (Ch.part k = true) := by unfold Ch.part; simpa using hp
        refine ⟨(t + 1, td, m), rfl, ⟨hc, a2, ?_, ?_⟩, by dsimp only; omega⟩
        · rw [hs, List.filter_cons, if_neg hp]; exact a3
        · rw [hs, List.filter_cons, if_neg hp]; exact a4
    · have hc : ¬ (t < ks.length) := by simp at hc; omega
      rw [show ks.length - t = 0 by omega, List.drop_zero] at a3 a4
      subst a3
      exact hq td a4 a2) (0, todo, n) ⟨Nat.zero_le _, hn, by simp, by simp⟩
  simpa using h
theorem rwalkIn_ok : LOK 0 Try.prog (lam [(2, rwalkIn_l)]) [(2, lpIn (lp Try.f10 0) 0 0)] := lokl (l := [(2, lpIn (lp Try.f10 0) 0 0)]) ⟨lam_ok fun d Q ⟨a1, a2, a3⟩ a => rwalkIn_loop d.l d.out d.todo d.n d.ks a1 a2 a3 Q a, trivial⟩
theorem flat_len {l : List Nd} (hv : Valid l) : ∀ xs : List Int, (∀ k ∈ xs, 1 ≤ k ∧ k ≤ l.length) → xs.length ≤ (xs.flatMap (pre l)).length
  | [], _ => by simp
  | k :: r, h => by
    have h1 := h k (by simp)
    have := flat_len hv r (fun q hq => h q (by simp [hq]))
    rw [List.flatMap_cons, List.length_append, pre_eq hv h1.1 h1.2]
    simp only [List.length_cons]; omega
theorem rwalk_loop (l : List Nd) (i : Int) (hi : inOk l) (h1 : 1 ≤ i) (h2 : i ≤ l.length) (hc : cnt l i ≤ 65536) (Q : Exit → SS → Prop) (hq : Q (.exit 0) (stWX (pre l i))) : W 0 Try.prog (.loop (lp Try.f10 0)) (stW l [] [i] 0 1) Q := by
  have hl := hi.2.1
  have hv := hi.1
  unfold cnt at hc
  refine W_loopE (N := 0) (P := Try.prog) (body := lp Try.f10 0) (Q := Q) (fun x : List Int × List Int × Nat => stW l x.1 x.2.1 0 x.2.2)
    (fun x => x.2.2 ≤ x.2.1.length ∧ (∀ k ∈ x.2.1.take x.2.2, 1 ≤ k ∧ k ≤ l.length) ∧ x.1 ++ (x.2.1.take x.2.2).reverse.flatMap (pre l) = pre l i) (fun x => (pre l i).length - x.1.length) [0, 5, 6] [5] [] (fun (out, todo, n) ⟨a1, a2, a3⟩ => ?_) ([], [i], 1) ⟨by simp, by simp; omega, by simp⟩
  dsimp only at a1 a2 a3 ⊢
  have hfl := flat_len hv (todo.take n).reverse (fun k hk => a2 k (List.mem_reverse.1 hk))
  have hlen := congrArg List.length a3
  rw [List.length_append] at hlen
  rw [List.length_reverse, List.length_take, Nat.min_eq_left a1] at hfl
  refine sx_ok (Λ := lam [(2, rwalkIn_l)]) (gam_ok (l := gCount) ⟨rcount_ok, trivial⟩) _ 0 _ _ rwalkIn_ok ?_
  rw [vc_w]
  intro hm
  refine cond_of (fun hc' => ?_) (fun hc' => ?_)
  · have hn : 0 < n := by simp at hc'; omega
    have ew : IntKind.i64.wrap ((n : Int) - 1) = ((n - 1 : Nat) : Int) := by rw [w64 (by omega) (by omega)]; omega
    rw [ew, Int.toNat_natCast, Nat.zero_add, getD_at (show n - 1 < todo.length by omega), vw_all]
    have ht : todo.take n = todo.take (n - 1) ++ [todo[n - 1]'(by omega)] := by
      have := List.take_succ_eq_append_getElem (l := todo) (i := n - 1) (by omega)
      rwa [show n - 1 + 1 = n by omega] at this
    rw [ht] at a2 a3
    generalize todo[n - 1]'(by omega) = k at *
    have hk := a2 k (by simp)
    have hkl : (k - 1).toNat < l.length := by omega
    have ek : IntKind.i64.wrap (k - 1) = k - 1 := w64 (by omega) (by omega)
    have hnd : l.getD (k - 1).toNat tN.dft = ndAt l k := rfl
    have hkids : (kidsOf (ndAt l k)).length ≤ 65536 := by
      refine hi.2.2 _ ?_
      unfold ndAt
      rw [getD_at hkl]
      exact List.getElem_mem _
    rw [ek, hnd, show (ndAt l k).snd.snd.snd = kidsOf (ndAt l k) from rfl]
    rw [List.reverse_append, List.reverse_singleton, List.singleton_append, List.flatMap_cons, pre_eq hv hk.1 hk.2] at a3
    have hol : (out ++ [k]).length = out.length + 1 := by simp
    rw [hol]
    refine fun _ => ⟨by omega, by omega, by omega, fun _ => ⟨by omega, by omega, by simp, by omega, by omega, by omega, by omega, hkl, fun _ => ⟨⟨l, out ++ [k], todo, n - 1, kidsOf (ndAt l k)⟩, ?_, ⟨by dsimp only; omega, hkids, by dsimp only; omega⟩, fun td b1 b2 => ?_⟩⟩⟩
    · dsimp only
      rw [hol, show IntKind.i64.wrap (((kidsOf (ndAt l k)).length : Int) - 1) = ((kidsOf (ndAt l k)).length : Int) - 1 from w64 (by omega) (by omega)]
      rfl
    · dsimp only at b1 b2 ⊢
      have hsub : (out ++ [k]).length ≤ (pre l i).length := by
        rw [← a3, List.length_append, List.length_append]
        simp only [List.length_append, List.length_cons, List.length_nil]; omega
      refine ⟨(out ++ [k], td, n - 1 + ((kidsOf (ndAt l k)).filter Ch.part).length), rfl, ⟨b2, ?_, ?_⟩, by dsimp only; omega⟩
      · dsimp only
        rw [b1]
        intro q hq
        rcases List.mem_append.1 hq with hq | hq
        · exact a2 q (by simp [hq])
        · rw [List.mem_reverse, List.mem_filter] at hq
          have h3 := kid_lt hv hk.1 hk.2 hq.1
          have h4 : 0 < q := by simpa [Ch.part] using hq.2
          omega
      · dsimp only
        rw [b1, List.reverse_append, List.reverse_reverse, List.flatMap_append, ← a3]
        simp
  · have hn : n = 0 := by simp at hc'; omega
    subst hn
    simp at a3
    subst a3
    exact hq
theorem rwalk_ok : ∀ args h Q, rwalk_t args h Q → FSpec Try.prog 10 args h Q := trH_ok fun ((l, i, _) : List Nd × Int × Unit) _ Q ⟨⟨hi, h1⟩, h2, h3⟩ => by
  dsimp only at hi h2 h3
  have hl := hi.2.1
  refine spec_body (Λ := lam [(0, rwalk_l)]) (gam_ok (l := gCount) ⟨rcount_ok, trivial⟩) Try.func10 rfl ?_ ?_
  · exact lokl (l := [(0, lp Try.f10 0)]) ⟨lam_ok fun x Q ⟨a1, a2, a3, a4⟩ a => rwalk_loop x.1 x.2 a1 a2 a3 a4 Q a, trivial⟩
  · show body Try.prog (gam gCount) (lam [(0, rwalk_l)]) Try.f10 [.c (.row tN l), ti i] [] _
    rw [vc_rwalk]
    refine cond_of (fun hc => ?_) (fun hc => ?_)
    · have hb : hasB l.length i = false := by
        simp only [hasB, Bool.or_eq_true, decide_eq_true_eq, Bool.and_eq_false_iff, decide_eq_false_iff_not] at hc ⊢; omega
      rw [hb] at h2; exact h2 rfl
    · simp only [Bool.or_eq_false_iff, decide_eq_false_iff_not] at hc
      have hi1 : 1 ≤ i := by omega
      have hi2 : i ≤ (l.length : Int) := by omega
      have hb : hasB l.length i = true := by
        simp only [hasB, Bool.and_eq_true, decide_eq_true_eq]; omega
      rw [hb, Bool.true_and] at h2 h3
      refine ⟨⟨hi, hi1, hi2⟩, cond_of (fun hg => h2 ?_) (fun hg => ⟨(l, i), rfl, ⟨hi, hi1, hi2, ?_⟩, h3 ?_⟩)⟩
      · have hg : gC l i > 65536 := by simpa using hg
        unfold gC at hg; simp; omega
      · have hg : ¬ (gC l i > 65536) := by simpa using hg
        unfold gC at hg; show cnt l i ≤ 65536; omega
      · have hg : ¬ (gC l i > 65536) := by simpa using hg
        unfold gC at hg; simp; omega
end Go.Proofs.Ytmncmmdicpcgmaa.Ch
