/- Chapter 22 (reach): reach.Code, flow.Comes, over the abstract machine. No condition. -/
import Derived.Test.YtckijackbldkhaaU
namespace Go.Proofs.Ytckijackbldkhaa.Ch
open Go Go.Proofs Go.Proofs.Ytckijackbldkhaa.Sx
set_option linter.unusedVariables false
set_option linter.unusedSimpArgs false

/-- Along the inner loop: the list is the first n of a row. -/
structure InvI (out0 : List Bool) (pre l : List Int) (j : Nat) (y : List Bool × List Int × Nat) : Prop where
  hn : y.2.2 ≤ y.2.1.length
  he : (y.1, y.2.1.take y.2.2) = (l.take j).foldl visit (out0, pre)
  hj : j ≤ l.length
theorem inner_bd {out0 : List Bool} {pre l : List Int} {j : Nat} {y : List Bool × List Int × Nat} (h : InvI out0 pre l j y) (hl : inR out0.length l) (hc : pre.length + cntF out0 ≤ 2000) : y.1.length = out0.length ∧ y.2.2 ≤ 2000 := by
  have e1 : y.1 = ((l.take j).foldl visit (out0, pre)).1 := congrArg Prod.fst h.he
  have e2 : y.2.1.take y.2.2 = ((l.take j).foldl visit (out0, pre)).2 := congrArg Prod.snd h.he
  have h1 := (visits_sum (l.take j) (out0, pre) (fun k hk => hl k (List.mem_of_mem_take hk))).1
  have h2 := congrArg List.length e2
  rw [List.length_take, Nat.min_eq_left h.hn] at h2
  refine ⟨by rw [e1, visits_len], ?_⟩
  have h1 : _ = pre.length + cntF out0 := h1
  omega
theorem inner_next {out0 : List Bool} {pre l : List Int} {j : Nat} {s : List Bool} {xs : List Int} {n : Nat} (h : InvI out0 pre l j (s, xs, n)) (hj : j < l.length) :
    (s.getD (l.getD j 0).toNat false = true → InvI out0 pre l (j + 1) (s, xs, n)) ∧ (s.getD (l.getD j 0).toNat false = false → InvI out0 pre l (j + 1) (s.set (l.getD j 0).toNat true, vw xs 0 n ++ [l.getD j 0], (vw xs 0 n ++ [l.getD j 0]).length)) := by
  have ev : vw xs 0 n = xs.take n := by unfold vw; rw [List.drop_zero]
  refine ⟨fun hs => ⟨h.hn, ?_, hj⟩, fun hs => ⟨Nat.le_refl _, ?_, hj⟩⟩
  · rw [take_fold (d := 0) hj, ← h.he]
    show (s, xs.take n) = visit (s, xs.take n) _
    unfold visit
    rw [if_pos hs]
  · rw [take_fold (d := 0) hj, ← h.he]
    show (s.set _ true, List.take _ _) = visit (s, xs.take n) _
    unfold visit
    rw [if_neg (by rw [hs]; decide), List.take_length, ev]
theorem mem_compUp (d : Array Int) (x : Int) : ∀ m, x ∈ Lib.compactUpTo d m ↔ ∃ j, j < m ∧ d[j]! = x
  | 0 => by
    have : Lib.compactUpTo d 0 = [] := rfl
    rw [this]
    exact ⟨fun h => by simp at h, fun ⟨j, hj, _⟩ => absurd hj (Nat.not_lt_zero _)⟩
  | m + 1 => by
    rw [Lib.compactUpTo_succ, List.mem_append, mem_compUp d x m]
    constructor
    · rintro (⟨j, hj, e⟩ | h)
      · exact ⟨j, by omega, e⟩
      · split at h
        · exact ⟨m, by omega, (List.mem_singleton.1 h).symm⟩
        · simp at h
    · rintro ⟨j, hj, e⟩
      by_cases hjm : j = m
      · subst hjm
        by_cases hk : Lib.keeps d j = true
        · exact .inr (by rw [if_pos hk]; simp [e])
        · have h0 : 0 < j := by
            rcases Nat.eq_zero_or_pos j with h0 | h0
            · subst h0; exact absurd (Lib.keeps_lt_one d 0 (by decide)) hk
            · exact h0
          by_cases hd : d[j]! = d[j - 1]!
          · exact .inl ⟨j - 1, by omega, by rw [← hd]; exact e⟩
          · exact absurd (Lib.keeps_pos hd) hk
      · exact .inl ⟨j, by omega, e⟩
theorem mem_comp (l : List Int) (x : Int) : x ∈ compV l ↔ x ∈ l := by
  unfold compV Lib.compact
  rw [mem_compUp]
  constructor
  · rintro ⟨j, hj, rfl⟩
    rw [getElem!_pos _ _ (by simpa using hj)]
    simp
  · intro h
    obtain ⟨j, hj, rfl⟩ := List.getElem_of_mem h
    exact ⟨j, hj, by rw [getElem!_pos _ _ (by simpa using hj)]; simp⟩
theorem mem_next (i : Ins) (pc : Int) (x : Int) : x ∈ nextV i pc ↔ inL [23, 26] i.op = false ∧ x ∈ nextR i pc := by
  unfold nextV
  cases h : inL [23, 26] i.op with
  | true => rw [if_pos rfl]; simp
  | false => rw [if_neg (by decide), mem_comp]; unfold sortV; rw [List.mem_mergeSort]; simp
theorem take_topI {xs : List Int} {m : Nat} (h : m < xs.length) : xs.take (m + 1) = xs.take m ++ [xs.getD m 0] := by
  rw [List.take_succ_eq_append_getElem h, getD_at h]
theorem hiN_m (m : Nat) : hiN (m + 1) (some (m : Int)) - 0 = m := by simp [hiN]
/-! ### Comes -/
theorem cn_step (p : Pro) (to : Int) (out : List Bool) (xs : List Int) (n : Nat) (l : List Int) (Q : Exit → SS → Prop) (hI : InvV out xs n l)
    (hq : ∀ xs' n', n' ≤ xs'.length → xs'.take n' = (l.foldl visit (out, xs.take n)).2 → Q (.exit 2) (stCm p to (l.foldl visit (out, xs.take n)).1 xs' n')) :
    W 0 Try.prog (.loop (lpIn (lp Try.f10 0) 0 0)) (stCn p to out xs n l 0) Q := by
  have hpre : (xs.take n).length = n := by rw [List.length_take]; have := hI.hn; omega
  refine W_loopE (fun y : (List Bool × List Int × Nat) × Nat => stCn p to y.1.1 y.1.2.1 y.1.2.2 l y.2) (fun y => InvI out (xs.take n) l y.2 y.1) (fun y => l.length - y.2) [2, 3, 8, 9, 64, 65, 66] [2, 3, 8, 9] [] (fun y hy => sx_ok (Λ := noLam) gok0 _ 2 _ _ noLam_ok ?_) ((out, xs, n), 0) ⟨hI.hn, rfl, Nat.zero_le _⟩
  rw [vc_comesI]
  obtain ⟨⟨s, ys, m⟩, j⟩ := y
  dsimp only at hy ⊢
  have hb := inner_bd hy hI.hl.1 (by rw [hpre]; exact hI.hc)
  have hym : m ≤ ys.length := hy.hn
  have hll := hI.hl.2
  have hb1 : s.length = out.length := hb.1
  have hb2 : m ≤ 2000 := hb.2
  refine cond_of (fun hc => ?_) (fun hc => ?_)
  · have hc : j < l.length := by have := of_decide_eq_true hc; omega
    have ei : IntKind.i64.wrap ((j : Int) + 1) = ((j + 1 : Nat) : Int) := w64n (n := j + 1) (by omega)
    have hk := hI.hl.1 _ (getD_mem' (d := 0) hc)
    obtain ⟨n1, n2⟩ := inner_next hy hc
    have d1 : (tI.dft : Int) = 0 := rfl
    simp only [ei, Nat.zero_add, Int.toNat_natCast, d1]
    generalize l.getD j 0 = k at hk n1 n2 ⊢
    refine ⟨by omega, by omega, hc, hk.1, by omega, by omega, cond_of (fun hs => ?_) (fun hs => ?_)⟩
    · have hs : s.getD k.toNat false = false := by simpa using hs
      have hvl : (vw ys 0 m).length = m := vw_len (by omega)
      refine ⟨hk.1, by omega, by omega, Nat.le_refl _, hym, by rw [List.length_append, hvl]; show (m + 1) * 8 ≤ _; omega, ((s.set k.toNat true, vw ys 0 m ++ [k], (vw ys 0 m ++ [k]).length), j + 1), ?_, n2 hs, by show l.length - (j + 1) < l.length - j; omega⟩
      show (_ : SS) = stCn _ _ _ _ _ _ _
      unfold stCn
      rw [List.length_set]
      rfl
    · have hs : s.getD k.toNat false = true := by simpa using hs
      exact ⟨((s, ys, m), j + 1), rfl, n1 hs, by show l.length - (j + 1) < l.length - j; omega⟩
  · have hc : ¬ j < l.length := by have := of_decide_eq_false hc; omega
    have hjl := hy.hj
    obtain rfl : j = l.length := by omega
    have he := hy.he
    rw [List.take_length] at he
    have e1 : s = (l.foldl visit (out, xs.take n)).1 := congrArg Prod.fst he
    have := hq ys m hym (congrArg Prod.snd he)
    rw [← e1] at this
    exact this
theorem gokCm : GOK Try.prog (gam [(9, [], next_t)]) := gam_ok ⟨next_ok, trivial⟩
theorem cm_step (p : Pro) (to : Int) (fr : Nat) (Q : Exit → SS → Prop) (hp : smallP p) (hg : goodV p = true) (hf : fr < p.code.length) (hq : Q (.exit 0) (⟨87, [(2, .p (ti to)), (8, .p (.c (.view .bool 0 0 (rchV (nextC p) p.code.length fr).length)))], [.row 4 .bool (rchV (nextC p) p.code.length fr)]⟩ : SS)) :
    W 0 Try.prog (.loop (lp Try.f10 0)) (stCm p to ((List.replicate p.code.length false).set fr true) [(fr : Int)] 1) Q := by
  have hcl := hp.1
  refine W_loopE (fun y : List Bool × List Int × Nat => stCm p to y.1 y.2.1 y.2.2) (fun y => y.2.2 ≤ y.2.1.length ∧ InvR (nextC p) p.code.length fr (fun _ => False) (y.1, y.2.1.take y.2.2) ∧ y.2.2 + cntF y.1 ≤ 2000) (fun y => 2 * cntF y.1 + y.2.2) [2, 3, 8, 9] [2, 8] [] (fun y ⟨hn, hI, hc⟩ =>
    sx_ok (Λ := lam [(2, cn_l)]) gokCm _ 0 _ _ (lokl (l := [(2, lpIn (lp Try.f10 0) 0 0)]) ⟨lam_ok (fun x Q h1 h2 => cn_step x.1 x.2.1 x.2.2.1 x.2.2.2.1 x.2.2.2.2.1 x.2.2.2.2.2 Q h1 h2), trivial⟩) ?_) ((List.replicate p.code.length false).set fr true, [(fr : Int)], 1) ⟨Nat.le_refl _, inv_start hf, ?_⟩
  · rw [vc_comesL]
    obtain ⟨s, xs, n⟩ := y
    dsimp only at hn hI hc ⊢
    have hsl : s.length = p.code.length := hI.len
    refine fun hmx => cond_of (fun hc0 => ?_) (fun hc0 => ?_)
    · have hc0 : (n : Int) > 0 := of_decide_eq_true hc0
      obtain ⟨m, rfl⟩ : ∃ m, n = m + 1 := ⟨n - 1, by omega⟩
      have ew : IntKind.i64.wrap (((m + 1 : Nat) : Int) - 1) = (m : Int) := by rw [w64 (by omega) (by omega)]; omega
      have d1 : (tI.dft : Int) = 0 := rfl
      rw [ew]
      simp only [Nat.zero_add, Int.toNat_natCast, d1, hiN_m]
      rw [take_topI (by omega)] at hI
      have hml : (xs.take m).length = m := by rw [List.length_take]; omega
      have hk := hI.mem (xs.getD m 0) (by simp)
      generalize xs.getD m 0 = k at hI hk ⊢
      have hkn : k.toNat < p.code.length := by omega
      have w1 : inR p.code.length (nextC p k.toNat) := next_inR hg hkn
      have hs := sml_at hp hkn
      have w2 : (nextC p k.toNat).length ≤ 21 := next_len _ _ hs
      have ek : nextV (List.getD p.2.2.2.2.2.2.1 k.toNat tIns.dft) k = nextC p k.toNat := by
        unfold nextC
        rw [show ((k.toNat : Nat) : Int) = k by omega]; rfl
      simp only [ek]
      obtain ⟨r1, r2⟩ := inv_round hI w1
      have h3 : ((nextC p k.toNat).foldl visit (s, xs.take m)).2.length + cntF ((nextC p k.toNat).foldl visit (s, xs.take m)).1 = m + cntF s := by
        rw [(visits_sum (nextC p k.toNat) (s, xs.take m) (by show inR s.length _; rw [hsl]; exact w1)).1]
        show (xs.take m).length + cntF s = _
        rw [hml]
      have h4 : 2 * cntF ((nextC p k.toNat).foldl visit (s, xs.take m)).1 + ((nextC p k.toNat).foldl visit (s, xs.take m)).2.length < 2 * cntF s + (m + 1) := by
        rw [List.length_append, hml] at r2; exact r2
      refine fun _ => ⟨by omega, by omega, by omega, fun _ => ⟨by omega, by omega, hk.1, hk.2.1, hkn, hs, fun _ => ⟨(p, to, s, xs, m, nextC p k.toNat), rfl, ⟨by show m ≤ xs.length; omega, by show m + cntF s ≤ 2000; omega, by show inR s.length _; rw [hsl]; exact w1, by show (nextC p k.toNat).length ≤ 1000; omega⟩, fun xs' n' h1 h2 => ?_⟩⟩⟩
      dsimp only at h2 ⊢
      have hlen : n' = ((nextC p k.toNat).foldl visit (s, xs.take m)).2.length := by rw [← h2, List.length_take]; omega
      rw [← hlen] at h3 h4
      refine ⟨(((nextC p k.toNat).foldl visit (s, xs.take m)).1, xs', n'), rfl, ⟨h1, ?_, ?_⟩, ?_⟩
      · show InvR _ _ _ _ (_, xs'.take n')
        rw [h2]; exact r1
      · show n' + cntF ((nextC p k.toNat).foldl visit (s, xs.take m)).1 ≤ 2000
        rw [h3]; omega
      · show 2 * cntF ((nextC p k.toNat).foldl visit (s, xs.take m)).1 + n' < 2 * cntF s + (m + 1)
        exact h4
    · have hc0 : ¬ (n : Int) > 0 := of_decide_eq_false hc0
      obtain rfl : n = 0 := by omega
      rw [List.take_zero] at hI
      rw [inv_done hI]
      exact hq
  · have := cntF_le ((List.replicate p.code.length false).set fr true)
    rw [List.length_set, List.length_replicate] at this
    show 1 + cntF ((List.replicate p.code.length false).set fr true) ≤ 2000
    omega
theorem rch_get (suc : Nat → List Int) (n s : Nat) {k : Nat} (hk : k < n) : (rchV suc n s).getD k false = @decide (Rch suc s k) (Classical.propDecidable _) := by
  unfold rchV
  rw [getD_at (by rw [List.length_map, List.length_range]; exact hk), List.getElem_map, List.getElem_range]
theorem rch_len (suc : Nat → List Int) (n s : Nat) : (rchV suc n s).length = n := by unfold rchV; rw [List.length_map, List.length_range]
theorem comes_ok : ∀ args h Q, comes_t args h Q → FSpec Try.prog 10 args h Q := trH_ok fun ((p, fr, to, _) : Pro × Int × Int × Unit) _ Q ⟨hp, h⟩ => by
  refine spec_body (Γ := gam [(7, [], good_t)]) (Λ := lam [(0, cm_l)]) (gam_ok ⟨good_ok, trivial⟩) Try.func10 rfl (lokl (l := [(0, lp Try.f10 0)]) ⟨lam_ok (fun x Q ⟨a, b, c⟩ d => cm_step x.1 x.2.1 x.2.2 Q a b c d), trivial⟩) ?_
  show body Try.prog (gam [(7, [], good_t)]) (lam [(0, cm_l)]) Try.f10 [.agg (toCV tPro p), ti fr, ti to] [] _
  rw [vc_comes]
  dsimp only at hp h
  have hcl : List.length p.2.2.2.2.2.2.1 ≤ 1000 := hp.1
  have key : ∀ b, comesV p fr to = b → Q (.p (tb b)) [] := fun b e => by rw [← e]; exact h
  clear h
  unfold comesV at key
  have epl : List.length p.2.2.2.2.2.2.1 = p.code.length := rfl
  simp only [epl] at hcl ⊢
  refine fun _ => cond_of (fun hc => key _ (if_neg ?_)) (fun hc => ⟨hp, cond_of (fun hg => key _ (if_neg ?_)) (fun hg => ?_)⟩)
  · rintro ⟨a, b, c, d, _⟩
    have hc : (decide (fr < 0) || decide (to < 0) || decide (fr ≥ (p.code.length : Int)) || decide (to ≥ (p.code.length : Int))) = true := hc
    simp only [Bool.or_eq_true, decide_eq_true_eq] at hc
    omega
  · rintro ⟨a, b, c, d, e⟩
    have hg : (false || !goodV p) = true := hg
    rw [e] at hg; cases hg
  · have hg : goodV p = true := by
      have hg : (false || !goodV p) = false := hg
      simpa using hg
    have hc : (decide (fr < 0) || decide (to < 0) || decide (fr ≥ (p.code.length : Int)) || decide (to ≥ (p.code.length : Int))) = false := hc
    simp only [Bool.or_eq_false_iff, decide_eq_false_iff_not] at hc
    obtain ⟨⟨⟨c1, c2⟩, c3⟩, c4⟩ := hc
    have hin : 0 ≤ fr ∧ fr < (p.code.length : Int) ∧ 0 ≤ to ∧ to < (p.code.length : Int) := by omega
    have key := key _ (if_pos ⟨hin.1, hin.2.1, hin.2.2.1, hin.2.2.2, hg⟩)
    have hfe : ((fr.toNat : Nat) : Int) = fr := by omega
    simp only [Nat.zero_add, Int.toNat_natCast]
    refine ⟨by omega, Int.le_refl _, by show (1 : Int) * _ ≤ _; omega, hin.1, hin.2.1, by rw [List.length_replicate]; omega, (p, to, fr.toNat), ?_, ⟨hp, hg, by show fr.toNat < p.code.length; omega⟩, hin.2.2.1, ?_, ?_, ?_⟩
    · show (_ : SS) = _
      simp only [List.length_set, List.length_replicate, hfe]
    · show to < _
      rw [rch_len]; exact hin.2.2.2
    · have ht : to.toNat < p.code.length := by omega
      show to.toNat < (rchV (nextC p) p.code.length fr.toNat).length
      rw [rch_len]; exact ht
    · show Q (.p (tb ((rchV (nextC p) p.code.length fr.toNat).getD to.toNat false))) []
      rw [rch_get _ _ _ (by omega)]
      exact key
end Go.Proofs.Ytckijackbldkhaa.Ch
