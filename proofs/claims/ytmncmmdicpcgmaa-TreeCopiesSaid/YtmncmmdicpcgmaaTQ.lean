/- Chapter 3 (tree): copy, Swap, proved. No condition. -/
import Derived.Test.YtmncmmdicpcgmaaTPV
namespace Go.Proofs.Ytmncmmdicpcgmaa.Ch
open Go Go.Proofs Go.Proofs.Ytmncmmdicpcgmaa.Sx
set_option linter.unusedVariables false
set_option linter.unusedSimpArgs false

theorem orSlot_ok {N : Nat} {P : Program} {c : Code} {i : Nat} {t0 t : SS → (Exit → SS → Prop) → Prop} (h0 : ∀ s Q, t0 s Q → W N P (.loop c) s Q) (h1 : ∀ s Q, t s Q → W N P (.loop c) s Q) : ∀ s Q, orSlot i t0 t s Q → W N P (.loop c) s Q := by
  intro s Q h
  unfold orSlot at h
  split at h
  · exact h0 _ _ h
  · exact h1 _ _ h
theorem tree_add {r : List Rw} {n : Nd} (hr : TreeOk r) (hg : goodB n r.length = true) (hl : r.length < 65536) : TreeOk (r ++ [mkRow r n]) ∧ nodes (r ++ [mkRow r n]) = nodes r ++ [n] := by
  have e : nodes (r ++ [mkRow r n]) = nodes r ++ [n] := by simp [nodes, mkRow]
  refine ⟨⟨?_, ?_, by rw [List.length_append]; simp; omega⟩, e⟩
  · rw [e]; exact valid_put hr.1 (by rw [nodes_len]; exact hg)
  · rw [e, treeOf_snoc, ← hr.2.1]
theorem tree_rows {r : List Rw} (hr : TreeOk r) : RowsOk r := by
  rw [hr.2.1]; exact treeOf_ok hr.1 (by rw [nodes_len]; exact hr.2.2)
theorem ndAt_app {m : List Nd} {more : List Nd} {k : Int} (h1 : 1 ≤ k) (h2 : k ≤ m.length) : ndAt (m ++ more) k = ndAt m k := by
  unfold ndAt
  rw [getD_app _ (by omega)]
theorem smF_ext {l m more : List Nd} (hm : Valid m) : ∀ (f : Nat) (i k : Int), k ≤ m.length → smF f l i (m ++ more) k = smF f l i m k := by
  intro f
  induction f with
  | zero => intros; rfl
  | succ f ih =>
    intro i k hk
    have hh : hasB (m ++ more).length k = hasB m.length k := by
      rw [Bool.eq_iff_iff, hasB_iff, hasB_iff, List.length_append]; omega
    simp only [smF]
    rw [hh]
    by_cases hb : (hasB l.length i && hasB m.length k) = true
    · rw [if_pos hb, if_pos hb]
      have hk' := hasB_iff.1 (by simp only [Bool.and_eq_true] at hb; exact hb.2)
      rw [ndAt_app hk'.1 hk'.2]
      congr 1
      refine all_congr (fun p hp => ?_)
      have := kid_lt hm hk'.1 hk'.2 (List.of_mem_zip (a := p.1) (b := p.2) hp).2
      exact ih p.1 p.2 (by omega)
    · rw [if_neg hb, if_neg hb]
theorem kid_ext {l : List Nd} {at_ : Int} {n : Nd} {r s : List Rw} (hr : TreeOk r) (he : ExtP r s) {k k' : Int} (h : KidOk l at_ n r k k') : KidOk l at_ n s k k' := by
  obtain ⟨more, he, _⟩ := he
  obtain ⟨h1, h2, h3, h4, h5⟩ := h
  have hl := congrArg List.length he
  rw [List.length_append, nodes_len, nodes_len] at hl
  have e : ∀ l, sm l k (nodes r ++ more) k' = sm l k (nodes r) k' := fun l => by
    unfold sm
    exact smF_ext hr.1 _ _ _ (by rw [nodes_len]; exact h2)
  exact ⟨h1, by omega, h3, by rw [he, e]; exact h4, by rw [he, e]; exact h5⟩
theorem swl_len (l : List Nd) (at_ : Int) (n : Nd) : (swl l at_ n).length = l.length := by unfold swl; split <;> simp
theorem swl_at (l : List Nd) (at_ : Int) (n : Nd) {k : Int} (h1 : 1 ≤ k) (h2 : k ≤ l.length) : ndAt (swl l at_ n) k = if k = at_ then (n.1, n.2.1, n.2.2.1, []) else ndAt l k := by
  have hj : (k - 1).toNat < l.length := by omega
  unfold ndAt
  rw [getD_at (by rw [swl_len]; exact hj), getD_at hj]
  by_cases h : 1 ≤ at_
  · have e : swl l at_ n = l.set (at_ - 1).toNat (n.1, n.2.1, n.2.2.1, []) := by unfold swl; rw [if_pos h]
    by_cases hk : k = at_
    · subst hk
      rw [if_pos rfl]
      simp only [e, List.getElem_set_self]
    · rw [if_neg hk]
      simp only [e]
      rw [List.getElem_set_ne (by omega)]
  · have e : swl l at_ n = l := by unfold swl; rw [if_neg h]
    rw [if_neg (by omega)]
    simp only [e]
theorem swl_valid {l : List Nd} {at_ : Int} {n : Nd} (hv : Valid l) (hn : kindB n.1 = true) : Valid (swl l at_ n) := by
  intro j hj
  rw [swl_len] at hj
  have h := swl_at l at_ n (k := (j : Int) + 1) (by omega) (by omega)
  have e : ndAt (swl l at_ n) ((j : Int) + 1) = (swl l at_ n)[j]'(by rw [swl_len]; exact hj) := by
    unfold ndAt
    rw [show ((j : Int) + 1 - 1).toNat = j by omega, getD_at (by rw [swl_len]; exact hj)]
  have e2 : ndAt l ((j : Int) + 1) = l[j] := by
    unfold ndAt
    rw [show ((j : Int) + 1 - 1).toNat = j by omega, getD_at hj]
  rw [← e, h]
  split
  · unfold goodB; simp [kidsOf, hn]
  · rw [e2]; exact hv j hj
theorem ext_trans {r s t : List Rw} (h1 : ExtP r s) (h2 : ExtP s t) : ExtP r t := by
  obtain ⟨a, ha, ha'⟩ := h1
  obtain ⟨b, hb, hb'⟩ := h2
  refine ⟨a ++ b, by rw [hb, ha, List.append_assoc], fun n hn => ?_⟩
  rcases List.mem_append.1 hn with h | h
  · exact ha' n h
  · exact hb' n h
theorem nodeS_ok : ∀ args h Q, nodeS_t args h Q → FSpec Try.prog 15 args h Q := trH_ok fun ((_, i, _) : Unit × Int × Unit) ((n, _), rows, _) Q ⟨⟨hn, hl, hk, hh⟩, h2⟩ => by
  dsimp only at hn hl hk hh h2
  subst hn
  refine spec_body gokHas Try.func15 rfl noLam_ok ?_
  show body Try.prog (gam gHas) noLam Try.f15 [.c (.ptr 0 0), ti i] [.cells 59 [.view tR 1 0 rows.length], .row 56 tR rows] _
  rw [vc_nodeS]
  obtain ⟨e1, e2, e3, e4, e5⟩ := has_row hh hl
  have := hk _ e5
  refine ⟨rfl, hl, cond_of (fun hc => by rw [hh] at hc; cases hc) (fun hc => ?_)⟩
  rw [e4]
  exact ⟨e1, e2, e3, by show (kidsOf (rowAt rows i).1).length ≤ 100000000; omega, h2⟩
theorem flat_mem {l : List Nd} {ks : List Int} {q : Int} : q ∈ flat l ks ↔ ∃ k ∈ ks, 0 < k ∧ q ∈ pre l k := by
  unfold flat
  rw [List.mem_flatMap]
  constructor
  · rintro ⟨k, hk, hq⟩
    rw [List.mem_filter] at hk
    exact ⟨k, hk.1, by simpa [Ch.part] using hk.2, hq⟩
  · rintro ⟨k, hk, h0, hq⟩
    exact ⟨k, List.mem_filter.2 ⟨hk, by simpa [Ch.part] using h0⟩, hq⟩
theorem all2_len {α β : Type} {R : α → β → Prop} : ∀ {xs : List α} {ys : List β}, All2 R xs ys → xs.length = ys.length
  | [], [], _ => rfl
  | _ :: _, _ :: _, h => by simp only [List.length_cons]; rw [all2_len h.2]
  | [], _ :: _, h => h.elim
  | _ :: _, [], h => h.elim
theorem gokCopy {m : Nat} (hm : ∀ args h Q, copy_t m args h Q → FSpec Try.prog 29 args h Q) : GOK Try.prog (gam (gCopy m)) := gam_ok ⟨hm, nodeS_ok, orNil_ok add0_ok addS_ok, trivial⟩
theorem copy_loop (m : Nat) (hm : ∀ args h Q, copy_t m args h Q → FSpec Try.prog 29 args h Q) (d : CD) (hd : cdO m d) (Q : Exit → SS → Prop) (hq : ∀ s js, LoopOf (nodes d.t) d.ks d.at_ d.n d.r s js → Q (.exit 0) (stCpX d.t s d.x js)) :
    W 4 Try.prog (.loop (lp Try.f29 0)) (stCp d.t d.r d.n d.x d.ks d.at_ 0) Q := by
  obtain ⟨t, r, n, x, ks, at_⟩ := d
  obtain ⟨ht, hr, hK, hks, hkk, hroom, hkind⟩ := hd
  dsimp only at ht hr hK hks hkk hroom hkind hq ⊢
  refine W_loopE (N := 4) (P := Try.prog) (body := lp Try.f29 0) (Q := Q) (fun z : Nat × List Rw × List Int => stCp t z.2.1 n x (z.2.2 ++ ks.drop z.1) at_ z.1)
    (fun z => z.1 ≤ ks.length ∧ LoopOf (nodes t) (ks.take z.1) at_ n r z.2.1 z.2.2) (fun z => ks.length - z.1) [0, 1, 3, 9, 11, 27, 28, 29] [1, 11] [] (fun (j, s, js) ⟨hj, hL⟩ => ?_) (0, r, []) ⟨Nat.zero_le _, hr, ⟨[], by simp, by simp⟩, trivial, by simp [flat], by simp [flat]⟩
  dsimp only at hj hL ⊢
  obtain ⟨b1, b2, b3, b4, b5⟩ := hL
  have hjl : js.length = j := by rw [← all2_len b3, List.length_take]; omega
  have hal : (js ++ ks.drop j).length = ks.length := by rw [List.length_append, List.length_drop]; omega
  refine sx_ok (Λ := noLam) (gokCopy hm) _ 0 _ _ noLam_ok ?_
  rw [vc_cpl, hal]
  refine cond_of (fun hc => ?_) (fun hc => ?_)
  · have hc : j < ks.length := by simpa using hc
    have ei : IntKind.i64.wrap ((j : Int) + 1) = ((j + 1 : Nat) : Int) := w64n (n := j + 1) (by omega)
    have hg : (js ++ ks.drop j).getD j tI.dft = ks[j] := by
      rw [getD_at (by rw [hal]; exact hc), List.getElem_append_right (by omega), List.getElem_drop]
      congr 1; omega
    have hset : ∀ q : Int, (js ++ ks.drop j).set j q = (js ++ [q]) ++ ks.drop (j + 1) := by
      intro q
      rw [List.drop_eq_getElem_cons hc, List.set_append_right _ _ (by omega), show j - js.length = 0 by omega, List.set_cons_zero]
      simp
    rw [Int.toNat_natCast, Nat.zero_add, hg, ei]
    have hs := flat_succ (nodes t) ks j hc
    have hle := flat_le (nodes t) ks (j + 1)
    have hk := hkk _ (List.getElem_mem hc)
    have ht1 : ks.take (j + 1) = ks.take j ++ [ks[j]] := List.take_succ_eq_append_getElem hc
    generalize ks[j] = k at *
    have hfl : (flat (nodes t) (ks.take (j + 1))).length = (flat (nodes t) (ks.take j)).length + cnt (nodes t) k := by
      rw [hs, List.length_append]
      by_cases hp : 0 < k
      · rw [if_pos hp]; rfl
      · have : k = 0 := by omega
        subst this
        rw [if_neg hp]; rfl
    refine ⟨by omega, by omega, hc, ⟨rfl, rfl, ht, b1, hK, hk.1, hk.2.1, hk.2.2, by omega, hkind⟩, fun s' idx ⟨c1, c2, c3, c4, c5⟩ => ⟨by omega, by omega, hc, (j + 1, s', js ++ [idx]), ?_, ⟨hc, c1, ext_trans b2 c2, ?_, by dsimp only; omega, ?_⟩, by dsimp only; omega⟩⟩
    · dsimp only
      rw [hset]
      have : ((js ++ [idx]) ++ ks.drop (j + 1)).length = ks.length := by
        rw [List.length_append, List.length_append, List.length_drop]; simp only [List.length_cons, List.length_nil]; omega
      unfold stCp
      rw [this]
      rfl
    · dsimp only
      rw [ht1]
      exact all2_apq (all2_imq (fun a _ b _ h => kid_ext b1 c2 h) b3) ⟨c3, trivial⟩
    · intro h0
      have := b5 h0
      have := c5 h0
      dsimp only; omega
  · have hc : ¬ (j < ks.length) := by simpa using hc
    rw [List.take_of_length_le (by omega)] at b3 b4 b5
    have e : js ++ ks.drop j = js := by rw [List.drop_eq_nil_of_le (by omega), List.append_nil]
    have hl2 : js.length = ks.length := by omega
    have := hq s js ⟨b1, b2, b3, b4, b5⟩
    unfold stCpX at this
    rw [hl2] at this
    rw [e]
    exact this
theorem all2_mem {α β : Type} {R : α → β → Prop} {a : α} : ∀ {xs : List α} {ys : List β}, All2 R xs ys → a ∈ xs → ∃ b, R a b
  | [], [], _, h => by simp at h
  | x :: xs, y :: ys, h, hm => by
    rcases List.mem_cons.1 hm with rfl | hm
    · exact ⟨y, h.1⟩
    · exact all2_mem h.2 hm
  | [], _ :: _, h, _ => h.elim
  | _ :: _, [], h, _ => h.elim
theorem all2_memR {α β : Type} {R : α → β → Prop} {b : β} : ∀ {xs : List α} {ys : List β}, All2 R xs ys → b ∈ ys → ∃ a ∈ xs, R a b
  | [], [], _, h => by simp at h
  | x :: xs, y :: ys, h, hm => by
    rcases List.mem_cons.1 hm with rfl | hm
    · exact ⟨x, by simp, h.1⟩
    · obtain ⟨a, h1, h2⟩ := all2_memR h.2 hm
      exact ⟨a, by simp [h1], h2⟩
  | [], _ :: _, h, _ => h.elim
  | _ :: _, [], h, _ => h.elim
theorem ndAt_last (m : List Nd) (n : Nd) : ndAt (m ++ [n]) ((m.length : Int) + 1) = n := by
  unfold ndAt
  rw [show ((m.length : Int) + 1 - 1).toNat = m.length by omega]
  simp
theorem good_of {n : Nd} {hv : Nat} (h1 : kindB n.1 = true) (h2 : ∀ k ∈ kidsOf n, 0 ≤ k ∧ k ≤ hv) : goodB n hv = true := by
  unfold goodB
  rw [h1, Bool.true_and, Bool.not_eq_true']
  rw [List.any_eq_false]
  intro k hk
  have := h2 k hk
  simp [badB]; omega
theorem copy_done {t r s : List Rw} {i at_ : Int} {n x : Nd} {js : List Int} (ht : TreeOk t) (hr : TreeOk r) (hi : 1 ≤ i ∧ i ≤ t.length) (hx : ndAt (nodes t) i = x) (hK : (kidsOf x).length ≤ 65536) (hkn : kindB n.1 = true) (hne : i ≠ at_) (hroom : r.length + cnt (nodes t) i ≤ 65536) (hL : LoopOf (nodes t) (kidsOf x) at_ n r s js) :
    s.length < 65536 ∧ (kidsOf ((x.1, x.2.1, x.2.2.1, js) : Nd)).length ≤ 65536 ∧ goodB (x.1, x.2.1, x.2.2.1, js) s.length = true ∧ CopyOf (nodes t) i at_ n r (s ++ [mkRow s (x.1, x.2.1, x.2.2.1, js)]) ((s.length : Int) + 1) := by
  obtain ⟨b1, b2, b3, b4, b5⟩ := hL
  have hil : i ≤ (nodes t).length := by rw [nodes_len]; exact hi.2
  have hpre : pre (nodes t) i = i :: flat (nodes t) (kidsOf x) := by rw [pre_eq ht.1 hi.1 hil, hx]; rfl
  have hcnt : cnt (nodes t) i = (flat (nodes t) (kidsOf x)).length + 1 := by unfold cnt; rw [hpre, List.length_cons]
  have hsl : s.length < 65536 := by omega
  have hjl := all2_len b3
  have hkx : kindB x.1 = true := by
    have hj : (i - 1).toNat < (nodes t).length := by omega
    have := ht.1 _ hj
    rw [show (nodes t)[(i - 1).toNat] = x by rw [← hx]; unfold ndAt; rw [getD_at hj]] at this
    unfold goodB at this
    simp only [Bool.and_eq_true] at this
    exact this.1
  have hgood : goodB (x.1, x.2.1, x.2.2.1, js) s.length = true := good_of hkx (fun k hk => by
    obtain ⟨a, _, h⟩ := all2_memR b3 hk
    exact ⟨h.1, h.2.1⟩)
  obtain ⟨c1, c2⟩ := tree_add b1 hgood hsl
  have hext : ExtP s (s ++ [mkRow s (x.1, x.2.1, x.2.2.1, js)]) := ⟨_, c2, fun n hn => by obtain rfl := List.mem_singleton.1 hn; show js.length ≤ 65536; omega⟩
  have hlen : (s ++ [mkRow s (x.1, x.2.1, x.2.2.1, js)]).length = s.length + 1 := by simp
  have hk2 : hasB (nodes (s ++ [mkRow s (x.1, x.2.1, x.2.2.1, js)])).length ((s.length : Int) + 1) = true := hasB_iff.2 (by rw [nodes_len, hlen]; omega)
  have b3'' := all2_imq (fun a _ b _ h => kid_ext b1 hext h) b3
  refine ⟨hsl, by show js.length ≤ 65536; omega, hgood, c1, ext_trans b2 hext, ⟨by omega, by rw [hlen]; omega, by omega, ?_, ?_⟩, by rw [hlen, hcnt]; omega, fun h0 => by have := b5 h0; rw [hlen, hcnt]; omega⟩
  rotate_left
  · rw [sm_kids (swl_valid ht.1 hkn) (hasB_iff.2 ⟨hi.1, by rw [swl_len]; exact hil⟩) hk2, swl_at _ _ _ hi.1 hil, if_neg hne, hx, c2, show (s.length : Int) = ((nodes s).length : Int) by rw [nodes_len], ndAt_last]
    exact ⟨rfl, rfl, all2_imq (fun a _ b _ h => by rw [← c2]; exact h.2.2.2.2) b3''⟩
  rw [sm_kids ht.1 (hasB_iff.2 ⟨hi.1, hil⟩) hk2, hx, c2]
  rw [show (s.length : Int) = ((nodes s).length : Int) by rw [nodes_len], ndAt_last]
  have b3' := all2_imq (S := fun a b => sm (nodes t) a (nodes s ++ [(x.1, x.2.1, x.2.2.1, js)]) b = true ↔ (at_ ∈ pre (nodes t) a → bareP (nodes t) at_ n)) (fun a _ b _ h => by rw [← c2]; exact h.2.2.2.1) b3''
  have hmem : at_ ∈ pre (nodes t) i ↔ ∃ k ∈ kidsOf x, 0 < k ∧ at_ ∈ pre (nodes t) k := by
    rw [hpre, List.mem_cons, flat_mem]
    constructor
    · rintro (h | h)
      · exact absurd h.symm hne
      · exact h
    · exact .inr
  constructor
  · rintro ⟨_, _, h3⟩ hat
    obtain ⟨k, hk, h0, hak⟩ := hmem.1 hat
    obtain ⟨y, h5⟩ := all2_mem (all2_and h3 b3') hk
    exact h5.2.1 h5.1 hak
  · intro h
    refine ⟨rfl, rfl, all2_imq (fun a ha b _ hab => ?_) b3'⟩
    refine hab.2 (fun hat => h (hmem.2 ⟨a, ha, ?_, hat⟩))
    have := kid_lt ht.1 hi.1 hil (by rw [hx]; exact ha)
    by_cases h0 : a = 0
    · subst h0; simp [pre, preF] at hat
    · omega
theorem copy_at {t r : List Rw} {i : Int} {n : Nd} (ht : TreeOk t) (hr : TreeOk r) (hi : 1 ≤ i ∧ i ≤ t.length) (hk : kindB n.1 = true) (hroom : r.length + cnt (nodes t) i ≤ 65536) :
    r.length < 65536 ∧ goodB (n.1, n.2.1, n.2.2.1, []) r.length = true ∧ CopyOf (nodes t) i i n r (r ++ [mkRow r (n.1, n.2.1, n.2.2.1, [])]) ((r.length : Int) + 1) := by
  have hil : i ≤ (nodes t).length := by rw [nodes_len]; exact hi.2
  have hpre : pre (nodes t) i = i :: flat (nodes t) (kidsOf (ndAt (nodes t) i)) := by rw [pre_eq ht.1 hi.1 hil]; rfl
  have hcnt : cnt (nodes t) i = (flat (nodes t) (kidsOf (ndAt (nodes t) i))).length + 1 := by unfold cnt; rw [hpre, List.length_cons]
  have hsl : r.length < 65536 := by omega
  have hgood : goodB (n.1, n.2.1, n.2.2.1, []) r.length = true := good_of hk (fun k hk => by simp [kidsOf] at hk)
  obtain ⟨c1, c2⟩ := tree_add hr hgood hsl
  have hlen : (r ++ [mkRow r (n.1, n.2.1, n.2.2.1, [])]).length = r.length + 1 := by simp
  have hk2 : hasB (nodes (r ++ [mkRow r (n.1, n.2.1, n.2.2.1, [])])).length ((r.length : Int) + 1) = true := hasB_iff.2 (by rw [nodes_len, hlen]; omega)
  refine ⟨hsl, hgood, c1, ⟨_, c2, fun n hn => by obtain rfl := List.mem_singleton.1 hn; simp [kidsOf]⟩, ⟨by omega, by rw [hlen]; omega, by omega, ?_, ?_⟩, by rw [hlen, hcnt]; omega, fun h0 => by omega⟩
  rotate_left
  · rw [sm_kids (swl_valid ht.1 hk) (hasB_iff.2 ⟨hi.1, by rw [swl_len]; exact hil⟩) hk2, swl_at _ _ _ hi.1 hil, if_pos rfl, c2, show (r.length : Int) = ((nodes r).length : Int) by rw [nodes_len], ndAt_last]
    exact ⟨rfl, rfl, trivial⟩
  rw [sm_kids ht.1 (hasB_iff.2 ⟨hi.1, hil⟩) hk2, c2]
  rw [show (r.length : Int) = ((nodes r).length : Int) by rw [nodes_len], ndAt_last]
  unfold bareP
  constructor
  · rintro ⟨h1, h2, h3⟩ _
    refine ⟨h1, h2, ?_⟩
    have := all2_len h3
    exact List.eq_nil_of_length_eq_zero (by simpa [kidsOf] using this)
  · intro h
    obtain ⟨h1, h2, h3⟩ := h (by rw [hpre]; simp)
    exact ⟨h1, h2, by rw [h3]; trivial⟩
theorem copy_zero {l : List Nd} {at_ : Int} {n : Nd} {r : List Rw} (hr : TreeOk r) : CopyOf l 0 at_ n r r 0 :=
  ⟨hr, ⟨[], by simp, by simp⟩, ⟨by omega, by omega, Iff.rfl, by rw [sm_no (by simp [hasB])]; simp [hasB, pre, preF], by rw [sm_no (by simp [hasB])]; simp [hasB]⟩, by omega, fun _ => by simp [cnt, pre, preF]⟩
theorem copy_ok : ∀ (m : Nat) args h Q, copy_t m args h Q → FSpec Try.prog 29 args h Q := by
  intro m
  induction m with
  | zero => exact trH_ok fun _ _ Q ⟨⟨_, _, hw⟩, _⟩ => by obtain ⟨_, _, _, _, _, h, _⟩ := hw; omega
  | succ m ih =>
    refine trH_ok fun ((_, _, i, at_, n, _) : Unit × Unit × Int × Int × Nd × Unit) ((n1, _), t, (n2, _), r, _) Q ⟨⟨hn, hn2, hw⟩, h⟩ => ?_
    dsimp only at hn hn2 hw h
    subst hn hn2
    obtain ⟨ht, hr, hK, h0, hl, hm, hroom, hkind⟩ := hw
    refine spec_body (Λ := lam [(0, copy_l m)]) (gokCopy ih) Try.func29 rfl ?_ ?_
    · exact lokl (l := [(0, lp Try.f29 0)]) ⟨orSlot_ok (unr_all (gokCopy ih) noLam_ok) (lam_ok fun d Q hd a => copy_loop m ih d hd Q a), trivial⟩
    show body Try.prog (gam (gCopy m)) (lam [(0, copy_l m)]) Try.f29 [.c (.ptr 0 0), .c (.ptr 2 0), ti i, ti at_, .agg (toCV tN n)] [.cells 59 [.view tR 1 0 t.length], .row 56 tR t, .cells 59 [.view tR 3 0 r.length], .row 56 tR r] _
    rw [vc_copy]
    refine cond_of (fun hc => ?_) (fun hc => ?_)
    · have hc : i = 0 := by simpa using hc
      subst hc
      exact h r 0 (copy_zero hr)
    · have hc : i ≠ 0 := by simpa using hc
      have hi : 1 ≤ i ∧ i ≤ t.length := by omega
      refine ⟨⟨rfl, ht.2.2, hK, hasB_iff.2 hi⟩, cond_of (fun ha => ?_) (fun ha hml => ?_)⟩
      · have ha : i = at_ := by simpa using ha
        subst ha
        obtain ⟨c1, c2, c3⟩ := copy_at ht hr hi hkind hroom
        refine ⟨⟨rfl, c1, tree_rows hr, by simp [kidsOf]⟩, ⟨fun hf => (by rw [c2] at hf; cases hf), fun _ => h _ _ c3⟩⟩
      · have ha : i ≠ at_ := by simpa using ha
        have hat := tree_at ht hi.1 hi.2
        have hxe : (rowAt t i).1 = ndAt (nodes t) i := by rw [hat]
        obtain ⟨_, _, _, _, e5⟩ := has_row (hasB_iff.2 hi) ht.2.2
        have hKx := hK _ e5
        rw [hxe] at hKx ⊢
        have hil : i ≤ (nodes t).length := by rw [nodes_len]; exact hi.2
        generalize hx : ndAt (nodes t) i = x at *
        have hcnt : cnt (nodes t) i = (flat (nodes t) (kidsOf x)).length + 1 := by unfold cnt; rw [pre_eq ht.1 hi.1 hil, hx, List.length_cons]; rfl
        refine ⟨⟨t, r, n, x, kidsOf x, at_⟩, rfl, ⟨ht, hr, hK, hKx, fun k hk => ?_, by dsimp only; omega, hkind⟩, fun s js hL => ?_⟩
        · have := kid_lt ht.1 hi.1 hil (by rw [hx]; exact hk)
          dsimp only; omega
        · dsimp only at hL ⊢
          obtain ⟨d1, d2, d3, d4⟩ := copy_done ht hr hi hx hKx hkind ha hroom hL
          rw [vw_all]
          exact ⟨by omega, ⟨rfl, d1, tree_rows hL.1, d2⟩, ⟨fun hf => (by rw [d3] at hf; cases hf), fun _ => h _ _ d4⟩⟩
theorem gokSwap {m : Nat} : GOK Try.prog (gam (gSwap m)) := gam_ok ⟨copy_ok m, new_ok, orNil_ok has0_ok has_ok, isKind_ok, trivial⟩
theorem tree_nil : TreeOk ([] : List Rw) := ⟨fun j h => by simp [nodes] at h, by simp [nodes, treeOf], by simp⟩
theorem swap_ok : ∀ args h Q, swap_t args h Q → FSpec Try.prog 20 args h Q := trH_ok fun ((_, i, at_, n, _) : Unit × Int × Int × Nd × Unit) ((n1, _), t, _) Q ⟨⟨hn, ht, hK⟩, h1, h2⟩ => by
  dsimp only at hn ht hK h1 h2
  subst hn
  refine spec_body (gokSwap (m := i.toNat + 1)) Try.func20 rfl noLam_ok ?_
  show body Try.prog (gam (gSwap (i.toNat + 1))) noLam Try.f20 [.c (.ptr 0 0), ti i, ti at_, .agg (toCV tN n)] [.cells 59 [.view tR 1 0 t.length], .row 56 tR t] _
  rw [vc_swap]
  unfold swapB at h1 h2
  refine ⟨rfl, ht.2.2, cond_of (fun hc => ⟨fun e => (by cases e), fun e => (by cases e), h1 ?_⟩) (fun hc => ?_)⟩
  · have hc : hasB t.length i = false := by simpa using hc
    rw [hc]; rfl
  · have hc : hasB t.length i = true := by simpa using hc
    obtain ⟨e1, e2, e3, e4, e5⟩ := has_row hc ht.2.2
    have hi := hasB_iff.1 hc
    rw [hc] at h1 h2
    rw [e4]
    refine ⟨fun _ => ⟨e1, e2, trivial⟩, fun _ => ⟨e3, trivial⟩, cond_of (fun hb => h1 ?_) (fun hb => ?_)⟩
    · cases hk : kindB n.1 with
      | false => rfl
      | true => rw [hk] at hb; simp at hb; simp; omega
    · simp at hb
      have hcnt : cnt (nodes t) i ≤ 65536 := by
        have := hb.2
        rw [tree_at ht hi.1 hi.2] at this
        dsimp only at this; omega
      refine ⟨⟨rfl, rfl, ht, tree_nil, hK, by omega, hi.2, by omega, by simpa using hcnt, hb.1⟩, h2 ?_⟩
      simp; omega
theorem swap0_ok : ∀ args h Q, swap0_t args h Q → FSpec Try.prog 20 args h Q := trH_ok fun ((_, i, at_, n, _) : Unit × Int × Int × Nd × Unit) _ Q h => by
  refine spec_body (gokSwap (m := 0)) Try.func20 rfl noLam_ok ?_
  show body Try.prog (gam (gSwap 0)) noLam Try.f20 [.c .nilp, ti i, ti at_, .agg (toCV tN n)] [] _
  rw [vc_swap0]; exact h
end Go.Proofs.Ytmncmmdicpcgmaa.Ch
