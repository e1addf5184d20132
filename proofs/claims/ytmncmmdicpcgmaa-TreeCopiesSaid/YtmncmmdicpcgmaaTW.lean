/- Chapter 3 (tree): the laws TreeDeeper, TreeCopies, proved. No condition. -/
import Derived.Test.YtmncmmdicpcgmaaTVV
namespace Go.Proofs.Ytmncmmdicpcgmaa.Ch
open Go Go.Proofs Go.Proofs.Ytmncmmdicpcgmaa.Sx
set_option linter.unusedVariables false
set_option linter.unusedSimpArgs false

theorem wl_len (l : List Nd) (q : Int) : (wl l q).length ≤ 65536 := by
  unfold wl
  split
  · rename_i h
    simp only [Bool.and_eq_true, decide_eq_true_eq] at h
    exact h.2
  · simp
theorem wls_len (l : List Nd) : ∀ ks : List Int, (ks.flatMap (wl l)).length ≤ ks.length * 65536
  | [] => by simp
  | q :: r => by
    have h1 := wls_len l r
    have h2 := wl_len l q
    rw [List.flatMap_cons, List.length_append, List.length_cons, Nat.add_mul, Nat.one_mul, Nat.add_comm]
    exact Nat.add_le_add h1 h2
theorem wl_zero (l : List Nd) : wl l 0 = [] := by unfold wl; simp [hasB]
theorem wls_succ (l : List Nd) (ks : List Int) (j : Nat) (h : j < ks.length) : ((ks.take (j + 1)).flatMap (wl l)).length = ((ks.take j).flatMap (wl l)).length + (wl l ks[j]).length := by
  rw [List.take_succ_eq_append_getElem h, List.flatMap_append, List.length_append]; simp
theorem wls_le (l : List Nd) (ks : List Int) (j : Nat) : ((ks.take j).flatMap (wl l)).length ≤ ks.length * 65536 :=
  Nat.le_trans (wls_len l _) (Nat.mul_le_mul_right _ (by rw [List.length_take]; exact Nat.min_le_right _ _))
theorem max_ge (g : Int → Int) : ∀ (ks : List Int) (d : Int), d ≤ ks.foldl (fun d k => if k = 0 then d else mx2 d (g k + 1)) d ∧ ∀ q ∈ ks, q ≠ 0 → g q + 1 ≤ ks.foldl (fun d k => if k = 0 then d else mx2 d (g k + 1)) d
  | [], d => ⟨by simp, fun q hq => by simp at hq⟩
  | k :: r, d => by
    simp only [List.foldl_cons]
    have h := max_ge g r (if k = 0 then d else mx2 d (g k + 1))
    have h1 : d ≤ (if k = 0 then d else mx2 d (g k + 1)) := by
      split
      · omega
      · unfold mx2; split <;> omega
    refine ⟨by omega, fun q hq h0 => ?_⟩
    rcases List.mem_cons.1 hq with rfl | hq
    · have : g q + 1 ≤ (if q = 0 then d else mx2 d (g q + 1)) := by
        rw [if_neg h0]; unfold mx2; split <;> omega
      omega
    · exact h.2 q hq h0
theorem dep_kid {l : List Nd} (hv : Valid l) {x q : Int} (h1 : 1 ≤ x) (h2 : x ≤ l.length) (hq : q ∈ kidsOf (ndAt l x)) (h0 : q ≠ 0) : dep l q + 1 ≤ dep l x := by
  rw [dep_eq hv h1 h2]
  exact (max_ge (dep l) _ 1).2 q hq h0
theorem gokLDeep : GOK Try.prog (gam gLDeep) := gam_ok ⟨awake_ok, great_ok, laid_ok, orNil_ok depth0_ok depthA_ok, orNil_ok walkT0_ok walkU_ok, orNil_ok node0_ok nodeS_ok, orNil_ok add0_ok failT_ok, orNil_ok swap0_ok failT_ok, orNil_ok len0_ok failT_ok, trivial⟩
theorem kids20 {l : List Nd} (h : listOk l) {x : Int} (h1 : 1 ≤ x) (h2 : x ≤ l.length) : (kidsOf (ndAt l x)).length ≤ 20 := by
  refine h.2.2 _ ?_
  unfold ndAt
  rw [getD_at (show (x - 1).toNat < l.length by omega)]
  exact List.getElem_mem _
theorem deep_loop (d : DD) (hd : ddO d) (Q : Exit → SS → Prop) (hq : Q (.exit 0) (stDX d.l d.x d.w (1 + (d.ks.flatMap (wl d.l)).length))) : W 0 Try.prog (.loop (lp Try.f6 0)) (stD d.l d.x d.nd d.ks d.w 1 0) Q := by
  obtain ⟨l, x, nd, ks, w⟩ := d
  obtain ⟨hl, h1, h2, hks⟩ := hd
  dsimp only at hl h1 h2 hks hq ⊢
  have hk20 := kids20 hl h1 h2
  rw [← hks] at hk20
  have ht := list_tree hl
  have hlen := treeOf_len l
  have hhx : hasB (treeOf l).length x = true := hasB_iff.2 (by rw [hlen]; omega)
  refine W_loopE (N := 0) (P := Try.prog) (body := lp Try.f6 0) (Q := Q) (fun k : Nat => stD l x nd ks w (1 + (((ks.take k).flatMap (wl l)).length : Int)) k) (fun k => k ≤ ks.length) (fun k => ks.length - k) [5, 8, 9, 10, 11, 12] [5, 8, 10, 11] [4] (fun k hk => ?_) 0 (Nat.zero_le _)
  refine sx_ok (Λ := noLam) gokLDeep _ 0 _ _ noLam_ok ?_
  rw [vc_deepl]
  intro hm
  refine cond_of (fun hc => ?_) (fun hc => ?_)
  · have hc : k < ks.length := by simpa using hc
    have ei : IntKind.i64.wrap ((k : Int) + 1) = ((k + 1 : Nat) : Int) := w64n (n := k + 1) (by omega)
    have hs := wls_succ l ks k hc
    have hle := wls_le l ks k
    have hqm : ks[k] ∈ kidsOf (ndAt l x) := by rw [← hks]; exact List.getElem_mem hc
    have hkid := kid_lt hl.1 h1 h2 hqm
    have hdk := dep_kid hl.1 h1 h2 hqm
    rw [Int.toNat_natCast, Nat.zero_add, getD_at hc, ei, nodes_tree]
    generalize ks[k] = q at *
    have hwq := wl_len l q
    refine ⟨by omega, by omega, hc, cond_of (fun h0 => ?_) (fun h0 => ?_)⟩
    · have h0 : q = 0 := by simpa using h0
      subst h0
      rw [wl_zero, List.length_nil, Nat.add_zero] at hs
      exact ⟨k + 1, by rw [hs]; rfl, hc, by omega⟩
    · have h0 : q ≠ 0 := by simpa using h0
      have hhq : hasB (treeOf l).length q = true := hasB_iff.2 (by rw [hlen]; omega)
      have hdk := hdk h0
      rw [if_pos hhq, if_pos hhx]
      refine ⟨by omega, by omega, hc, ⟨rfl, ht⟩, ⟨rfl, ht⟩, cond_of (fun hg => by simp at hg; omega) (fun hg => ⟨by omega, by omega, hc, ⟨rfl, ht⟩, fun _ => ⟨k + 1, ?_, hc, by omega⟩⟩)⟩
      rw [show IntKind.i64.wrap (1 + (((ks.take k).flatMap (wl l)).length : Int) + ((wl l q).length : Int)) = 1 + (((ks.take (k + 1)).flatMap (wl l)).length : Int) by rw [w64 (by omega) (by omega), hs]; omega]
  · have hc : ¬ (k < ks.length) := by simpa using hc
    rw [List.take_of_length_le (by omega)]
    exact hq
theorem wls_flat {l : List Nd} (ks : List Int) (h : ∀ q ∈ ks, 0 ≤ q ∧ q ≤ l.length ∧ (0 < q → cnt l q ≤ 65536)) : ks.flatMap (wl l) = flat l ks := by
  induction ks with
  | nil => rfl
  | cons q r ih =>
    have h1 := h q (by simp)
    have ih := ih (fun p hp => h p (by simp [hp]))
    unfold flat at ih ⊢
    rw [List.flatMap_cons, ih, List.filter_cons]
    by_cases h0 : 0 < q
    · rw [if_pos (by simpa [Ch.part] using h0), List.flatMap_cons]
      congr 1
      unfold wl
      rw [if_pos (by rw [hasB_iff.2 (by omega), decide_eq_true (h1.2.2 h0)]; rfl)]
    · have : q = 0 := by omega
      subst this
      rw [wl_zero, if_neg (by simp [Ch.part])]; rfl
theorem flat_one {l : List Nd} {ks : List Int} {q : Int} (hq : q ∈ ks) (h0 : 0 < q) : (pre l q).length ≤ (flat l ks).length := by
  unfold flat
  have hm : q ∈ ks.filter Ch.part := List.mem_filter.2 ⟨hq, by simpa [Ch.part] using h0⟩
  generalize ks.filter Ch.part = r at hm ⊢
  induction r with
  | nil => simp at hm
  | cons p r ih =>
    rw [List.flatMap_cons, List.length_append]
    rcases List.mem_cons.1 hm with rfl | hm
    · omega
    · have := ih hm; omega
theorem deeper_ok (a : List Nd) (i : Int) : FSpec Try.prog 6 [.c (.row tN a), ti i] [] fun r h' => r = .p (.c (.bool true)) := by
  refine spec_body (Λ := lam [(0, deep_l)]) gokLDeep Try.func6 rfl ?_ ?_
  · exact lokl (l := [(0, lp Try.f6 0)]) ⟨lam_ok fun d Q a1 a2 => deep_loop d a1 Q a2, trivial⟩
  rw [vc_deep]
  refine cond_of (fun _ => rfl) (fun ha => ⟨ha, fun _ => ?_⟩)
  have hA := list_ok ha
  generalize laidL a = l at *
  have hl := hA.2.1
  have t1 := list_tree hA
  have hlen := treeOf_len l
  refine cond_of (fun h0 => ?_) (fun h0 _ => ?_)
  · have h0 : l.length = 0 := by simp at h0; simp [h0]
    have hno : ∀ n, n = 0 → hasB n i = false := by intro n hn; subst hn; simp [hasB]; omega
    rw [hno _ (by omega)]
    refine ⟨⟨rfl, t1⟩, cond_of (fun _ => ⟨⟨rfl, t1⟩, ?_⟩) (fun h => by simp at h)⟩
    rw [nodes_tree]
    unfold wl
    rw [hno _ h0]; rfl
  · have h0 : 0 < l.length := by simp at h0; cases l with | nil => simp at h0 | cons _ _ => simp
    obtain ⟨e3, e4⟩ := remU_eq i l.length (by omega) (by omega)
    have u1 : IntKind.u64.wrap (l.length : Int) ≠ 0 := by rw [w64u (by omega) (by omega)]; omega
    rw [e3, show IntKind.i64.wrap (1 + (remU i l.length : Int)) = ((1 + remU i l.length : Nat) : Int) by rw [w64 (by omega) (by omega)]; omega]
    obtain ⟨x, hx⟩ : ∃ x : Int, x = ((1 + remU i l.length : Nat) : Int) := ⟨_, rfl⟩
    rw [← hx]
    have hx1 : 1 ≤ x ∧ x ≤ l.length := by omega
    have hhx : hasB (treeOf l).length x = true := hasB_iff.2 (by omega)
    have hhl : hasB l.length x = true := hasB_iff.2 hx1
    have hre : (rowAt (treeOf l) x).1 = ndAt l x := by rw [tree_at t1 hx1.1 (by omega), nodes_tree]
    rw [hre, nodes_tree]
    have hks := fun k (hk : k ∈ kidsOf (ndAt l x)) => kid_lt hA.1 hx1.1 hx1.2 hk
    have hd1 := (dep_le hA.1 _ x (Nat.le_refl _) hx1.1 hx1.2).1
    refine ⟨u1, ⟨rfl, by omega, list_kids hA, hhx⟩, ⟨rfl, t1⟩, ⟨l, x, ndAt l x, kidsOf (ndAt l x), wl l x⟩, rfl, ⟨hA, hx1.1, hx1.2, rfl⟩, fun _ => ?_⟩
    dsimp only
    have hpos : ∀ A B : Int, (A == 1 + B) = true → 0 ≤ B → 0 < A := fun A B h hb => by have : A = 1 + B := (by simpa using h); omega
    refine ⟨fun h => ⟨by omega, hpos _ _ h (by omega), trivial⟩, fun h => ⟨by have := hpos _ _ h (by omega); omega, trivial⟩, cond_of (fun _ => ⟨⟨rfl, t1⟩, cond_of (fun _ => rfl) (fun h => ?_)⟩) (fun h => ?_)⟩
    · rw [nodes_tree, if_pos hhx] at h
      simp at h; omega
    · exfalso
      by_cases hcnt : cnt l x ≤ 65536
      · have hpre : pre l x = x :: flat l (kidsOf (ndAt l x)) := pre_eq hA.1 hx1.1 hx1.2
        have hw : wl l x = pre l x := by unfold wl; rw [if_pos (by rw [hhl, decide_eq_true hcnt]; rfl)]
        have hcx : cnt l x = (flat l (kidsOf (ndAt l x))).length + 1 := by unfold cnt; rw [hpre, List.length_cons]
        have hfl : (kidsOf (ndAt l x)).flatMap (wl l) = flat l (kidsOf (ndAt l x)) := wls_flat _ (fun q hq => by
          have := hks _ hq
          refine ⟨this.1, by omega, fun h0 => ?_⟩
          have := flat_one (l := l) hq h0
          unfold cnt; omega)
        rw [hw, hfl, hpre] at h
        simp at h
        omega
      · have hw : wl l x = [] := by unfold wl; rw [decide_eq_false hcnt, Bool.and_false]; rfl
        rw [hw] at h
        simp at h
theorem gokLCopies : GOK Try.prog (gam gLCopies) := gam_ok ⟨awake_ok, great_ok, laid_ok, swap_ok, walkU_ok, same_ok 100, len_ok, nodeS_ok, alike_ok, trivial⟩
theorem mem_succ {w : List Int} {y : Int} {h : Nat} (hc : h < w.length) : (decide (y ∈ w.take h) || w[h] == y) = decide (y ∈ w.take (h + 1)) := by
  rw [List.take_succ_eq_append_getElem hc, Bool.eq_iff_iff]
  simp only [Bool.or_eq_true, decide_eq_true_eq, List.mem_append, List.mem_singleton, beq_iff_eq]
  constructor
  · rintro (h | h)
    · exact .inl h
    · exact .inr h.symm
  · rintro (h | h)
    · exact .inl h
    · exact .inr h.symm
theorem c1_loop (d : C1D) (hw : d.w.length ≤ 65536) (Q : Exit → SS → Prop) (hq : Q (.exit 0) (stC1X d.l d.v d.x d.y d.j (decide (d.y ∈ d.w)))) : W 0 Try.prog (.loop (lp Try.f5 0)) (stC1 d.l d.v d.x d.y d.j d.w false 0) Q := by
  obtain ⟨l, v, x, y, j, w⟩ := d
  dsimp only at hw hq ⊢
  have h0 := W_loopE (N := 0) (P := Try.prog) (body := lp Try.f5 0) (Q := Q) (fun h : Nat => stC1 l v x y j w (decide (y ∈ w.take h)) h) (fun h => h ≤ w.length) (fun h => w.length - h) [7, 8, 12, 13, 14, 17, 18, 19, 20] [7, 8, 12, 13, 17, 18, 19] [] (fun h hh => by
    refine sx_ok (Λ := noLam) gokLCopies _ 0 _ _ noLam_ok ?_
    rw [vc_c1]
    intro hm
    refine cond_of (fun hc => ?_) (fun hc => ?_)
    · have hc : h < w.length := by simpa using hc
      have ei : IntKind.i64.wrap ((h : Int) + 1) = ((h + 1 : Nat) : Int) := w64n (n := h + 1) (by omega)
      rw [Int.toNat_natCast, Nat.zero_add, getD_at hc, ei, mem_succ hc]
      exact ⟨fun _ => ⟨by omega, by omega, trivial⟩, fun _ => ⟨hc, trivial⟩, h + 1, rfl, hc, by omega⟩
    · have hc : ¬ (h < w.length) := by simpa using hc
      rw [List.take_of_length_le (by omega)]
      exact hq) 0 (Nat.zero_le _)
  simpa using h0
theorem c2_loop (l : List Nd) (hl : listOk l) (Q : Exit → SS → Prop) (hq : Q (.exit 2) (stE 190 [])) : W 0 Try.prog (.loop (lp Try.f5 1)) (stC2 l 0) Q := by
  have h60 := hl.2.1
  refine W_loopE (N := 0) (P := Try.prog) (body := lp Try.f5 1) (Q := Q) (fun k : Nat => stC2 l k) (fun k => k ≤ l.length) (fun k => l.length - k) [7, 8, 23] [] [6] (fun k hk => ?_) 0 (Nat.zero_le _)
  refine sx_ok (Λ := noLam) gokLCopies _ 2 _ _ noLam_ok ?_
  rw [vc_c2]
  intro hm
  refine cond_of (fun hc => ?_) (fun hc => hq)
  have hc : k < l.length := by simpa using hc
  have ei : IntKind.i64.wrap ((k : Int) + 1) = ((k + 1 : Nat) : Int) := w64n (n := k + 1) (by omega)
  have hr := list_row hl hc
  rw [show ((k : Int) + 1) = ((k + 1 : Nat) : Int) by omega] at hr
  rw [ei, hr, Int.toNat_natCast, Nat.zero_add, getD_at hc, vw_all]
  have hh : hasB (treeOf l).length ((k + 1 : Nat) : Int) = true := hasB_iff.2 (by rw [treeOf_len]; omega)
  have hlen : (treeOf l).length ≤ 65536 := by rw [treeOf_len]; omega
  have hN : ((treeOf l).length = (treeOf l).length ∧ (treeOf l).length ≤ 65536 ∧ (∀ (r : tR.T), r ∈ treeOf l → (kidsOf r.fst).length ≤ 65536) ∧ hasB (treeOf l).length ((k + 1 : Nat) : Int) = true) := ⟨rfl, hlen, list_kids hl, hh⟩
  have hd : (!decide ((l[k].fst, l[k].snd.fst, l[k].snd.snd.fst, kidsOf l[k]) = l[k])) = false := by rw [decide_eq_true rfl]; rfl
  have hkl : 0 + (kidsOf l[k]).length ≤ (kidsOf l[k]).length := by omega
  exact ⟨by omega, by omega, ⟨hN, hc, hkl, by rw [hd]; exact ⟨k + 1, rfl, hc, by omega⟩⟩, hc, hN, hkl, by rw [hd]; exact ⟨k + 1, rfl, hc, by omega⟩⟩
def nN : Nd := (9, (0, 0, 0), ⟨#[]⟩, [])
def nT : Nd := (18, (0, 0, 0), ⟨#[115, 119, 97, 112, 112, 101, 100]⟩, [])
theorem copies_ok (a : List Nd) (i at_ : Int) : FSpec Try.prog 5 [.c (.row tN a), ti i, ti at_] [] fun r h' => r = .p (.c (.bool true)) := by
  refine spec_body (Λ := lam [(0, c1_l), (2, c2_l)]) gokLCopies Try.func5 rfl ?_ ?_
  · exact lokl (l := [(0, lp Try.f5 0), (2, lp Try.f5 1)]) ⟨lam_ok fun d Q a1 a2 => c1_loop d a1 Q a2, lam_ok fun l Q a1 a2 => c2_loop l a1 Q a2, trivial⟩
  rw [vc_copies]
  refine cond_of (fun _ => rfl) (fun ha => ⟨ha, fun _ => ?_⟩)
  have hA := list_ok ha
  generalize laidL a = l at *
  have hl := hA.2.1
  have t1 := list_tree hA
  have hlen := treeOf_len l
  have hkk := list_kids hA
  have hN : (((9 : Int), ((0 : Int), (0 : Int), (0 : Int)), (⟨#[]⟩ : ByteArray), ([] : List Int)) : Nd) = nN := rfl
  have hT : (((18 : Int), ((0 : Int), (0 : Int), (0 : Int)), (⟨#[115, 119, 97, 112, 112, 101, 100]⟩ : ByteArray), ([] : List Int)) : Nd) = nT := rfl
  have hS : (⟨#[115, 119, 97, 112, 112, 101, 100]⟩ : ByteArray) = nT.2.2.1 := rfl
  rw [hN, hT, hS]
  refine cond_of (fun h0 => ?_) (fun h0 _ => ?_)
  · have h0 : l.length = 0 := by simp at h0; simp [h0]
    refine ⟨⟨rfl, t1, hkk⟩, ⟨fun _ => rfl, fun hs => ?_⟩⟩
    exfalso
    unfold swapB at hs
    simp only [Bool.and_eq_true] at hs
    have := hasB_iff.1 hs.1.1
    omega
  · have h0 : 0 < l.length := by simp at h0; cases l with | nil => simp at h0 | cons _ _ => simp
    obtain ⟨e3, e4⟩ := remU_eq i l.length (by omega) (by omega)
    obtain ⟨e5, e6⟩ := remU_eq at_ l.length (by omega) (by omega)
    have u1 : IntKind.u64.wrap (l.length : Int) ≠ 0 := by rw [w64u (by omega) (by omega)]; omega
    rw [e3, e5, show IntKind.i64.wrap (1 + (remU i l.length : Int)) = ((1 + remU i l.length : Nat) : Int) by rw [w64 (by omega) (by omega)]; omega, show IntKind.i64.wrap (1 + (remU at_ l.length : Int)) = ((1 + remU at_ l.length : Nat) : Int) by rw [w64 (by omega) (by omega)]; omega]
    obtain ⟨x, hx⟩ : ∃ x : Int, x = ((1 + remU i l.length : Nat) : Int) := ⟨_, rfl⟩
    obtain ⟨y, hy⟩ : ∃ y : Int, y = ((1 + remU at_ l.length : Nat) : Int) := ⟨_, rfl⟩
    rw [← hx, ← hy, nodes_tree]
    have hx1 : 1 ≤ x ∧ x ≤ l.length := by omega
    have hy1 : 1 ≤ y ∧ y ≤ l.length := by omega
    have hhx : hasB (treeOf l).length x = true := hasB_iff.2 (by omega)
    have hhl : hasB l.length x = true := hasB_iff.2 hx1
    refine ⟨u1, fun _ => ⟨u1, ⟨rfl, t1⟩, fun _ => cond_of (fun _ => rfl) (fun hw => ?_)⟩⟩
    have hcnt := cnt_wl hhl (by simpa using hw)
    have hwe : wl l x = pre l x := by unfold wl; rw [if_pos (by rw [hhl, decide_eq_true hcnt]; rfl)]
    have hwl := wl_len l x
    have hsw : ∀ n : Nd, kindB n.1 = true → swapB (treeOf l) x n = true := fun n hn => by
      unfold swapB
      rw [hhx, hn, tree_at t1 hx1.1 (by omega), nodes_tree]
      simp; omega
    have hpm := pre_mem hA.1 _ x (Nat.le_refl _) hx1.1 hx1.2
    refine ⟨⟨rfl, t1, hkk⟩, ⟨fun hf => (by rw [hsw nN rfl] at hf; cases hf), fun _ s idx hC => ?_⟩⟩
    obtain ⟨c1, c2, ⟨d1, d2, d3, d4, d5⟩, c3, c4⟩ := hC
    have hs1 : sm l x (nodes s) idx = true := d4.2 (fun h => by have := hpm 0 h; omega)
    rw [hs1]
    refine ⟨⟨rfl, rfl, t1, c1, by omega⟩, cond_of (fun h => by simp at h) (fun _ => ⟨rfl, cond_of (fun h => ?_) (fun _ => ?_)⟩)⟩
    · have := c4 rfl
      rw [hwe] at h
      simp only [List.length_nil, Nat.zero_add] at this
      rw [this] at h
      unfold cnt at h
      simp at h
    refine ⟨⟨rfl, t1, hkk⟩, ⟨fun hf => (by rw [hsw nT rfl] at hf; cases hf), fun _ s idx hC => ?_⟩⟩
    obtain ⟨c1, c2, ⟨d1, d2, d3, d4, d5⟩, c3, c4⟩ := hC
    have ey : IntKind.i64.wrap (y - 1) = y - 1 := w64 (by omega) (by omega)
    have hyl : (y - 1).toNat < l.length := by omega
    refine ⟨⟨l, s, x, y, idx, wl l x⟩, rfl, hwl, ⟨rfl, rfl, t1, c1, by dsimp only; omega⟩, ?_⟩
    dsimp only
    rw [ey, Nat.zero_add, show l.getD (y - 1).toNat tN.dft = ndAt l y from rfl, nodes_tree, hwe]
    have hz : ∀ b : Bool, ((!(b == b)) = false) := fun b => by cases b <;> rfl
    have key : (!sm l x (nodes s) idx) = (decide (y ∈ pre l x) && !((ndAt l y).fst == 18 && strEq (ndAt l y).snd.snd.fst nT.2.2.1 && ((List.length (ndAt l y).snd.snd.snd : Int) == 0))) := by
      have hst := strEq_iff (ndAt l y).snd.snd.fst nT.2.2.1
      have hb : (((ndAt l y).fst == 18 && strEq (ndAt l y).snd.snd.fst nT.2.2.1 && ((List.length (ndAt l y).snd.snd.snd : Int) == 0)) = true) ↔ bareP l y nT := by
        simp only [Bool.and_eq_true, hst, bareP]
        constructor
        · rintro ⟨⟨h1, h2⟩, h3⟩
          have h1 : (ndAt l y).fst = 18 := by simpa using h1
          refine ⟨h1, h2, ?_⟩
          have : (ndAt l y).snd.snd.snd.length = 0 := by simp at h3; simp [h3]
          exact List.eq_nil_of_length_eq_zero this
        · rintro ⟨h1, h2, h3⟩
          refine ⟨⟨by rw [h1]; rfl, h2⟩, ?_⟩
          have h3 : (ndAt l y).snd.snd.snd = [] := h3
          rw [h3]; rfl
      by_cases hm : y ∈ pre l x
      · rw [decide_eq_true hm, Bool.true_and]
        congr 1
        rw [Bool.eq_iff_iff, d4, hb]
        exact ⟨fun h => h hm, fun h _ => h⟩
      · rw [decide_eq_false hm, Bool.false_and, d4.2 (fun h => absurd h hm)]; rfl
    refine ⟨by omega, by omega, hyl, fun _ => ⟨by omega, by omega, trivial⟩, fun _ => ⟨hyl, trivial⟩, fun _ => ⟨by omega, by omega, trivial⟩, fun _ => ⟨hyl, trivial⟩, cond_of (fun h => ?_) (fun _ => ⟨rfl, cond_of (fun h => ?_) (fun _ => ⟨l, rfl, hA, rfl⟩)⟩)⟩
    · rw [key, hz] at h; cases h
    · rw [hlen] at h; simp at h
end Go.Proofs.Ytmncmmdicpcgmaa.Ch
