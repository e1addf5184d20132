/- Chapter 22 (reach): flow.Of over the abstract machine. No condition. -/
import Derived.Test.YtckijackbldkhaaP
namespace Go.Proofs.Ytckijackbldkhaa.Ch
open Go Go.Proofs Go.Proofs.Ytckijackbldkhaa.Sx
set_option linter.unusedVariables false
set_option linter.unusedSimpArgs false

theorem set_app_last {α : Type} (l : List α) (a b : α) : (l ++ [a]).set l.length b = l ++ [b] := by
  rw [List.set_append_right _ _ (Nat.le_refl _), Nat.sub_self]; rfl
theorem gokH (l : List (Nat × List Nat)) {g : List (Nat × List Bool × Tr)} (h : GOKL Try.prog g) : GOKL Try.prog (g ++ l.map fun q => ghk q.1 q.2) := by
  induction g with
  | nil =>
    induction l with
    | nil => trivial
    | cons a r ih => exact ⟨failT_ok, ih⟩
  | cons a r ih => exact ⟨h.1, ih h.2⟩
theorem gokOf1 : GOK Try.prog (gam [ghk 10 [0, 3], ghk 11 [1, 3, 6, 0, 0], ghk 12 [0, 3]]) := gam_ok ⟨failT_ok, failT_ok, failT_ok, trivial⟩
theorem wrap_len (n : Nat) (h : 0 < n) (hm : n ≤ 1000000) : IntKind.i64.wrap ((n : Int) - 1) = ((n - 1 : Nat) : Int) := by rw [w64 (by omega) (by omega)]; omega
theorem of1_step (p : Pro) (Q : Exit → SS → Prop) (hp : smallP p) (hg : goodV p = true) (hq : Q (.exit 0) (⟨121, [(1, .p (.c (.ptr 0 0))), (2, .p (.c (.ptr 1 0))), (3, .p (.c (.ptr 2 0)))], hpOf p (b1V p p.code.length).1 (b1V p p.code.length).2⟩ : SS)) :
    W 0 Try.prog (.loop (lp Try.f8 0)) (stOf0 p (begV p) (List.replicate p.code.length 0)) Q := by
  refine W_ownHN 37 none fsB tBlk 2 0 (W_fits (t := stOf p (begV p) [] (List.replicate p.code.length 0) 0) ⟨⟨rfl, rfl, rfl⟩, ⟨rfl, rfl, rfl, rfl, rfl, rfl, trivial⟩, rfl⟩ ?_)
  have hcl := hp.1
  refine W_all (fun k => stOf p (begV p) (b1V p k).1 (b1V p k).2 k) p.code.length (fun _ => True) [1, 2, 3, 4, 25, 26] [1, 2, 3] [] (fun k hk _ K hK => sx_ok (Λ := noLam) gokOf1 _ 0 _ _ noLam_ok ?_)
  rw [vc_ofL]
  have hI := b1_inv p k hk
  have hbl := beg_len p
  refine cond_of (fun hc => ?_) (fun hc => ?_)
  · have hc : k < p.code.length := by have := of_decide_eq_true hc; omega
    have ei : IntKind.i64.wrap ((k : Int) + 1) = ((k + 1 : Nat) : Int) := w64n (n := k + 1) (by omega)
    have hKK := hK hc trivial
    rw [b1_next] at hKK
    have hla := hI.la
    have hlb := hI.lb
    generalize b1V p k = s at hKK hI hla hlb ⊢
    obtain ⟨bl, at_⟩ := s
    unfold b1Step at hKK
    dsimp only at hKK hla hlb ⊢
    have ev : ∀ l : List Int, vw l 0 l.length = l := fun l => vw_all l
    simp only [ei, Nat.zero_add, Int.toNat_natCast, ev]
    refine ⟨by omega, by omega, by omega, cond_of (fun hb => ?_) (fun hb => ?_)⟩
    · have hb : (begV p).getD k false = true := hb
      rw [if_pos hb] at hKK
      have e1 := wrap_len (bl.length + 1) (by omega) (by omega)
      have e1' : bl.length + 1 - 1 = bl.length := by omega
      rw [e1'] at e1
      simp only [set_app_last, e1, Int.toNat_natCast, List.length_append, List.length_cons, List.length_nil]
      refine ⟨trivial, by omega, by omega, fun _ => ⟨by show (0 : Int) ≤ (bl.length : Int); omega, fun q hq' => ?_⟩⟩
      obtain rfl : q = bl.length := by have : (bl.length : Int) = (q : Int) := hq'; omega
      refine ⟨by omega, fun x hx => ⟨by omega, by omega, by omega, by omega, by omega, rfl, by omega, by omega, Nat.le_refl _, Nat.le_refl _, ?_⟩⟩
      rw [List.length_append] at hKK
      have e2 : bl.length + [((k : Int), (0 : Int), ([] : List Int), ([] : List Int), ())].length - 1 = bl.length := rfl
      rw [e2] at hKK
      have e3 : (((bl.length + [((k : Int), (0 : Int), ([] : List Int), ([] : List Int), ())].length : Nat) : Int) - 1) = (bl.length : Int) := by
        show ((bl.length + 1 : Nat) : Int) - 1 = _; omega
      rw [e3] at hKK
      have hx' : List.getD (bl ++ [((k : Int), (0 : Int), [], [], ())]) bl.length tBlk.dft = x := hx
      rw [hx'] at hKK
      unfold stOf at hKK
      rw [List.length_set, List.length_set, List.length_append] at hKK
      exact hKK
    · have hb : (begV p).getD k false = false := hb
      have hb' : ¬ (begV p).getD k false = true := by rw [hb]; decide
      rw [if_neg hb'] at hKK
      have hk0 : 0 < k := by
        rcases Nat.eq_zero_or_pos k with h0 | h0
        · subst h0; exact absurd (beg_zero p) hb'
        · exact h0
      have hpos := hlb.2 hk0
      have e1 := wrap_len bl.length hpos (by omega)
      simp only [e1, Int.toNat_natCast]
      refine fun _ => ⟨by show (0 : Int) ≤ ((bl.length - 1 : Nat) : Int); omega, fun q hq' => ?_⟩
      obtain rfl : q = bl.length - 1 := by have : ((bl.length - 1 : Nat) : Int) = (q : Int) := hq'; omega
      refine ⟨by omega, fun x hx => ⟨by omega, by omega, by omega, by omega, by omega, rfl, by omega, by omega, Nat.le_refl _, Nat.le_refl _, ?_⟩⟩
      have e3 : ((bl.length : Int) - 1) = ((bl.length - 1 : Nat) : Int) := by omega
      rw [e3] at hKK
      have hx' : List.getD bl (bl.length - 1) tBlk.dft = x := hx
      rw [hx'] at hKK
      unfold stOf at hKK
      rw [List.length_set, List.length_set] at hKK
      exact hKK
  · have hc : ¬ k < p.code.length := by have := of_decide_eq_false hc; omega
    obtain rfl : k = p.code.length := by omega
    exact hq
theorem gokOf3 : GOK Try.prog (gam [ghk 21 [1, 3, 7, 0, 0], ghk 22 [1, 3, 11, 0, 0], ghk 23 [0, 3]]) := gam_ok ⟨failT_ok, failT_ok, failT_ok, trivial⟩
/-- Where the targets lie, as blocks. -/
def tgts (at_ : List Int) (l : List Int) : List Int := l.map fun k => at_.getD k.toNat 0
theorem edges_map (b : Nat) (at_ l : List Int) (bl : List Blk) : l.foldl (fun bl k => edge b bl (at_.getD k.toNat 0)) bl = (tgts at_ l).foldl (edge b) bl := by unfold tgts; rw [List.foldl_map]
theorem tgts_in {n : Nat} {at_ l : List Int} (hl : inR at_.length l) (ha : inR n at_) : inR n (tgts at_ l) := fun k hk => by
  obtain ⟨c, hc, rfl⟩ := List.mem_map.1 hk
  have := hl c hc
  exact ha _ (getD_mem' (by omega))
theorem of3_step (p : Pro) (bl : List Blk) (at_ : List Int) (b : Nat) (l : List Int) (Q : Exit → SS → Prop) (hI : InvE p bl at_ b l) (hq : Q (.exit 4) (stOf2 p (l.foldl (fun bl k => edge b bl (at_.getD k.toNat 0)) bl) at_ b)) :
    W 0 Try.prog (.loop (lpIn (lp Try.f8 1) 2 0)) (stOf3 p bl at_ b l 0) Q := by
  refine W_all (fun j => stOf3 p ((tgts at_ (l.take j)).foldl (edge b) bl) at_ b l j) l.length (fun _ => True) [1, 2, 3, 7, 59, 60, 76, 77, 78] [1, 2, 3, 59, 60] [] (fun j hj _ K hK => sx_ok (Λ := noLam) gokOf3 _ 4 _ _ noLam_ok ?_)
  rw [vc_ofI]
  obtain ⟨hb, ⟨hl, hll⟩, ha, hs⟩ := hI
  obtain ⟨e1, e2⟩ := edges_get (b := b) (tgts at_ (l.take j)) bl hb (tgts_in (fun k hk => hl k (List.mem_of_mem_take hk)) ha)
  have htl : (tgts at_ (l.take j)).length ≤ j := by unfold tgts; rw [List.length_map, List.length_take]; omega
  have hsz : ∀ i, i < bl.length → (((tgts at_ (l.take j)).foldl (edge b) bl).getD i tBlk.dft).2.2.1.length ≤ 1000000 - l.length + j ∧ (((tgts at_ (l.take j)).foldl (edge b) bl).getD i tBlk.dft).2.2.2.1.length ≤ 1000000 - l.length + j := fun i hi => by
    rw [e2 i]
    have := hs _ (getD_mem' (d := tBlk.dft) hi)
    have hf := List.length_filter_le (fun t : Int => decide (t.toNat = i)) (tgts at_ (l.take j))
    constructor
    · show (if i = b then _ else _ : List Int).length ≤ _
      split
      · rw [List.length_append]; omega
      · omega
    · show List.length (_ ++ _) ≤ _
      rw [List.length_append, List.length_map]; omega
  refine cond_of (fun hc => ?_) (fun hc => ?_)
  · have hc : j < l.length := by have := of_decide_eq_true hc; omega
    have ei : IntKind.i64.wrap ((j : Int) + 1) = ((j + 1 : Nat) : Int) := w64n (n := j + 1) (by omega)
    have hKK := hK hc trivial
    have etk : (tgts at_ (l.take (j + 1))).foldl (edge b) bl = edge b ((tgts at_ (l.take j)).foldl (edge b) bl) (at_.getD (l.getD j 0).toNat 0) := by
      unfold tgts
      rw [List.foldl_map, List.foldl_map, take_fold (d := 0) hc]
    simp only [etk] at hKK
    have hk := hl _ (getD_mem' (d := 0) hc)
    have hto := ha _ (getD_mem' (d := 0) (l := at_) (i := (l.getD j 0).toNat) (by omega))
    generalize (tgts at_ (l.take j)).foldl (edge b) bl = B at hKK hsz e1 ⊢
    have ev : ∀ l : List Int, vw l 0 l.length = l := fun l => vw_all l
    have d1 : (tI.dft : Int) = 0 := rfl
    simp only [ei, Nat.zero_add, Int.toNat_natCast, ev, d1, List.length_set]
    generalize at_.getD (l.getD j 0).toNat 0 = to at hKK hto ⊢
    refine ⟨by omega, by omega, hc, hk.1, hk.2, by omega, by show (0 : Int) ≤ (b : Int); omega, fun q hq' => ?_⟩
    obtain rfl : q = b := by have : (b : Int) = (q : Int) := hq'; omega
    have h9 := hsz q hb
    refine ⟨by omega, fun x hx => ?_⟩
    have hx' : B.getD q tBlk.dft = x := hx
    rw [hx'] at h9
    refine ⟨by omega, by omega, rfl, by omega, Nat.le_refl _, Nat.le_refl _, by rw [List.length_append]; show (_ + 1) * 8 ≤ _; omega, by omega, by omega, rfl, by omega, by omega, Nat.le_refl _, Nat.le_refl _, hto.1, fun r hr => ?_⟩
    have hr' : to = (r : Int) := hr
    refine ⟨by omega, fun y hy => ?_⟩
    have hyl : List.length y.2.2.2.1 ≤ 1000000 - l.length + j := by
      rw [← hy]
      show List.length ((B.set q _).getD r tBlk.dft).2.2.2.1 ≤ _
      rw [getD_set (by omega)]
      split
      · exact h9.2
      · exact (hsz r (by omega)).2
    have he : edge q B to = (B.set q (x.1, x.2.1, x.2.2.1 ++ [to], x.2.2.2.1, ())).set r (y.1, y.2.1, y.2.2.1, y.2.2.2.1 ++ [(q : Int)], ()) := by
      have hy' : (B.set q (x.1, x.2.1, x.2.2.1 ++ [to], x.2.2.2.1, ())).getD r tBlk.dft = y := hy
      unfold edge
      simp only
      rw [hx', show to.toNat = r by omega]
      show (B.set q (x.1, x.2.1, x.2.2.1 ++ [to], x.2.2.2.1, ())).set r _ = _
      rw [show List.getD (B.set q (x.1, x.2.1, x.2.2.1 ++ [to], x.2.2.2)) r tBlk.dft = y from hy']
    rw [he] at hKK
    unfold stOf3 at hKK
    rw [List.length_set, List.length_set] at hKK
    exact ⟨by omega, by omega, by omega, by omega, Nat.le_refl _, Nat.le_refl _, by rw [List.length_append]; show (_ + 1) * 8 ≤ _; omega, by omega, by omega, by omega, by omega, by omega, Nat.le_refl _, Nat.le_refl _, hKK⟩
  · have hc : ¬ j < l.length := by have := of_decide_eq_false hc; omega
    obtain rfl : j = l.length := by omega
    rw [List.take_length, ← edges_map]
    exact hq
/-! ### all edges -/
noncomputable def lastV (p : Pro) (j : Nat) : Int := ((b1V p p.code.length).1.getD j tBlk.dft).2.1 - 1
noncomputable def nexL (p : Pro) (j : Nat) : List Int := nextV (p.code.getD (lastV p j).toNat tIns.dft) (lastV p j)
noncomputable def sucV (p : Pro) (j : Nat) : List Int := tgts (b1V p p.code.length).2 (nexL p j)
noncomputable def prevs (p : Pro) (b j : Nat) : List Int := (List.range b).flatMap fun i => ((sucV p i).filter fun t => decide (t.toNat = j)).map fun _ => (i : Int)
theorem last_ok {p : Pro} {j : Nat} (hj : j < (b1V p p.code.length).1.length) : 0 ≤ lastV p j ∧ (lastV p j).toNat < p.code.length ∧ lastV p j < (p.code.length : Int) := by
  have h := (b1_inv p _ (Nat.le_refl _)).hb _ (getD_mem' (d := tBlk.dft) hj)
  have h1 : 1 ≤ lastV p j + 1 := by unfold lastV; rw [Int.sub_add_cancel]; exact h.1
  have h2 : lastV p j + 1 ≤ (p.code.length : Int) := by unfold lastV; rw [Int.sub_add_cancel]; exact h.2.1
  omega
theorem nexL_in {p : Pro} (hg : goodV p = true) {j : Nat} (hj : j < (b1V p p.code.length).1.length) : inR p.code.length (nexL p j) := by
  obtain ⟨h1, h2, h3⟩ := last_ok hj
  have := next_inR hg h2
  unfold nexL
  rwa [show (((lastV p j).toNat : Nat) : Int) = lastV p j by omega] at this
theorem nexL_len {p : Pro} (hp : smallP p) {j : Nat} (hj : j < (b1V p p.code.length).1.length) : (nexL p j).length ≤ 21 := next_len _ _ (sml_at hp (last_ok hj).2.1)
theorem at_in (p : Pro) : inR (b1V p p.code.length).1.length (b1V p p.code.length).2 := by
  have h := b1_inv p _ (Nat.le_refl _)
  intro k hk
  obtain ⟨i, hi, rfl⟩ := mem_getD (d := (0 : Int)) hk
  exact h.ha i (by rw [h.la] at hi; exact hi)
theorem suc_in {p : Pro} (hg : goodV p = true) {j : Nat} (hj : j < (b1V p p.code.length).1.length) : inR (b1V p p.code.length).1.length (sucV p j) := by
  unfold sucV
  refine tgts_in ?_ (at_in p)
  rw [(b1_inv p _ (Nat.le_refl _)).la]
  exact nexL_in hg hj
theorem suc_len {p : Pro} (hp : smallP p) {j : Nat} (hj : j < (b1V p p.code.length).1.length) : (sucV p j).length ≤ 21 := by unfold sucV tgts; rw [List.length_map]; exact nexL_len hp hj
theorem b2_next (p : Pro) (n : Nat) : b2V p (n + 1) = b2Step p (b1V p p.code.length).2 (b2V p n) n := by unfold b2V; exact range_fold
theorem b2_get {p : Pro} (hg : goodV p = true) : ∀ b, b ≤ (b1V p p.code.length).1.length → (b2V p b).length = (b1V p p.code.length).1.length ∧ ∀ j, j < (b1V p p.code.length).1.length →
    (b2V p b).getD j tBlk.dft = (((b1V p p.code.length).1.getD j tBlk.dft).1, ((b1V p p.code.length).1.getD j tBlk.dft).2.1, (if j < b then sucV p j else []), prevs p b j, ())
  | 0, _ => ⟨rfl, fun j hj => by
    have h := (b1_inv p _ (Nat.le_refl _)).hb _ (getD_mem' (d := tBlk.dft) hj)
    have e1 : (if j < 0 then sucV p j else []) = [] := if_neg (Nat.not_lt_zero _)
    rw [e1]
    show (b1V p p.code.length).1.getD j tBlk.dft = (_, _, [], [], ())
    rw [← h.2.2.1]
    conv => rhs; rw [h.2.2.1]
    generalize (b1V p p.code.length).1.getD j tBlk.dft = x at h ⊢
    obtain ⟨x1, x2, x3, x4, x5⟩ := x
    have h3 : x3 = [] := h.2.2.1
    have h4 : x4 = [] := h.2.2.2
    subst h3 h4
    rfl⟩
  | b + 1, hb => by
    obtain ⟨h1, h2⟩ := b2_get hg b (by omega)
    rw [b2_next]
    unfold b2Step
    have hbb := h2 b (by omega)
    have e1 : ((b2V p b).getD b tBlk.dft).2.1 - 1 = lastV p b := by rw [hbb]; rfl
    rw [e1, edges_map]
    show ((sucV p b).foldl (edge b) (b2V p b)).length = _ ∧ _
    obtain ⟨g1, g2⟩ := edges_get (b := b) (sucV p b) (b2V p b) (by omega) (by rw [h1]; exact suc_in hg (by omega))
    refine ⟨by rw [g1, h1], fun j hj => ?_⟩
    show ((sucV p b).foldl (edge b) (b2V p b)).getD j tBlk.dft = _
    rw [g2 j, h2 j hj]
    simp only
    have e2 : prevs p (b + 1) j = prevs p b j ++ ((sucV p b).filter fun t => decide (t.toNat = j)).map fun _ => (b : Int) := by
      unfold prevs; rw [List.range_succ, List.flatMap_append]; simp
    rw [e2]
    by_cases hjb : j = b
    · subst hjb; rw [if_pos rfl, if_neg (Nat.lt_irrefl _), if_pos (Nat.lt_succ_self _)]; rfl
    · rw [if_neg hjb]
      by_cases hlt : j < b
      · rw [if_pos hlt, if_pos (by omega)]
      · rw [if_neg hlt, if_neg (by omega)]
theorem prevs_len {p : Pro} (hp : smallP p) (j : Nat) : ∀ b, b ≤ (b1V p p.code.length).1.length → (prevs p b j).length ≤ 21 * b
  | 0, _ => by unfold prevs; simp
  | b + 1, hb => by
    have ih := prevs_len hp j b (by omega)
    have e2 : prevs p (b + 1) j = prevs p b j ++ ((sucV p b).filter fun t => decide (t.toNat = j)).map fun _ => (b : Int) := by
      unfold prevs; rw [List.range_succ, List.flatMap_append]; simp
    rw [e2, List.length_append, List.length_map]
    have h1 := List.length_filter_le (fun t : Int => decide (t.toNat = j)) (sucV p b)
    have h2 := suc_len hp (j := b) (by omega)
    omega
end Go.Proofs.Ytckijackbldkhaa.Ch
