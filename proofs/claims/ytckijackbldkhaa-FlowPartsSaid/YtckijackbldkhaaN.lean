/- Chapter 22 (reach): the order of blocks: proved. No condition. -/
import Derived.Test.YtckijackbldkhaaL
namespace Go.Proofs.Ytckijackbldkhaa.Ch
open Go Go.Proofs Go.Proofs.Ytckijackbldkhaa.Sx
set_option linter.unusedVariables false
set_option linter.unusedSimpArgs false

/-! ### turning a row round -/
def revAt (l : List Int) (a : Nat) (c : List Int) : Prop := c.length = l.length ∧ ∀ k, k < l.length → c.getD k 0 = if k < a ∨ l.length ≤ k + a then l.getD (l.length - 1 - k) 0 else l.getD k 0
theorem getD_set {α : Type} {l : List α} {i k : Nat} {x d : α} (h : i < l.length) : (l.set i x).getD k d = if i = k then x else l.getD k d := by
  simp only [List.getD_eq_getElem?_getD, List.getElem?_set]
  by_cases hik : i = k
  · subst hik; rw [if_pos rfl, if_pos rfl, if_pos h]; rfl
  · rw [if_neg hik, if_neg hik]
theorem ext_getD {α : Type} {l m : List α} {d : α} (h : l.length = m.length) (hk : ∀ k, k < l.length → l.getD k d = m.getD k d) : l = m := by
  apply List.ext_getElem h
  intro i h1 h2
  have := hk i h1
  rwa [getD_at h1, getD_at h2] at this
theorem rev_done {l c : List Int} {a : Nat} (h : revAt l a c) (ha : l.length ≤ 2 * a + 1) (ha2 : 2 * a ≤ l.length + 1) : c = l.reverse := by
  refine ext_getD (d := 0) (by rw [List.length_reverse]; exact h.1) (fun k hk => ?_)
  rw [h.1] at hk
  rw [h.2 k hk]
  have e : l.reverse.getD k 0 = l.getD (l.length - 1 - k) 0 := by
    rw [getD_at (by rw [List.length_reverse]; exact hk), List.getElem_reverse, getD_at (by omega)]
  rw [e]
  split
  · rfl
  · rw [show l.length - 1 - k = k by omega]
theorem rev_next {l c : List Int} {a : Nat} (h : revAt l a c) (ha : 2 * a + 1 < l.length) : revAt l (a + 1) ((c.set a (c.getD (l.length - 1 - a) 0)).set (l.length - 1 - a) (c.getD a 0)) := by
  obtain ⟨h1, h2⟩ := h
  refine ⟨by rw [List.length_set, List.length_set]; exact h1, fun k hk => ?_⟩
  rw [getD_set (by rw [List.length_set]; omega), getD_set (by omega)]
  by_cases e1 : l.length - 1 - a = k
  · subst e1
    rw [if_pos rfl, if_pos (.inr (by omega)), h2 a (by omega), if_neg (by omega)]
    congr 1; omega
  · rw [if_neg e1]
    by_cases e2 : a = k
    · subst e2
      rw [if_pos rfl, if_pos (.inl (by omega)), h2 _ (by omega), if_neg (by omega)]
    · rw [if_neg e2, h2 k hk]
      by_cases e3 : k < a ∨ l.length ≤ k + a
      · rw [if_pos e3, if_pos (by omega)]
      · rw [if_neg e3, if_neg (by omega)]
theorem rv_step (l : List Int) (Q : Exit → SS → Prop) (hl : l.length ≤ 1000000) (hq : Q (.exit 0) (⟨28, [], [.row 3 tF l.reverse]⟩ : SS)) : W 1 Try.prog (.loop (lp Try.f33 0)) (stRv l 0 ((l.length : Int) - 1)) Q := by
  have e0 : stRv l 0 ((l.length : Int) - 1) = (fun x : List Int × Nat => stRv x.1 x.2 ((l.length : Int) - 1 - x.2)) (l, 0) := by
    show stRv l 0 ((l.length : Int) - 1) = stRv l ((0 : Nat) : Int) ((l.length : Int) - 1 - ((0 : Nat) : Int))
    rw [show (l.length : Int) - 1 - ((0 : Nat) : Int) = (l.length : Int) - 1 by omega]; rfl
  rw [e0]
  refine W_loopE (fun x : List Int × Nat => stRv x.1 x.2 ((l.length : Int) - 1 - x.2)) (fun x => revAt l x.2 x.1 ∧ 2 * x.2 ≤ l.length + 1) (fun x => l.length - x.2) [0, 2, 3] [] [] (fun x ⟨hr, hx⟩ => sx_ok (Λ := noLam) gok0 _ 0 _ _ noLam_ok ?_) (l, 0) ⟨⟨rfl, fun k hk => by rw [if_neg (by omega)]⟩, by omega⟩
  rw [vc_revL]
  obtain ⟨c, a⟩ := x
  dsimp only at hr hx ⊢
  have hcl := hr.1
  refine cond_of (fun hc => ?_) (fun hc => ?_)
  · have hc : (a : Int) < (l.length : Int) - 1 - a := of_decide_eq_true hc
    have e1 : IntKind.i64.wrap ((a : Int) + 1) = ((a + 1 : Nat) : Int) := w64n (n := a + 1) (by omega)
    have e2 : IntKind.i64.wrap ((l.length : Int) - 1 - a - 1) = (l.length : Int) - 1 - ((a + 1 : Nat) : Int) := by rw [w64 (by omega) (by omega)]; omega
    have e3 : ((l.length : Int) - 1 - a).toNat = l.length - 1 - a := by omega
    have hn := rev_next hr (by omega)
    rw [e1, e2, e3]
    simp only [Nat.zero_add, Int.toNat_natCast, List.length_set]
    have fin : cq 1 [0, 2, 3] (fun t => True) = cq 1 [0, 2, 3] (fun t => True) := rfl
    have hK : ∃ y : List Int × Nat, (⟨28, [(0, .p (.c (.view tF 0 0 c.length))), (2, .p (ti ((a + 1 : Nat) : Int))), (3, .p (ti ((l.length : Int) - 1 - ((a + 1 : Nat) : Int))))], [.row 3 tF ((c.set a (c.getD (l.length - 1 - a) tF.dft)).set (l.length - 1 - a) (c.getD a tF.dft))]⟩ : SS) = stRv y.1 y.2 ((l.length : Int) - 1 - y.2) ∧ (revAt l y.2 y.1 ∧ 2 * y.2 ≤ l.length + 1) ∧ l.length - y.2 < l.length - a := by
      refine ⟨((c.set a (c.getD (l.length - 1 - a) 0)).set (l.length - 1 - a) (c.getD a 0), a + 1), ?_, ⟨hn, by omega⟩, by omega⟩
      unfold stRv
      rw [List.length_set, List.length_set]
      rfl
    refine ⟨by omega, by omega, by omega, by omega, ⟨by omega, by omega, by omega, by omega, by omega, by omega, by omega, by omega, hK⟩, by omega, by omega, by omega, by omega, by omega, by omega, by omega, by omega, hK⟩
  · have hc : ¬ (a : Int) < (l.length : Int) - 1 - a := of_decide_eq_false hc
    rw [rev_done hr (by omega) hx]
    exact hq
theorem rev_ok : ∀ args h Q, rev_t args h Q → FSpec Try.prog 33 args h Q := trH_ok fun ((c, _) : (Nat × Nat) × Unit) ((l, _) : List Int × Unit) Q ⟨⟨e, hl⟩, h⟩ => by
  dsimp only at e hl h
  subst e
  refine spec_body (Λ := lam [(0, rv_l)]) gok0 Try.func33 rfl (lokl (l := [(0, lp Try.f33 0)]) ⟨lam_ok (fun l Q h1 h2 => rv_step l Q h1 h2), trivial⟩) ?_
  show body Try.prog (gam []) (lam [(0, rv_l)]) Try.f33 [.c (.view tF 0 0 l.length)] [.row 3 tF l] _
  rw [vc_rev]
  exact fun _ => ⟨l, by rw [show IntKind.i64.wrap ((l.length : Int) - 1) = (l.length : Int) - 1 from w64 (by omega) (by omega)], hl, h⟩
/-! ### depth first -/
theorem topW_app (pre : List (Int × Int)) (w : Int × Int) : topW (pre ++ [w]) = w := by
  unfold topW
  rw [List.length_append, getD_at (by simp)]
  simp
def cntF : List Bool → Nat
  | [] => 0
  | b :: r => (if b then 0 else 1) + cntF r
theorem cntF_set : ∀ {s : List Bool} {k : Nat}, k < s.length → s.getD k false = false → cntF (s.set k true) + 1 = cntF s
  | [], k, h, _ => by simp at h
  | b :: r, 0, _, h => by
    have h : b = false := h
    subst h
    show (if true = true then 0 else 1) + cntF r + 1 = (if false = true then 0 else 1) + cntF r
    rw [if_pos rfl, if_neg (by decide)]; omega
  | b :: r, k + 1, h, hb => by
    have := cntF_set (s := r) (k := k) (by simpa using h) hb
    show (if b = true then 0 else 1) + cntF (r.set k true) + 1 = (if b = true then 0 else 1) + cntF r
    omega
theorem cntF_le : ∀ (s : List Bool), cntF s ≤ s.length
  | [] => Nat.le_refl _
  | b :: r => by
    have := cntF_le r
    show (if b = true then 0 else 1) + cntF r ≤ r.length + 1
    split <;> omega
noncomputable def wsum (bl : List Blk) (st : List (Int × Int)) : Nat := (st.map fun w => (nxt bl w.1).length + 1 - w.2.toNat).sum
theorem wsum_app (bl : List Blk) (a b : List (Int × Int)) : wsum bl (a ++ b) = wsum bl a + wsum bl b := by unfold wsum; rw [List.map_append, List.sum_append]
theorem wsum_one (bl : List Blk) (w : Int × Int) : wsum bl [w] = (nxt bl w.1).length + 1 - w.2.toNat := by unfold wsum; simp
/-- What holds along the way. -/
structure InvO (bl : List Blk) (x : Dfs) : Prop where
  ls : x.1.length = bl.length
  st : ∀ w ∈ x.2.2, 0 ≤ w.1 ∧ w.1 < (bl.length : Int) ∧ 0 ≤ w.2 ∧ w.2 ≤ ((nxt bl w.1).length : Int)
  cn : x.2.1.length + x.2.2.length + cntF x.1 = bl.length
noncomputable def muO (bl : List Blk) (x : Dfs) : Nat := cntF x.1 * 102 + wsum bl x.2.2
theorem nxt_mem {bl : List Blk} {b : Int} (h0 : 0 ≤ b) (h1 : b < (bl.length : Int)) : bl.getD b.toNat tBlk.dft ∈ bl := getD_mem' (by omega)
theorem nxt_ok {bl : List Blk} (hB : OkB bl) {b : Int} (h0 : 0 ≤ b) (h1 : b < (bl.length : Int)) : (nxt bl b).length ≤ 100 ∧ inR bl.length (nxt bl b) := hB.2.2 _ (nxt_mem h0 h1)
theorem ord_pop {bl : List Blk} {s : List Bool} {l : List Int} {pre : List (Int × Int)} {w : Int × Int} (hw : w.2 = ((nxt bl w.1).length : Int)) : ordStep bl (s, l, pre ++ [w]) = (s, l ++ [w.1], pre) := by
  unfold ordStep
  simp only [topW_app]
  rw [if_pos hw]
  simp
theorem set_last {α : Type} (pre : List α) (w y : α) : (pre ++ [w]).set ((pre ++ [w]).length - 1) y = pre ++ [y] := by
  rw [List.length_append]
  show (pre ++ [w]).set (pre.length + 1 - 1) y = _
  rw [Nat.add_sub_cancel, List.set_append_right _ _ (Nat.le_refl _), Nat.sub_self]
  rfl
theorem ord_seen {bl : List Blk} {s : List Bool} {l : List Int} {pre : List (Int × Int)} {w : Int × Int} (hw : w.2 ≠ ((nxt bl w.1).length : Int)) (hs : s.getD ((nxt bl w.1).getD w.2.toNat 0).toNat false = true) : ordStep bl (s, l, pre ++ [w]) = (s, l, pre ++ [(w.1, w.2 + 1)]) := by
  unfold ordStep
  simp only [topW_app]
  rw [if_neg hw, if_pos hs, set_last]
theorem ord_push {bl : List Blk} {s : List Bool} {l : List Int} {pre : List (Int × Int)} {w : Int × Int} (hw : w.2 ≠ ((nxt bl w.1).length : Int)) (hs : s.getD ((nxt bl w.1).getD w.2.toNat 0).toNat false = false) : ordStep bl (s, l, pre ++ [w]) = (s.set ((nxt bl w.1).getD w.2.toNat 0).toNat true, l, pre ++ [(w.1, w.2 + 1)] ++ [((nxt bl w.1).getD w.2.toNat 0, 0)]) := by
  unfold ordStep
  simp only [topW_app]
  rw [if_neg hw, if_neg (by rw [hs]; decide), set_last]
theorem inv_pop {bl : List Blk} {s : List Bool} {l : List Int} {pre : List (Int × Int)} {w : Int × Int} (h : InvO bl (s, l, pre ++ [w])) : InvO bl (s, l ++ [w.1], pre) ∧ muO bl (s, l ++ [w.1], pre) < muO bl (s, l, pre ++ [w]) := by
  have h1 := (h.st w (by simp)).2.2
  refine ⟨⟨h.ls, fun v hv => h.st v (by simp [hv]), ?_⟩, ?_⟩
  · have := h.cn
    simp only [List.length_append, List.length_cons, List.length_nil] at this ⊢
    omega
  · unfold muO
    simp only [wsum_app, wsum_one]
    omega
theorem inv_seen {bl : List Blk} {s : List Bool} {l : List Int} {pre : List (Int × Int)} {w : Int × Int} (h : InvO bl (s, l, pre ++ [w])) (hw : w.2 ≠ ((nxt bl w.1).length : Int)) : InvO bl (s, l, pre ++ [(w.1, w.2 + 1)]) ∧ muO bl (s, l, pre ++ [(w.1, w.2 + 1)]) < muO bl (s, l, pre ++ [w]) := by
  have h1 := h.st w (by simp)
  refine ⟨⟨h.ls, fun v hv => ?_, ?_⟩, ?_⟩
  · rcases List.mem_append.1 hv with hv | hv
    · exact h.st v (by simp [hv])
    · simp only [List.mem_singleton] at hv
      subst hv
      exact ⟨h1.1, h1.2.1, by show 0 ≤ w.2 + 1; omega, by show w.2 + 1 ≤ ((nxt bl w.1).length : Int); have := h1.2.2.2; omega⟩
  · have := h.cn
    simp only [List.length_append, List.length_cons, List.length_nil] at this ⊢
    omega
  · unfold muO
    simp only [wsum_app, wsum_one]
    have := h1.2.2
    omega
theorem inv_push {bl : List Blk} (hB : OkB bl) {s : List Bool} {l : List Int} {pre : List (Int × Int)} {w : Int × Int} (h : InvO bl (s, l, pre ++ [w])) (hw : w.2 ≠ ((nxt bl w.1).length : Int)) (hs : s.getD ((nxt bl w.1).getD w.2.toNat 0).toNat false = false) :
    InvO bl (s.set ((nxt bl w.1).getD w.2.toNat 0).toNat true, l, pre ++ [(w.1, w.2 + 1)] ++ [((nxt bl w.1).getD w.2.toNat 0, 0)]) ∧ muO bl (s.set ((nxt bl w.1).getD w.2.toNat 0).toNat true, l, pre ++ [(w.1, w.2 + 1)] ++ [((nxt bl w.1).getD w.2.toNat 0, 0)]) < muO bl (s, l, pre ++ [w]) := by
  obtain ⟨a1, a2⟩ := inv_seen h hw
  have h1 := h.st w (by simp)
  have hlt : w.2.toNat < (nxt bl w.1).length := by have := h1.2.2; omega
  have hk := (nxt_ok hB h1.1 h1.2.1).2 _ (getD_mem' (d := 0) hlt)
  generalize (nxt bl w.1).getD w.2.toNat 0 = k at hs hk ⊢
  have hls : s.length = bl.length := h.ls
  have hc := cntF_set (s := s) (k := k.toNat) (by omega) hs
  have hkn := (nxt_ok hB hk.1 hk.2).1
  refine ⟨⟨by show (s.set _ _).length = _; rw [List.length_set]; exact hls, fun v hv => ?_, ?_⟩, ?_⟩
  · rcases List.mem_append.1 hv with hv | hv
    · exact a1.st v hv
    · simp only [List.mem_singleton] at hv
      subst hv
      exact ⟨hk.1, hk.2, Int.le_refl _, by show (0 : Int) ≤ _; omega⟩
  · have := h.cn
    simp only [List.length_append, List.length_cons, List.length_nil] at this ⊢
    omega
  · unfold muO at a2 ⊢
    simp only [wsum_app, wsum_one] at a2 ⊢
    have e : ((0 : Int)).toNat = 0 := rfl
    rw [e]
    omega
theorem dfs0_inv {bl : List Blk} (hB : OkB bl) : InvO bl (dfs0 bl.length) ∧ muO bl (dfs0 bl.length) ≤ fuelV bl := by
  obtain ⟨h0, h1, h2⟩ := hB
  have hc := cntF_le (dfs0 bl.length).1
  have hl : (dfs0 bl.length).1.length = bl.length := by unfold dfs0; simp
  have hn := (nxt_ok ⟨h0, h1, h2⟩ (b := 0) (by decide) (by omega)).1
  refine ⟨⟨hl, fun w hw => ?_, ?_⟩, ?_⟩
  · have : w = (0, 0) := by unfold dfs0 at hw; simpa using hw
    subst this
    exact ⟨by decide, by show (0 : Int) < _; omega, by decide, by show (0 : Int) ≤ _; omega⟩
  · have hr : ∀ n, cntF (List.replicate n false) = n := fun n => by
      induction n with
      | zero => rfl
      | succ n ih => rw [List.replicate_succ]; show (if false = true then 0 else 1) + cntF _ = _; rw [ih, if_neg (by decide)]; omega
    have hs : (List.replicate bl.length false).getD 0 false = false := by rw [getD_at (by simpa using h0)]; simp
    have := cntF_set (s := List.replicate bl.length false) (k := 0) (by simpa using h0) hs
    rw [hr] at this
    show 0 + 1 + cntF ((List.replicate bl.length false).set 0 true) = bl.length
    omega
  · have e : wsum bl (dfs0 bl.length).2.2 = (nxt bl 0).length + 1 - 0 := by unfold dfs0; rw [wsum_one]; rfl
    unfold muO fuelV
    rw [e]
    omega
end Go.Proofs.Ytckijackbldkhaa.Ch
