/- Chapter 22 (reach): the blocks of a func's code, edges: plain. No condition. -/
import Derived.Test.YtckijackbldkhaaO
namespace Go.Proofs.Ytckijackbldkhaa.Ch
open Go Go.Proofs Go.Proofs.Ytckijackbldkhaa.Sx
set_option linter.unusedVariables false
set_option linter.unusedSimpArgs false

theorem mem_getD {α : Type} {l : List α} {d x : α} (h : x ∈ l) : ∃ i, i < l.length ∧ l.getD i d = x := by
  obtain ⟨i, hi, rfl⟩ := List.getElem_of_mem h
  exact ⟨i, hi, getD_at hi d⟩
theorem setT_true {o : List Bool} {k : Int} {j : Nat} (h : o.getD j false = true) : (setT o k).getD j false = true := by
  unfold setT
  have hj : j < o.length := by
    rcases Nat.lt_or_ge j o.length with hj | hj
    · exact hj
    · rw [List.getD_eq_getElem?_getD, List.getElem?_eq_none hj] at h; cases h
  by_cases hk : k.toNat < o.length
  · rw [getD_set hk]; split
    · rfl
    · exact h
  · rw [List.set_eq_of_length_le (by omega)]; exact h
theorem setsT_true : ∀ (l : List Int) {o : List Bool} {j : Nat}, o.getD j false = true → (l.foldl setT o).getD j false = true
  | [], o, j, h => h
  | k :: l, o, j, h => by rw [List.foldl_cons]; exact setsT_true l (setT_true h)
theorem begStep_true (p : Pro) {o : List Bool} {k j : Nat} (h : o.getD j false = true) : (begStep p o k).getD j false = true := by
  unfold begStep
  split
  · exact setsT_true _ (setT_true (k := ((k + 1 : Nat) : Int)) h)
  · exact h
theorem begs_true (p : Pro) {j : Nat} : ∀ (k : Nat) {o : List Bool}, o.getD j false = true → ((List.range k).foldl (begStep p) o).getD j false = true
  | 0, o, h => h
  | k + 1, o, h => by rw [range_fold]; exact begStep_true p (begs_true p k h)
theorem beg_zero (p : Pro) : (begV p).getD 0 false = true := by
  unfold begV
  refine begs_true p _ ?_
  rw [getD_set (by simp), if_pos rfl]
structure InvB (p : Pro) (k : Nat) (s : List Blk × List Int) : Prop where
  la : s.2.length = p.code.length
  lb : s.1.length ≤ k ∧ (0 < k → 0 < s.1.length)
  ha : ∀ j, j < k → 0 ≤ s.2.getD j 0 ∧ s.2.getD j 0 < (s.1.length : Int)
  hb : ∀ x ∈ s.1, 1 ≤ x.2.1 ∧ x.2.1 ≤ (k : Int) ∧ x.2.2.1 = [] ∧ x.2.2.2.1 = []
theorem b1_next (p : Pro) (n : Nat) : b1V p (n + 1) = b1Step (begV p) (b1V p n) n := by unfold b1V; exact range_fold
theorem b1_inv (p : Pro) : ∀ k, k ≤ p.code.length → InvB p k (b1V p k)
  | 0, _ => ⟨by unfold b1V; simp, ⟨by unfold b1V; simp, fun h => absurd h (Nat.lt_irrefl _)⟩, fun j hj => absurd hj (Nat.not_lt_zero _), fun x hx => by unfold b1V at hx; simp at hx⟩
  | k + 1, hk => by
    have ih := b1_inv p k (by omega)
    rw [b1_next]
    generalize b1V p k = s at ih
    unfold b1Step
    dsimp only
    generalize hbl : (if (begV p).getD k false = true then s.1 ++ [((k : Int), (0 : Int), [], [], ())] else s.1 : List Blk) = bl
    have h1 : 0 < bl.length ∧ bl.length ≤ k + 1 ∧ s.1.length ≤ bl.length ∧ ∀ x ∈ bl, 0 ≤ x.2.1 ∧ x.2.1 ≤ (k : Int) ∧ x.2.2.1 = [] ∧ x.2.2.2.1 = [] ∧ (1 ≤ x.2.1 ∨ x = bl.getD (bl.length - 1) tBlk.dft) := by
      subst hbl
      by_cases hb : (begV p).getD k false = true
      · rw [if_pos hb]
        refine ⟨by simp, by rw [List.length_append]; have := ih.lb.1; simp; omega, by rw [List.length_append]; omega, fun x hx => ?_⟩
        rcases List.mem_append.1 hx with hx | hx
        · have := ih.hb x hx
          exact ⟨Int.le_trans (by decide) this.1, this.2.1, this.2.2.1, this.2.2.2, .inl this.1⟩
        · simp only [List.mem_singleton] at hx
          subst hx
          refine ⟨Int.le_refl _, by show (0 : Int) ≤ _; omega, rfl, rfl, .inr ?_⟩
          rw [List.length_append]
          show _ = List.getD _ (s.1.length + 1 - 1) _
          rw [Nat.add_sub_cancel, getD_at (by simp)]
          simp
      · rw [if_neg hb]
        have hk0 : 0 < k := by
          rcases Nat.eq_zero_or_pos k with h0 | h0
          · subst h0; exact absurd (beg_zero p) hb
          · exact h0
        refine ⟨ih.lb.2 hk0, by have := ih.lb.1; omega, Nat.le_refl _, fun x hx => ?_⟩
        have := ih.hb x hx
        exact ⟨Int.le_trans (by decide) this.1, this.2.1, this.2.2.1, this.2.2.2, .inl this.1⟩
    obtain ⟨h1, h2, h3, h4⟩ := h1
    have hlast := h4 _ (getD_mem' (d := tBlk.dft) (show bl.length - 1 < bl.length by omega))
    refine ⟨by rw [List.length_set]; exact ih.la, ⟨by rw [List.length_set]; exact h2, fun _ => by rw [List.length_set]; exact h1⟩, fun j hj => ?_, fun x hx => ?_⟩
    · rw [List.length_set]
      rw [getD_set (by rw [ih.la]; omega)]
      by_cases e : k = j
      · rw [if_pos e]; omega
      · rw [if_neg e]
        have := ih.ha j (by omega)
        omega
    · obtain ⟨i, hi, rfl⟩ := mem_getD (d := tBlk.dft) hx
      rw [List.length_set] at hi
      rw [getD_set (by omega)]
      by_cases e : bl.length - 1 = i
      · rw [if_pos e]
        exact ⟨by show (1 : Int) ≤ (k : Int) + 1; omega, by show (k : Int) + 1 ≤ ((k + 1 : Nat) : Int); omega, hlast.2.2.1, hlast.2.2.2.1⟩
      · rw [if_neg e]
        have hx' := getD_mem' (d := tBlk.dft) hi
        have := h4 _ hx'
        refine ⟨?_, Int.le_trans this.2.1 (by omega), this.2.2.1, this.2.2.2.1⟩
        subst hbl
        by_cases hb : (begV p).getD k false = true
        · rw [if_pos hb] at hi e hx' ⊢
          rw [List.length_append] at hi e
          simp only [List.length_cons, List.length_nil] at hi e
          have : i < s.1.length := by omega
          rw [getD_at (by rw [List.length_append]; omega), List.getElem_append_left this]
          exact (ih.hb _ (List.getElem_mem _)).1
        · rw [if_neg hb] at hx' ⊢
          exact (ih.hb _ hx').1
/-! ### edges -/
theorem edge_len (b : Nat) (bl : List Blk) (to : Int) : (edge b bl to).length = bl.length := by unfold edge; simp only [List.length_set]
theorem edge_get {b : Nat} {bl : List Blk} {to : Int} (hb : b < bl.length) (ht : 0 ≤ to ∧ to < (bl.length : Int)) (j : Nat) :
    (edge b bl to).getD j tBlk.dft = ((bl.getD j tBlk.dft).1, (bl.getD j tBlk.dft).2.1, (if j = b then (bl.getD j tBlk.dft).2.2.1 ++ [to] else (bl.getD j tBlk.dft).2.2.1), (if j = to.toNat then (bl.getD j tBlk.dft).2.2.2.1 ++ [(b : Int)] else (bl.getD j tBlk.dft).2.2.2.1), ()) := by
  unfold edge
  simp only
  rw [getD_set (by rw [List.length_set]; omega), getD_set hb, getD_set hb]
  by_cases h1 : to.toNat = j
  · subst h1
    rw [if_pos rfl, if_pos rfl]
    by_cases h2 : b = to.toNat
    · subst h2; rw [if_pos rfl, if_pos rfl]
    · rw [if_neg h2, if_neg (fun e => h2 e.symm)]
  · rw [if_neg h1, if_neg (show ¬ j = to.toNat from fun e => h1 e.symm)]
    by_cases h2 : b = j
    · rw [if_pos h2, if_pos h2.symm, h2]
    · rw [if_neg h2, if_neg (show ¬ j = b from fun e => h2 e.symm)]
/-- Edges from b to all of these. -/
theorem edges_get {b : Nat} : ∀ (ts : List Int) (bl : List Blk), b < bl.length → inR bl.length ts → (ts.foldl (edge b) bl).length = bl.length ∧ ∀ j : Nat,
    (ts.foldl (edge b) bl).getD j tBlk.dft = ((bl.getD j tBlk.dft).1, (bl.getD j tBlk.dft).2.1, (if j = b then (bl.getD j tBlk.dft).2.2.1 ++ ts else (bl.getD j tBlk.dft).2.2.1), (bl.getD j tBlk.dft).2.2.2.1 ++ (ts.filter fun t => decide (t.toNat = j)).map (fun _ => (b : Int)), ())
  | [], bl, hb, _ => ⟨rfl, fun j => by
    show bl.getD j tBlk.dft = (_, _, _, _, ())
    simp⟩
  | t :: ts, bl, hb, ht => by
    have h1 := ht t (by simp)
    have hl := edge_len b bl t
    obtain ⟨e1, e2⟩ := edges_get ts (edge b bl t) (by rw [hl]; exact hb) (by rw [hl]; exact fun k hk => ht k (by simp [hk]))
    refine ⟨by rw [List.foldl_cons, e1, hl], fun j => ?_⟩
    rw [List.foldl_cons, e2 j, edge_get hb h1 j]
    simp only
    by_cases h2 : j = b
    · subst h2
      rw [if_pos rfl, if_pos rfl, if_pos rfl]
      by_cases h3 : j = t.toNat
      · rw [if_pos h3, List.filter_cons_of_pos (by simpa using h3.symm)]; simp
      · rw [if_neg h3, List.filter_cons_of_neg (by simpa using fun e => h3 e.symm)]; simp
    · rw [if_neg h2, if_neg h2, if_neg h2]
      by_cases h3 : j = t.toNat
      · rw [if_pos h3, List.filter_cons_of_pos (by simpa using h3.symm)]; simp
      · rw [if_neg h3, List.filter_cons_of_neg (by simpa using fun e => h3 e.symm)]
end Go.Proofs.Ytckijackbldkhaa.Ch
