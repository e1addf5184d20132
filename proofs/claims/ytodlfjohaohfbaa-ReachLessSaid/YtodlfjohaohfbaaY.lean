/- Chapter 22 (reach): plain: where an instruction's block begins; what code comes to, with more funcs that never go back. No condition. -/
import Derived.Test.YtodlfjohaohfbaaXV
namespace Go.Proofs.Ytodlfjohaohfbaa.Ch
open Go Go.Proofs Go.Proofs.Ytodlfjohaohfbaa.Sx
set_option linter.unusedVariables false
set_option linter.unusedSimpArgs false

def startV (beg : List Bool) : Nat → Nat
  | 0 => 0
  | k + 1 => if beg.getD (k + 1) false then k + 1 else startV beg k
structure InvS (p : Pro) (k : Nat) (s : List Blk × List Int) : Prop where
  top : 0 < k → s.2.getD (k - 1) 0 = (s.1.length : Int) - 1
  fr : ∀ j, j < k → (s.1.getD (s.2.getD j 0).toNat tBlk.dft).1 = (startV (begV p) j : Int)
theorem b1_start (p : Pro) : ∀ k, k ≤ p.code.length → InvS p k (b1V p k)
  | 0, _ => ⟨fun h => absurd h (Nat.lt_irrefl _), fun j hj => absurd hj (Nat.not_lt_zero _)⟩
  | k + 1, hk => by
    have ih := b1_start p k (by omega)
    have hB := b1_inv p k (by omega)
    rw [b1_next]
    generalize b1V p k = s at ih hB
    obtain ⟨bl0, at0⟩ := s
    unfold b1Step
    dsimp only
    generalize hbl : (if (begV p).getD k false = true then bl0 ++ [((k : Int), (0 : Int), [], [], ())] else bl0 : List Blk) = bl
    have hla : at0.length = p.code.length := hB.la
    have h1 : 0 < bl.length ∧ bl0.length ≤ bl.length ∧ (∀ j, j < bl0.length → bl.getD j tBlk.dft = bl0.getD j tBlk.dft) ∧ (bl.getD (bl.length - 1) tBlk.dft).1 = (startV (begV p) k : Int) := by
      subst hbl
      by_cases hb : (begV p).getD k false = true
      · rw [if_pos hb]
        refine ⟨by simp, by rw [List.length_append]; omega, fun j hj => ?_, ?_⟩
        · rw [getD_at (by rw [List.length_append]; omega), List.getElem_append_left hj, getD_at hj]
        · rw [List.length_append]
          show ((bl0 ++ [((k : Int), (0 : Int), [], [], ())] : List Blk).getD (bl0.length + 1 - 1) tBlk.dft).1 = _
          rw [Nat.add_sub_cancel, getD_at (by simp)]
          have e : startV (begV p) k = k := by
            cases k with
            | zero => rfl
            | succ k => unfold startV; rw [if_pos hb]
          rw [e]
          simp
      · rw [if_neg hb]
        have hk0 : 0 < k := by
          rcases Nat.eq_zero_or_pos k with h0 | h0
          · subst h0; exact absurd (beg_zero p) hb
          · exact h0
        have hpos := hB.lb.2 hk0
        refine ⟨hpos, Nat.le_refl _, fun _ _ => rfl, ?_⟩
        have h2 := ih.fr (k - 1) (by omega)
        have h3 := ih.top hk0
        simp only at h2 h3 hpos
        rw [h3, show ((bl0.length : Int) - 1).toNat = bl0.length - 1 by omega] at h2
        rw [h2]
        obtain ⟨m, rfl⟩ : ∃ m, k = m + 1 := ⟨k - 1, by omega⟩
        show ((startV (begV p) m : Nat) : Int) = _
        rw [show startV (begV p) (m + 1) = if (begV p).getD (m + 1) false then m + 1 else startV (begV p) m from rfl, if_neg hb]
    obtain ⟨h1, h2, h3, h4⟩ := h1
    have hset : ∀ j, ((bl.set (bl.length - 1) ((bl.getD (bl.length - 1) tBlk.dft).1, (k : Int) + 1, (bl.getD (bl.length - 1) tBlk.dft).2.2)).getD j tBlk.dft).1 = (bl.getD j tBlk.dft).1 := fun j => by
      rw [getD_set (by omega)]
      by_cases e : bl.length - 1 = j
      · rw [if_pos e, ← e]
      · rw [if_neg e]
    refine ⟨fun _ => ?_, fun j hj => ?_⟩
    · show (at0.set k _).getD (k + 1 - 1) 0 = _
      rw [Nat.add_sub_cancel, getD_set (by omega), if_pos rfl, List.length_set]
    · show ((bl.set _ _).getD ((at0.set k _).getD j 0).toNat tBlk.dft).1 = _
      rw [hset, getD_set (by omega)]
      by_cases e : k = j
      · subst e
        rw [if_pos rfl, show ((bl.length : Int) - 1).toNat = bl.length - 1 by omega]
        exact h4
      · rw [if_neg e]
        have h5 := hB.ha j (by omega)
        have h6 := ih.fr j (by omega)
        simp only at h5 h6
        rw [h3 _ (by omega)]
        exact h6
theorem blk_start {p : Pro} (hg : goodV p = true) {pc : Nat} (hpc : pc < p.code.length) : (blkOf (ofV p) pc).1 = (startV (begV p) pc : Int) := by
  have hB := b1_inv p _ (Nat.le_refl _)
  have h1 := hB.ha pc hpc
  have h2 := (b1_start p _ (Nat.le_refl _)).fr pc hpc
  have h3 := (b2_get hg _ (Nat.le_refl _)).2 ((b1V p p.code.length).2.getD pc 0).toNat (by omega)
  show ((b2V p (b1V p p.code.length).1.length).getD ((b1V p p.code.length).2.getD pc 0).toNat tBlk.dft).1 = _
  rw [h3]
  exact h2
theorem of_gra {p : Pro} (hg : goodV p = true) : GraOk p (ofV p) := by
  have hB := b1_inv p _ (Nat.le_refl _)
  have hl := (b2_get hg _ (Nat.le_refl _)).1
  refine ⟨hB.la, fun pc hpc => ?_⟩
  have h1 := hB.ha pc hpc
  refine ⟨h1.1, ?_, ?_⟩
  · show _ < ((b2V p (b1V p p.code.length).1.length).length : Int)
    rw [hl]; exact h1.2
  · rw [blk_start hg hpc]; exact Int.natCast_nonneg _
theorem of2_ok : ∀ args h Q, of2_t args h Q → FSpec Try.prog 8 args h Q := trH_ok fun ((p, _) : Pro × Unit) _ Q ⟨hp, h⟩ => by
  dsimp only at hp h
  refine of_ok _ _ _ ?_
  show of_t [.agg (toCV tPro p)] [] Q
  refine ⟨hp, fun e => ?_, fun e => ?_⟩
  · unfold ofW at h; rw [e, if_neg (by decide)] at h; exact h
  · unfold ofW at h; rw [e, if_pos rfl] at h; exact h
/-! ### with more funcs that never go back -/
theorem rch_mono {f g : Nat → List Int} {s : Nat} {N : Nat} (hs : s < N) (hf : ∀ pc, pc < N → inR N (f pc)) (h : ∀ pc, pc < N → ∀ k ∈ f pc, k ∈ g pc) : ∀ pc, Rch f s pc → pc < N ∧ Rch g s pc := by
  intro pc hp
  induction hp with
  | base => exact ⟨hs, .base⟩
  | step _ hk ih =>
    have := hf _ ih.1 _ hk
    exact ⟨by omega, .step ih.2 (h _ ih.1 _ hk)⟩
theorem both_get (a b : List Bool) {i : Nat} (h : a.getD i false = true) : i < a.length ∧ i < (bothV a b (max a.length b.length)).length ∧ (bothV a b (max a.length b.length)).getD i false = true := by
  have hi := getD_lt h
  have hl : (bothV a b (max a.length b.length)).length = max a.length b.length := by unfold bothV; simp
  refine ⟨hi, by rw [hl]; omega, ?_⟩
  rw [getD_at (by rw [hl]; omega)]
  unfold bothV
  rw [List.getElem_map, List.getElem_range, h, decide_eq_true hi]
  rfl
theorem nextW_both {p : Pro} {g : Gra} {a b : List Bool} {pc : Nat} {k : Int} (h : k ∈ nextWV p g (bothV a b (max a.length b.length)) pc) : k ∈ nextWV p g a pc := by
  unfold nextWV at h ⊢
  simp only at h ⊢
  by_cases hc : ((p.code.getD pc tIns.dft).op == 22 && (decide (0 ≤ (p.code.getD pc tIns.dft).n) && (decide ((p.code.getD pc tIns.dft).n < (a.length : Int)) && a.getD (p.code.getD pc tIns.dft).n.toNat false))) = true
  · exfalso
    simp only [Bool.and_eq_true, decide_eq_true_eq] at hc
    have hb := both_get a b hc.2.2.2
    rw [if_pos (by
      simp only [Bool.and_eq_true, decide_eq_true_eq]
      exact ⟨hc.1, hc.2.1, by omega, hb.2.2⟩)] at h
    simp at h
  · rw [if_neg hc]
    split at h
    · simp at h
    · exact h
theorem less_all {p : Pro} {a b : List Bool} (hp : smallP p) (hg : goodV p = true) : ∀ pc, pc < (codeV p (ofV p) a).length →
    ((codeV p (ofV p) (bothV a b (max a.length b.length))).getD pc false = true → (codeV p (ofV p) a).getD pc false = true) ∧ ((codeV p (ofV p) a).getD pc false = true → comesV p 0 (pc : Int) = true) := by
  have hl : (ofV p).2.1.length = p.code.length := (of_gra hg).1
  intro pc hpc
  unfold codeV at hpc ⊢
  rw [rch_len, hl] at hpc
  rw [rch_get _ _ _ (by rw [hl]; exact hpc), rch_get _ _ _ (by rw [hl]; exact hpc)]
  have hpos := good_pos hg
  refine ⟨fun h => ?_, fun h => ?_⟩
  · have h := @of_decide_eq_true _ (Classical.propDecidable _) h
    exact @decide_eq_true _ (Classical.propDecidable _) (rch_mono hpos (fun k hk => (nextW_in hg hk hp).1) (fun k hk j hj => nextW_both hj) pc h).2
  · have h := @of_decide_eq_true _ (Classical.propDecidable _) h
    have h2 := (rch_mono hpos (fun k hk => (nextW_in hg hk hp).1) (fun k hk j hj => (nextW_in hg hk hp).2.2 j hj) pc h).2
    unfold comesV
    rw [if_pos ⟨Int.le_refl _, by omega, by omega, by omega, hg⟩]
    exact @decide_eq_true _ (Classical.propDecidable _) (by rw [Int.toNat_natCast]; exact h2)
/-! ### the func of awake -/
theorem smallA : smallP pA := ⟨by decide, fun i hi => by
  simp only [pA, Pro.code, List.mem_cons, List.not_mem_nil, or_false] at hi
  rcases hi with rfl | rfl | rfl | rfl <;> exact ⟨by decide, by decide⟩⟩
theorem nextA : ∀ k, k < 4 → ∀ x, x ∈ nextV (pA.code.getD k tIns.dft) k ↔ (k = 0 ∧ x = 1) ∨ (k = 1 ∧ (x = 3 ∨ x = 2)) ∨ (k = 2 ∧ x = 3) := by
  intro k hk x
  rw [mem_next]
  match k, hk with
  | 0, _ =>
    have e1 : inL [23, 26] (pA.code.getD 0 tIns.dft).op = false := by decide
    have e2 : nextR (pA.code.getD 0 tIns.dft) ((0 : Nat) : Int) = [1] := by decide
    rw [e1, e2]; simp
  | 1, _ =>
    have e1 : inL [23, 26] (pA.code.getD 1 tIns.dft).op = false := by decide
    have e2 : nextR (pA.code.getD 1 tIns.dft) ((1 : Nat) : Int) = [3, 2] := by decide
    rw [e1, e2]; simp
  | 2, _ =>
    have e1 : inL [23, 26] (pA.code.getD 2 tIns.dft).op = false := by decide
    have e2 : nextR (pA.code.getD 2 tIns.dft) ((2 : Nat) : Int) = [3] := by decide
    rw [e1, e2]; simp
  | 3, _ =>
    have e1 : inL [23, 26] (pA.code.getD 3 tIns.dft).op = true := by decide
    rw [e1]; simp
theorem goodA : goodV pA = true := by
  have h1 : (!(decide (pA.2.2.1 < 0) || (decide ((pA.vars.length : Int) < pA.2.2.1) || (!cntV [pA.regs] || (decide (pA.caps < 0) || (pA.code.isEmpty || !endsV (lastI pA))))))) = true := by decide
  unfold goodV
  rw [h1, Bool.true_and, List.all_eq_true]
  intro k hk
  have hk : k < 4 := List.mem_range.1 hk
  unfold isGoodV
  have hn : (nextV (pA.code.getD k tIns.dft) k).any (badW (encP pA)) = false := by
    rw [List.any_eq_false]
    intro x hx
    have hx := (nextA k hk x).1 hx
    have : x = 1 ∨ x = 2 ∨ x = 3 := by omega
    rcases this with rfl | rfl | rfl <;> decide
  rw [hn]
  match k, hk with
  | 0, _ => decide
  | 1, _ => decide
  | 2, _ => decide
  | 3, _ => decide
theorem setT_get {o : List Bool} {k : Int} {j : Nat} (h : o.getD j false = false) (hk : k.toNat ≠ j) : (setT o k).getD j false = false := by
  unfold setT
  by_cases hl : k.toNat < o.length
  · rw [getD_set hl, if_neg hk]; exact h
  · rw [List.set_eq_of_length_le (by omega)]; exact h
theorem setsT_get : ∀ (l : List Int) {o : List Bool} {j : Nat}, o.getD j false = false → (∀ k ∈ l, k.toNat ≠ j) → (l.foldl setT o).getD j false = false
  | [], o, j, h, _ => h
  | k :: l, o, j, h, hk => by rw [List.foldl_cons]; exact setsT_get l (setT_get h (hk k (by simp))) (fun c hc => hk c (by simp [hc]))
theorem begA : (begV pA).getD 1 false = false := by
  unfold begV
  have step : ∀ k, k ≤ 4 → ((List.range k).foldl (begStep pA) ((List.replicate (pA.code.length + 1) false).set 0 true)).getD 1 false = false := by
    intro k
    induction k with
    | zero => intro _; decide
    | succ k ih =>
      intro hk
      rw [range_fold]
      have ih := ih (by omega)
      generalize (List.range k).foldl (begStep pA) ((List.replicate (pA.code.length + 1) false).set 0 true) = O at ih ⊢
      unfold begStep
      split
      · rename_i hp
        refine setsT_get _ (setT_get (k := ((k + 1 : Nat) : Int)) ih ?_) (fun x hx => ?_)
        · rcases Nat.eq_zero_or_pos k with h0 | h0
          · subst h0; exact absurd hp (by decide)
          · show ((k + 1 : Nat) : Int).toNat ≠ 1; omega
        · have hx := (nextA k (by omega) x).1 hx
          rcases hx with ⟨h0, _⟩ | h1 | h1
          · subst h0; exact absurd hp (by decide)
          · omega
          · omega
      · exact ih
  exact step 4 (Nat.le_refl _)
theorem nextWA : ∀ k, k < 4 → ∀ x, x ∈ nextWV pA (ofV pA) [] k ↔ (k = 0 ∧ x = 1) ∨ (k = 1 ∧ x = 3) ∨ (k = 2 ∧ x = 3) := by
  intro k hk x
  have hn := nextA k hk x
  unfold nextWV
  simp only
  match k, hk, hn with
  | 0, _, hn => rw [if_neg (by decide), if_neg (by decide), hn]; omega
  | 1, _, hn =>
    rw [if_neg (by decide), if_pos (by decide)]
    have hb : (blkOf (ofV pA) 1).1 = 0 := by
      rw [blk_start goodA (by decide)]
      have : startV (begV pA) 1 = 0 := by unfold startV; rw [begA, if_neg (by decide)]; rfl
      rw [this]; rfl
    have hc : constV pA (blkOf (ofV pA) 1).1 (pA.code.getD 1 tIns.dft).a 1 = (false, true) := by rw [hb]; decide
    rw [hc]
    have e : (pA.code.getD 1 tIns.dft).to = 3 := by decide
    simp only [if_pos, e]
    simp
  | 2, _, hn => rw [if_neg (by decide), if_neg (by decide), hn]; omega
  | 3, _, hn => rw [if_neg (by decide), if_neg (by decide), hn]; omega
theorem codeA : codeV pA (ofW pA) [] = [true, true, false, true] := by
  have ho : ofW pA = ofV pA := by unfold ofW; rw [goodA, if_pos rfl]
  rw [ho]
  unfold codeV
  rw [(of_gra goodA).1]
  have hin : ∀ pc, Rch (nextWV pA (ofV pA) []) 0 pc → pc = 0 ∨ pc = 1 ∨ pc = 3 := by
    intro pc hp
    induction hp with
    | base => exact .inl rfl
    | step _ hk ih =>
      have := (nextWA _ (by omega) _).1 hk
      omega
  have h0 : Rch (nextWV pA (ofV pA) []) 0 0 := .base
  have h1 : Rch (nextWV pA (ofV pA) []) 0 1 := .step (k := 1) h0 ((nextWA 0 (by decide) 1).2 (by simp))
  have h3 : Rch (nextWV pA (ofV pA) []) 0 3 := .step (k := 3) h1 ((nextWA 1 (by decide) 3).2 (by simp))
  have h2 : ¬ Rch (nextWV pA (ofV pA) []) 0 2 := fun h => by have := hin 2 h; omega
  refine ext_getD (d := false) (by rw [rch_len]; rfl) (fun k hk => ?_)
  rw [rch_len] at hk
  rw [rch_get _ _ _ hk]
  have hk : k < 4 := hk
  match k, hk with
  | 0, _ => exact @decide_eq_true _ (Classical.propDecidable _) h0
  | 1, _ => exact @decide_eq_true _ (Classical.propDecidable _) h1
  | 2, _ => exact @decide_eq_false _ (Classical.propDecidable _) h2
  | 3, _ => exact @decide_eq_true _ (Classical.propDecidable _) h3
theorem stmtsA : stmtsV pA [true, true, false, true] = [1] := by decide
end Go.Proofs.Ytodlfjohaohfbaa.Ch
