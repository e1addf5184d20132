/- Chapter 22 (reach): what code comes to: proved. No condition. -/
import Derived.Test.YtckijackbldkhaaTV
namespace Go.Proofs.Ytckijackbldkhaa.Ch
open Go Go.Proofs Go.Proofs.Ytckijackbldkhaa.Sx
set_option linter.unusedVariables false
set_option linter.unusedSimpArgs false

theorem getD_lt {s : List Bool} {k : Nat} (h : s.getD k false = true) : k < s.length := by
  rcases Nat.lt_or_ge k s.length with hk | hk
  · exact hk
  · rw [List.getD_eq_getElem?_getD, List.getElem?_eq_none hk] at h; cases h
structure InvR (suc : Nat → List Int) (N s : Nat) (D : Nat → Prop) (x : List Bool × List Int) : Prop where
  len : x.1.length = N
  mem : ∀ k ∈ x.2, 0 ≤ k ∧ k < (N : Int) ∧ x.1.getD k.toNat false = true
  st : x.1.getD s false = true
  cl : ∀ pc, x.1.getD pc false = true → D pc ∨ (pc : Int) ∈ x.2 ∨ ∀ k ∈ suc pc, x.1.getD k.toNat false = true
  mn : ∀ pc, x.1.getD pc false = true → Rch suc s pc
theorem visit_len (x : List Bool × List Int) (k : Int) : (visit x k).1.length = x.1.length := by unfold visit; split <;> simp
theorem visits_len : ∀ (l : List Int) (x : List Bool × List Int), (l.foldl visit x).1.length = x.1.length
  | [], x => rfl
  | k :: l, x => by rw [List.foldl_cons, visits_len l, visit_len]
theorem visit_mono {x : List Bool × List Int} {k : Int} {j : Nat} (h : x.1.getD j false = true) : (visit x k).1.getD j false = true := by
  unfold visit
  split
  · exact h
  · have hj := getD_lt h
    by_cases hk : k.toNat < x.1.length
    · show (x.1.set k.toNat true).getD j false = true
      rw [getD_set hk]; split
      · rfl
      · exact h
    · show (x.1.set k.toNat true).getD j false = true
      rw [List.set_eq_of_length_le (by omega)]; exact h
theorem visit_sum {x : List Bool × List Int} {k : Int} (hk : 0 ≤ k ∧ k < (x.1.length : Int)) : (visit x k).2.length + cntF (visit x k).1 = x.2.length + cntF x.1 := by
  unfold visit
  split
  · rfl
  · rename_i h
    have := cntF_set (s := x.1) (k := k.toNat) (by omega) (by simpa using h)
    show (x.2 ++ [k]).length + cntF (x.1.set k.toNat true) = _
    rw [List.length_append]
    show x.2.length + 1 + _ = _
    omega
theorem visits_sum : ∀ (l : List Int) (x : List Bool × List Int), inR x.1.length l → (l.foldl visit x).2.length + cntF (l.foldl visit x).1 = x.2.length + cntF x.1 ∧ cntF (l.foldl visit x).1 ≤ cntF x.1
  | [], x, _ => ⟨rfl, Nat.le_refl _⟩
  | k :: l, x, h => by
    obtain ⟨h1, h2⟩ := visits_sum l (visit x k) (by rw [visit_len]; exact fun c hc => h c (by simp [hc]))
    have h3 := visit_sum (h k (by simp))
    rw [List.foldl_cons]
    refine ⟨by rw [h1, h3], Nat.le_trans h2 ?_⟩
    have : (visit x k).2.length ≥ x.2.length := by
      unfold visit
      split
      · exact Nat.le_refl _
      · simp
    omega
theorem inv_visit {suc : Nat → List Int} {N s c : Nat} {x : List Bool × List Int} (h : InvR suc N s (fun pc => pc = c) x) (hc : Rch suc s c) {k : Int} (hk : k ∈ suc c) (hr : 0 ≤ k ∧ k < (N : Int)) : InvR suc N s (fun pc => pc = c) (visit x k) ∧ (visit x k).1.getD k.toNat false = true := by
  have hkl : k.toNat < x.1.length := by rw [h.len]; omega
  have hset : (visit x k).1.getD k.toNat false = true := by
    unfold visit
    split
    · rename_i h1; exact h1
    · show (x.1.set k.toNat true).getD _ false = true
      rw [getD_set hkl, if_pos rfl]
  refine ⟨⟨by rw [visit_len]; exact h.len, fun j hj => ?_, visit_mono h.st, fun pc hp => ?_, fun pc hp => ?_⟩, hset⟩
  · have hj' : j ∈ x.2 ∨ j = k := by
      unfold visit at hj
      split at hj
      · exact .inl hj
      · have hj : j ∈ x.2 ++ [k] := hj
        rcases List.mem_append.1 hj with hj | hj
        · exact .inl hj
        · exact .inr (by simpa using hj)
    rcases hj' with hj' | rfl
    · have := h.mem j hj'; exact ⟨this.1, this.2.1, visit_mono this.2.2⟩
    · exact ⟨hr.1, hr.2, hset⟩
  · by_cases hx : x.1.getD pc false = true
    · rcases h.cl pc hx with h1 | h1 | h1
      · exact .inl h1
      · refine .inr (.inl ?_)
        unfold visit
        split
        · exact h1
        · exact List.mem_append_left _ h1
      · exact .inr (.inr fun c hc => visit_mono (h1 c hc))
    · unfold visit at hp ⊢
      split at hp
      · exact absurd hp hx
      · rename_i hv
        rw [if_neg hv]
        have hp : (x.1.set k.toNat true).getD pc false = true := hp
        rw [getD_set hkl] at hp
        by_cases e : k.toNat = pc
        · refine .inr (.inl ?_)
          show (pc : Int) ∈ x.2 ++ [k]
          rw [← e, show ((k.toNat : Nat) : Int) = k by omega]; simp
        · rw [if_neg e] at hp; exact absurd hp hx
  · by_cases hx : x.1.getD pc false = true
    · exact h.mn pc hx
    · unfold visit at hp
      split at hp
      · exact absurd hp hx
      · have hp : (x.1.set k.toNat true).getD pc false = true := hp
        rw [getD_set hkl] at hp
        by_cases e : k.toNat = pc
        · rw [← e]; exact .step hc hk
        · rw [if_neg e] at hp; exact absurd hp hx
theorem visits_mono : ∀ (l : List Int) {x : List Bool × List Int} {j : Nat}, x.1.getD j false = true → (l.foldl visit x).1.getD j false = true
  | [], x, j, h => h
  | k :: l, x, j, h => by rw [List.foldl_cons]; exact visits_mono l (visit_mono h)
theorem inv_visits {suc : Nat → List Int} {N s c : Nat} (hc : Rch suc s c) : ∀ (l : List Int) (x : List Bool × List Int), InvR suc N s (fun pc => pc = c) x → (∀ k ∈ l, k ∈ suc c) → inR N l → InvR suc N s (fun pc => pc = c) (l.foldl visit x) ∧ ∀ k ∈ l, (l.foldl visit x).1.getD k.toNat false = true
  | [], x, h, _, _ => ⟨h, fun k hk => by simp at hk⟩
  | k :: l, x, h, hs, hr => by
    obtain ⟨h1, h2⟩ := inv_visit h hc (hs k (by simp)) (hr k (by simp))
    obtain ⟨h3, h4⟩ := inv_visits hc l (visit x k) h1 (fun j hj => hs j (by simp [hj])) (fun j hj => hr j (by simp [hj]))
    rw [List.foldl_cons]
    refine ⟨h3, fun j hj => ?_⟩
    rcases List.mem_cons.1 hj with rfl | hj
    · exact visits_mono l h2
    · exact h4 j hj
/-- One round. -/
theorem inv_round {suc : Nat → List Int} {N s : Nat} {out : List Bool} {pre : List Int} {k : Int} (h : InvR suc N s (fun _ => False) (out, pre ++ [k])) (hr : inR N (suc k.toNat)) :
    InvR suc N s (fun _ => False) ((suc k.toNat).foldl visit (out, pre)) ∧ 2 * cntF ((suc k.toNat).foldl visit (out, pre)).1 + ((suc k.toNat).foldl visit (out, pre)).2.length < 2 * cntF out + (pre ++ [k]).length := by
  have hk := h.mem k (by simp)
  have hc := h.mn _ hk.2.2
  have h0 : InvR suc N s (fun pc => pc = k.toNat) (out, pre) := by
    refine ⟨h.len, fun j hj => h.mem j (by simp [hj]), h.st, fun pc hp => ?_, h.mn⟩
    rcases h.cl pc hp with h1 | h1 | h1
    · exact h1.elim
    · rcases List.mem_append.1 h1 with h1 | h1
      · exact .inr (.inl h1)
      · have h1 : (pc : Int) = k := by simpa using h1
        exact .inl (by omega)
    · exact .inr (.inr h1)
  obtain ⟨h1, h2⟩ := inv_visits hc (suc k.toNat) (out, pre) h0 (fun _ h => h) hr
  have hl : out.length = N := h.len
  obtain ⟨h3, h4⟩ := visits_sum (suc k.toNat) (out, pre) (by show inR out.length _; rw [hl]; exact hr)
  refine ⟨⟨h1.len, h1.mem, h1.st, fun pc hp => ?_, h1.mn⟩, ?_⟩
  · rcases h1.cl pc hp with e | e | e
    · subst e; exact .inr (.inr h2)
    · exact .inr (.inl e)
    · exact .inr (.inr e)
  · rw [List.length_append]
    have h3 : _ = pre.length + cntF out := h3
    have h4 : _ ≤ cntF out := h4
    show _ < 2 * cntF out + (pre.length + 1)
    omega
theorem inv_done {suc : Nat → List Int} {N s : Nat} {out : List Bool} (h : InvR suc N s (fun _ => False) (out, [])) : out = rchV suc N s := by
  have hl : out.length = N := h.len
  refine ext_getD (d := false) (by unfold rchV; rw [List.length_map, List.length_range]; exact hl) (fun pc hp => ?_)
  have e : (rchV suc N s).getD pc false = @decide (Rch suc s pc) (Classical.propDecidable _) := by
    unfold rchV
    rw [getD_at (by rw [List.length_map, List.length_range]; omega), List.getElem_map, List.getElem_range]
  rw [e]
  have hall : ∀ pc, Rch suc s pc → out.getD pc false = true := fun pc hp => by
    induction hp with
    | base => exact h.st
    | step _ hk ih =>
      rcases h.cl _ ih with h1 | h1 | h1
      · exact h1.elim
      · simp at h1
      · exact h1 _ hk
  by_cases hR : Rch suc s pc
  · rw [hall pc hR]; exact (@decide_eq_true _ (Classical.propDecidable _) hR).symm
  · cases ho : out.getD pc false with
    | true => exact absurd (h.mn pc ho) hR
    | false => exact (@decide_eq_false _ (Classical.propDecidable _) hR).symm
theorem inv_start {suc : Nat → List Int} {N s : Nat} (h : s < N) : InvR suc N s (fun _ => False) ((List.replicate N false).set s true, [(s : Int)]) := by
  have hf : ∀ pc, ((List.replicate N false).set s true).getD pc false = true → pc = s := fun pc hp => by
    rw [getD_set (by simpa using h)] at hp
    by_cases e : s = pc
    · exact e.symm
    · rw [if_neg e] at hp
      rw [List.getD_eq_getElem?_getD, List.getElem?_replicate] at hp
      split at hp <;> cases hp
  have hs : ((List.replicate N false).set s true).getD s false = true := by rw [getD_set (by simpa using h), if_pos rfl]
  refine ⟨by simp, fun k hk => ?_, hs, fun pc hp => ?_, fun pc hp => ?_⟩
  · have hk : k = (s : Int) := by simpa using hk
    subst hk
    exact ⟨by omega, by omega, hs⟩
  · rw [hf pc hp]; exact .inr (.inl (by simp))
  · rw [hf pc hp]; exact .base
end Go.Proofs.Ytckijackbldkhaa.Ch
