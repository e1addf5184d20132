/- Chapter 11 (code): where what is built goes on (the lemmas of R, for CodeBuilds: so that its claim holds no text of CodeRaw's). No condition. -/
import Derived.Test.YtkpepieepdmjpaaP
namespace Go.Proofs.Ytkpepieepdmjpaa.Ch
open Go Go.Proofs Go.Proofs.Ytkpepieepdmjpaa.Sx
set_option linter.unusedVariables false
set_option linter.unusedSimpArgs false

/-! ### where it goes on -/
theorem comp_mem {l : List Int} {r : Int} (h : r ∈ compV l) : r ∈ l := by
  unfold compV Lib.compact Lib.compactUpTo at h
  obtain ⟨j, hj, rfl⟩ := List.mem_map.1 h
  have hj := List.mem_range.1 (List.mem_filter.1 hj).1
  rw [getElem!_pos l.toArray j (by simpa using hj)]
  simp
theorem sort_mem {l : List Int} {r : Int} (h : r ∈ sortV l) : r ∈ l := by
  unfold sortV at h
  exact List.mem_mergeSort.1 h
theorem place_lt {l : List Int} {n : Nat} {k : Int} (h : 0 ≤ placeV l n k) : placeV l n k < (n : Int) := by
  unfold placeV at h ⊢
  split at h
  · omega
  · rename_i hh
    rw [if_neg hh]
    have : ¬ (n : Int) ≤ l.getD k.toNat 0 := fun e => hh (.inr (.inr e))
    omega
theorem res_op (l : List Int) (n : Nat) (x : Ins) : (resV l n x).1.1 = x.1 := by
  unfold resV
  split
  · rfl
  · split <;> rfl
theorem res_small {l : List Int} {n : Nat} {x : Ins} (h : smallI x) : smallI (resV l n x).1 := by
  unfold resV
  split
  · exact h
  · split
    · exact ⟨h.1, by show (rArmsV l n x.arms).length ≤ 20; unfold rArmsV; rw [List.length_map]; exact h.2⟩
    · exact h
theorem res_len (l : List Int) (n : Nat) (c : List Ins) : (resL l n c).length = c.length := by unfold resL; rw [List.length_map]
theorem res_at {l : List Int} {n : Nat} {c : List Ins} {i : Nat} (h : i < c.length) : (resL l n c).getD i tIns.dft = (resV l n (c.getD i tIns.dft)).1 := by
  unfold resL
  rw [getD_at (by rw [List.length_map]; exact h), List.getElem_map, getD_at h]
def NextIn (c : List Ins) : Prop := ∀ i, i < c.length → smallI (c.getD i tIns.dft) ∧ ∀ r ∈ nextV (c.getD i tIns.dft) i, 0 ≤ r ∧ r < (c.length : Int)
theorem next_in {b : Bld} (hs : ∀ x ∈ b.1, smallI x) (hb : b.1.length ≤ 1000) (hr : resA b.2.1 b.1.length b.1 = true) (he : endsV (b.1.getD (b.1.length - 1) tIns.dft) = true) : NextIn (resL b.2.1 b.1.length b.1) := by
  intro i hi
  rw [res_len] at hi ⊢
  rw [res_at hi]
  have hm : b.1.getD i tIns.dft ∈ b.1 := by rw [getD_at hi]; exact List.getElem_mem _
  refine ⟨res_small (hs _ hm), fun r hr2 => ?_⟩
  have hok : (resV b.2.1 b.1.length (b.1.getD i tIns.dft)).2 = true := by
    unfold resA at hr
    exact List.all_eq_true.1 hr _ hm
  have hlast : i + 1 = b.1.length → endsV (b.1.getD i tIns.dft) = true := fun e => by rw [show i = b.1.length - 1 by omega]; exact he
  generalize b.1.getD i tIns.dft = x at hok hr2 hlast
  have hop := res_op b.2.1 b.1.length x
  unfold nextV at hr2
  split at hr2
  · simp at hr2
  · rename_i h1
    have hr2 := sort_mem (comp_mem hr2)
    have hw : IntKind.i64.wrap ((i : Int) + 1) = (i : Int) + 1 := w64 (by omega) (by omega)
    have h1 : inL [23, 26] x.1 = false := by
      rw [← Bool.not_eq_true]
      show ¬ inL [23, 26] x.1 = true
      rw [← hop]; exact h1
    have nxt : x.1 ≠ 19 → x.1 ≠ 37 → ∀ r, r = IntKind.i64.wrap ((i : Int) + 1) → 0 ≤ r ∧ r < (b.1.length : Int) := fun n1 n2 r e => by
      rw [hw] at e
      have : i + 1 ≠ b.1.length := fun e2 => by
        have := hlast e2
        unfold inL at h1
        simp only [List.any_cons, List.any_nil, Bool.or_false, Bool.or_eq_false_iff, beq_eq_false_iff_ne] at h1
        unfold endsV at this
        simp [n1, n2, h1.1, h1.2] at this
      omega
    unfold nextR Ins.op at hr2
    rw [hop] at hr2
    by_cases c1 : x.1 = 19
    · rw [if_pos c1] at hr2
      have e : resV b.2.1 b.1.length x = (x.setTo (placeV b.2.1 b.1.length x.to), decide (0 ≤ placeV b.2.1 b.1.length x.to)) := by unfold resV Ins.op; rw [if_pos (.inl c1)]
      rw [e] at hok hr2
      have h0 := of_decide_eq_true hok
      have hr2 : r = placeV b.2.1 b.1.length x.to := List.mem_singleton.1 hr2
      rw [hr2]
      exact ⟨h0, place_lt h0⟩
    rw [if_neg c1] at hr2
    by_cases c2 : x.1 = 20
    · rw [if_pos c2] at hr2
      have e : resV b.2.1 b.1.length x = (x.setTo (placeV b.2.1 b.1.length x.to), decide (0 ≤ placeV b.2.1 b.1.length x.to)) := by unfold resV Ins.op; rw [if_pos (.inr c2)]
      rw [e] at hok hr2
      have h0 := of_decide_eq_true hok
      rcases List.mem_cons.1 hr2 with hr2 | hr2
      · have hr2 : r = placeV b.2.1 b.1.length x.to := hr2
        rw [hr2]
        exact ⟨h0, place_lt h0⟩
      · exact nxt c1 (by rw [c2]; decide) r (by simpa using hr2)
    rw [if_neg c2] at hr2
    by_cases c3 : x.1 = 37
    · rw [if_pos c3] at hr2
      have e : resV b.2.1 b.1.length x = (x.setA (rArmsV b.2.1 b.1.length x.arms), (rArmsV b.2.1 b.1.length x.arms).all fun a => decide (0 ≤ a.to)) := by unfold resV Ins.op; rw [if_neg (by rintro (h | h); exact c1 h; exact c2 h), if_pos c3]
      rw [e] at hok hr2
      have hr2 : r ∈ (rArmsV b.2.1 b.1.length x.arms).map Arm.to := hr2
      obtain ⟨a, ha, rfl⟩ := List.mem_map.1 hr2
      have h0 : 0 ≤ a.to := of_decide_eq_true (List.all_eq_true.1 hok a ha)
      unfold rArmsV at ha
      obtain ⟨a0, _, rfl⟩ := List.mem_map.1 ha
      have h0 : 0 ≤ placeV b.2.1 b.1.length a0.to := h0
      exact ⟨h0, place_lt h0⟩
    rw [if_neg c3] at hr2
    exact nxt c1 c3 r (by simpa using hr2)
end Go.Proofs.Ytkpepieepdmjpaa.Ch
