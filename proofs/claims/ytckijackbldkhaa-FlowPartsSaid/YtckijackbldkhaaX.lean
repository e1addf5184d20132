/- Chapter 19 (flow): plain: a func's blocks and its instructions. No condition. -/
import Derived.Test.YtckijackbldkhaaW
namespace Go.Proofs.Ytckijackbldkhaa.Ch
open Go Go.Proofs Go.Proofs.Ytckijackbldkhaa.Sx
set_option linter.unusedVariables false
set_option linter.unusedSimpArgs false

noncomputable def fromB (bl : List Blk) (j : Nat) : Int := (bl.getD j tBlk.dft).1
noncomputable def toB (bl : List Blk) (j : Nat) : Int := (bl.getD j tBlk.dft).2.1
structure InvT (p : Pro) (k : Nat) (bl : List Blk) (at_ : List Int) : Prop where
  f0 : 0 < k → fromB bl 0 = 0
  ft : ∀ j, j + 1 < bl.length → toB bl j = fromB bl (j + 1)
  fl : 0 < k → toB bl (bl.length - 1) = k
  lt : ∀ j, j < bl.length → 0 ≤ fromB bl j ∧ fromB bl j < toB bl j ∧ toB bl j ≤ k
  ha : ∀ j, j < bl.length → ∀ pc : Nat, fromB bl j ≤ pc → (pc : Int) < toB bl j → at_.getD pc 0 = (j : Int)
  bg : ∀ j, j < bl.length → (begV p).getD (fromB bl j).toNat false = true ∧ ∀ pc : Nat, fromB bl j < pc → (pc : Int) < toB bl j → (begV p).getD pc false = false
theorem b1_t (p : Pro) : ∀ k, k ≤ p.code.length → InvT p k (b1V p k).1 (b1V p k).2
  | 0, _ => by
    have h0 : (b1V p 0).1 = [] := rfl
    rw [h0]
    exact ⟨fun h => absurd h (Nat.lt_irrefl _), fun j h => absurd h (by simp), fun h => absurd h (Nat.lt_irrefl _), fun j h => absurd h (by simp), fun j h => absurd h (by simp), fun j h => absurd h (by simp)⟩
  | k + 1, hk => by
    have ih := b1_t p k (by omega)
    have hB := b1_inv p k (by omega)
    rw [b1_next]
    generalize b1V p k = s at ih hB
    obtain ⟨bl0, at0⟩ := s
    have hla : at0.length = p.code.length := hB.la
    have hlb : bl0.length ≤ k ∧ (0 < k → 0 < bl0.length) := hB.lb
    dsimp only at ih
    unfold b1Step
    dsimp only
    by_cases hb : (begV p).getD k false = true
    · rw [if_pos hb]
      have hlen : (bl0 ++ [((k : Int), (0 : Int), ([] : List Int), ([] : List Int), ())] : List Blk).length = bl0.length + 1 := by simp
      have e0 : (bl0.length + 1 - 1) = bl0.length := by omega
      have hlast : (bl0 ++ [((k : Int), (0 : Int), ([] : List Int), ([] : List Int), ())] : List Blk).getD bl0.length tBlk.dft = ((k : Int), (0 : Int), [], [], ()) := by rw [getD_at (by simp)]; simp
      rw [hlen, e0, hlast, set_app_last]
      have eat : (((bl0.length + 1 : Nat) : Int) - 1) = (bl0.length : Int) := by omega
      rw [eat]
      have g1 : ∀ j, j < bl0.length → (bl0 ++ [((k : Int), (k : Int) + 1, ([] : List Int), ([] : List Int), ())] : List Blk).getD j tBlk.dft = bl0.getD j tBlk.dft := fun j hj => by rw [getD_at (by rw [List.length_append]; omega), List.getElem_append_left hj, getD_at hj]
      have g2 : (bl0 ++ [((k : Int), (k : Int) + 1, ([] : List Int), ([] : List Int), ())] : List Blk).getD bl0.length tBlk.dft = ((k : Int), (k : Int) + 1, [], [], ()) := by rw [getD_at (by simp)]; simp
      have hlen2 : (bl0 ++ [((k : Int), (k : Int) + 1, ([] : List Int), ([] : List Int), ())] : List Blk).length = bl0.length + 1 := by simp
      generalize (bl0 ++ [((k : Int), (k : Int) + 1, ([] : List Int), ([] : List Int), ())] : List Blk) = bl at g1 g2 hlen2 ⊢
      have f1 : ∀ j, j < bl0.length → fromB bl j = fromB bl0 j ∧ toB bl j = toB bl0 j := fun j hj => by unfold fromB toB; rw [g1 j hj]; exact ⟨rfl, rfl⟩
      have f2 : fromB bl bl0.length = (k : Int) ∧ toB bl bl0.length = (k : Int) + 1 := by unfold fromB toB; rw [g2]; exact ⟨rfl, rfl⟩
      have hat : ∀ pc : Nat, (at0.set k (bl0.length : Int)).getD pc 0 = if k = pc then (bl0.length : Int) else at0.getD pc 0 := fun pc => getD_set (by omega)
      refine ⟨fun _ => ?_, fun j hj => ?_, fun _ => ?_, fun j hj => ?_, fun j hj pc h1 h2 => ?_, fun j hj => ?_⟩
      · rcases Nat.eq_zero_or_pos k with h0 | h0
        · subst h0
          have : bl0.length = 0 := by omega
          rw [this] at f2; exact f2.1
        · rw [(f1 0 (hlb.2 h0)).1]; exact ih.f0 h0
      · by_cases e : j + 1 = bl0.length
        · rw [(f1 j (by omega)).2, e, f2.1]
          have hk0 : 0 < k := by omega
          have := ih.fl hk0
          rwa [show bl0.length - 1 = j by omega] at this
        · rw [(f1 j (by omega)).2, (f1 (j + 1) (by omega)).1]; exact ih.ft j (by omega)
      · rw [hlen2, Nat.add_sub_cancel, f2.2]; omega
      · by_cases e : j = bl0.length
        · subst e; rw [f2.1, f2.2]; omega
        · rw [(f1 j (by omega)).1, (f1 j (by omega)).2]; have := ih.lt j (by omega); omega
      · rw [hat]
        by_cases e : j = bl0.length
        · subst e
          rw [f2.1] at h1; rw [f2.2] at h2
          rw [if_pos (by omega)]
        · rw [(f1 j (by omega)).1] at h1; rw [(f1 j (by omega)).2] at h2
          have := ih.lt j (by omega)
          rw [if_neg (by omega)]
          exact ih.ha j (by omega) pc h1 h2
      · by_cases e : j = bl0.length
        · subst e
          rw [f2.1, f2.2]
          exact ⟨by rw [Int.toNat_natCast]; exact hb, fun pc h1 h2 => by omega⟩
        · rw [(f1 j (by omega)).1, (f1 j (by omega)).2]; exact ih.bg j (by omega)
    · rw [if_neg hb]
      have hk0 : 0 < k := by
        rcases Nat.eq_zero_or_pos k with h0 | h0
        · subst h0; exact absurd (beg_zero p) hb
        · exact h0
      have hpos := hlb.2 hk0
      have eat : ((bl0.length : Int) - 1) = ((bl0.length - 1 : Nat) : Int) := by omega
      rw [eat]
      have g1 : ∀ j, (bl0.set (bl0.length - 1) ((bl0.getD (bl0.length - 1) tBlk.dft).1, (k : Int) + 1, (bl0.getD (bl0.length - 1) tBlk.dft).2.2)).getD j tBlk.dft = if bl0.length - 1 = j then ((bl0.getD (bl0.length - 1) tBlk.dft).1, (k : Int) + 1, (bl0.getD (bl0.length - 1) tBlk.dft).2.2) else bl0.getD j tBlk.dft := fun j => getD_set (by omega)
      have hlen2 : (bl0.set (bl0.length - 1) ((bl0.getD (bl0.length - 1) tBlk.dft).1, (k : Int) + 1, (bl0.getD (bl0.length - 1) tBlk.dft).2.2)).length = bl0.length := List.length_set
      generalize (bl0.set (bl0.length - 1) ((bl0.getD (bl0.length - 1) tBlk.dft).1, (k : Int) + 1, (bl0.getD (bl0.length - 1) tBlk.dft).2.2)) = bl at g1 hlen2 ⊢
      have ff : ∀ j, fromB bl j = fromB bl0 j := fun j => by
        unfold fromB; rw [g1]
        by_cases e : bl0.length - 1 = j
        · rw [if_pos e, ← e]
        · rw [if_neg e]
      have ft : ∀ j, toB bl j = if bl0.length - 1 = j then (k : Int) + 1 else toB bl0 j := fun j => by
        unfold toB; rw [g1]
        by_cases e : bl0.length - 1 = j
        · rw [if_pos e, if_pos e]
        · rw [if_neg e, if_neg e]
      have hat : ∀ pc : Nat, (at0.set k ((bl0.length - 1 : Nat) : Int)).getD pc 0 = if k = pc then ((bl0.length - 1 : Nat) : Int) else at0.getD pc 0 := fun pc => getD_set (by omega)
      have hfl := ih.fl hk0
      refine ⟨fun _ => by rw [ff]; exact ih.f0 hk0, fun j hj => ?_, fun _ => ?_, fun j hj => ?_, fun j hj pc h1 h2 => ?_, fun j hj => ?_⟩
      · rw [ff, ft, if_neg (by omega)]; exact ih.ft j (by omega)
      · rw [hlen2, ft, if_pos rfl]; omega
      · rw [ff, ft]
        have := ih.lt j (by omega)
        split <;> omega
      · rw [hat]
        rw [ff] at h1; rw [ft] at h2
        by_cases e : bl0.length - 1 = j
        · rw [if_pos e] at h2
          by_cases ek : k = pc
          · rw [if_pos ek, e]
          · rw [if_neg ek]
            exact ih.ha j (by omega) pc h1 (by rw [← e, hfl]; omega)
        · rw [if_neg e] at h2
          have := ih.lt j (by omega)
          rw [if_neg (by omega)]
          exact ih.ha j (by omega) pc h1 h2
      · rw [ff, ft]
        obtain ⟨b1, b2⟩ := ih.bg j (by omega)
        refine ⟨b1, fun pc h1 h2 => ?_⟩
        by_cases e : bl0.length - 1 = j
        · rw [if_pos e] at h2
          by_cases ek : k = pc
          · subst ek
            cases h0 : (begV p).getD k false with
            | false => rfl
            | true => exact absurd h0 hb
          · exact b2 pc h1 (by rw [← e, hfl]; omega)
        · rw [if_neg e] at h2
          exact b2 pc h1 h2
/-! ### what goes on where -/
theorem begs_mono (p : Pro) {j : Nat} : ∀ (m k : Nat), k ≤ m → ∀ {o : List Bool}, ((List.range k).foldl (begStep p) o).getD j false = true → ((List.range m).foldl (begStep p) o).getD j false = true
  | 0, k, h, o, ho => by obtain rfl : k = 0 := by omega
                         exact ho
  | m + 1, k, h, o, ho => by
    by_cases e : k = m + 1
    · subst e; exact ho
    · rw [range_fold]; exact begStep_true p (begs_mono p m k (by omega) ho)
theorem setsT_mem : ∀ (l : List Int) {o : List Bool} {k : Int}, k ∈ l → k.toNat < o.length → (l.foldl setT o).getD k.toNat false = true
  | [], o, k, h, _ => by simp at h
  | c :: l, o, k, h, hl => by
    rw [List.foldl_cons]
    rcases List.mem_cons.1 h with rfl | h
    · refine setsT_true l ?_
      unfold setT
      rw [getD_set hl, if_pos rfl]
    · exact setsT_mem l h (by unfold setT; rw [List.length_set]; exact hl)
theorem beg_parts {p : Pro} (hg : goodV p = true) {pc : Nat} (hpc : pc < p.code.length) (hp : partsV (p.code.getD pc tIns.dft) = true) : (begV p).getD (pc + 1) false = true ∧ ∀ k ∈ nextC p pc, (begV p).getD k.toNat false = true := by
  have key : ∀ j : Nat, (begStep p ((List.range pc).foldl (begStep p) ((List.replicate (p.code.length + 1) false).set 0 true)) pc).getD j false = true → (begV p).getD j false = true := fun j h => by
    unfold begV
    refine begs_mono p p.code.length (pc + 1) hpc ?_
    rw [range_fold]; exact h
  have hl := begs_len p pc ((List.replicate (p.code.length + 1) false).set 0 true)
  have hl0 : ((List.replicate (p.code.length + 1) false).set 0 true).length = p.code.length + 1 := by simp
  rw [hl0] at hl
  generalize (List.range pc).foldl (begStep p) ((List.replicate (p.code.length + 1) false).set 0 true) = O at key hl
  refine ⟨key _ ?_, fun k hk => key _ ?_⟩
  · unfold begStep
    rw [if_pos hp]
    refine setsT_true _ ?_
    rw [getD_set (by omega), if_pos rfl]
  · unfold begStep
    rw [if_pos hp]
    have := next_inR hg hpc k hk
    exact setsT_mem _ hk (by rw [List.length_set]; omega)
theorem next_plain {p : Pro} (hp : smallP p) {pc : Nat} (hpc : pc < p.code.length) (hn : partsV (p.code.getD pc tIns.dft) = false) : nextC p pc = [((pc + 1 : Nat) : Int)] := by
  have hcl := hp.1
  unfold nextC
  generalize p.code.getD pc tIns.dft = i at hn ⊢
  unfold partsV endsV at hn
  simp only [Bool.or_eq_false_iff, decide_eq_false_iff_not] at hn
  obtain ⟨⟨n1, n2, n3, n4⟩, n5⟩ := hn
  have ew : IntKind.i64.wrap ((pc : Int) + 1) = ((pc + 1 : Nat) : Int) := w64n (n := pc + 1) (by omega)
  have e1 : nextR i pc = [((pc + 1 : Nat) : Int)] := by
    unfold nextR
    rw [if_neg (show ¬ i.op = 19 from n3), if_neg n5, if_neg (show ¬ i.op = 37 from n4), ew]
  unfold nextV
  have h23 : i.op ≠ 23 := n1
  have h26 : i.op ≠ 26 := n2
  rw [if_neg (fun h => by
    unfold inL at h
    simp only [List.any_cons, List.any_nil, Bool.or_false, Bool.or_eq_true, beq_iff_eq] at h
    omega), e1]
  unfold sortV compV
  rw [List.mergeSort_singleton]
  rfl
end Go.Proofs.Ytckijackbldkhaa.Ch
