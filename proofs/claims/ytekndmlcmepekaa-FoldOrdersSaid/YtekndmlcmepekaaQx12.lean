/- Functions of the program as Lean functions, and their walks: printed by print.py as this session changed it (mkprint.py). Lean checks it. No condition. -/
import Derived.Test.YtekndmlcmepekaaQx0
import Derived.Test.YtekndmlcmepekaaQx8
namespace Go.Proofs.Ytekndmlcmepekaa.Q
open Go.RowKit Go.Proofs.YtekndmlcmepekaaW.PrintWords Go.Proofs.YtekndmlcmepekaaW.PrintLast Go.Proofs.YtekndmlcmepekaaW.PrintMore
attribute [local go_sem] max2_int min2_int max_two min_two max_three min_three max_four min_four   -- for this text's walks alone
attribute [local go_sem] Instr.field asAgg
set_option linter.unusedVariables false
set_option linter.unusedSimpArgs false

/-! ### wide_Cmp: function 45 -/
def wide_Cmp.f (a0_0 : Int) (a0_1 : Int) (a1_0 : Int) (a1_1 : Int) : Option (Int) := (wide_less.f (Go.bits .xor .u64 a0_0 9223372036854775808) a0_1 (Go.bits .xor .u64 a1_0 9223372036854775808) a1_1).bind fun t235 => (if t235 = true then (some (-1)) else ((wide_less.f (Go.bits .xor .u64 a1_0 9223372036854775808) a1_1 (Go.bits .xor .u64 a0_0 9223372036854775808) a0_1).bind fun t236 => (if t236 = true then (some 1) else (some 0))))
def wide_Cmp.T1 : Bool × List (List Nat × List Nat) := (true, [([], []), ([0], [0]), ([1], [1]), ([], []), ([3], [3]), ([2, 4], [2, 4]), ([], []), ([6], [6]), ([7], [7]), ([], []), ([9], [9]), ([8, 10], [8, 10]), ([], []), ([], []), ([12, 5, 0, 1, 2, 3, 4, 5, 12, 13], [5, 12]), ([13, 11, 14, 0, 1, 2, 3, 4, 5, 6, 7, 8, 9, 10, 11, 12, 13, 14], [11, 13])])
def wide_Cmp.B1 : List Nat := [0, 1, 3, 0, 8, 31, 0, 64, 192, 0, 512, 1984, 0, 0, 12351, 32767]
theorem wide_Cmp.tab1 : rtab .any (opsOf Try.f45 1) = wide_Cmp.T1 := by kernel_rfl
theorem wide_Cmp.bits1 : waitsOk wide_Cmp.T1.2 wide_Cmp.B1 = true := by kernel_rfl
set_option maxHeartbeats 8000000 in
set_option maxRecDepth 100000 in
theorem wide_Cmp.calls (a0_0 : Int) (a0_1 : Int) (a1_0 : Int) (a1_1 : Int) (r : Int) (w : World) (h : wide_Cmp.f a0_0 a0_1 a1_0 a1_1 = some r) :
    Calls Try.prog 45 #[.agg #[.int .u64 a0_0, .int .u64 a0_1], .agg #[.int .u64 a1_0, .int .u64 a1_1]] w fun e w' => e = .returned (.int .i64 r) ∧ Below w.heap.size w w' := by
  have hu26 := Try.underlying26
  have hu91 := Try.underlying91
  have HB := Aside0.mk (Below.refl w.heap.size w)
  have H : ((wide_less.f (Go.bits .xor .u64 a0_0 9223372036854775808) a0_1 (Go.bits .xor .u64 a1_0 9223372036854775808) a1_1).bind fun t235 => (if t235 = true then (some (-1)) else ((wide_less.f (Go.bits .xor .u64 a1_0 9223372036854775808) a1_1 (Go.bits .xor .u64 a0_0 9223372036854775808) a0_1).bind fun t236 => (if t236 = true then (some 1) else (some 0))))) = some r := h
  clear h
  replace H := Option.bind_eq_some_iff.mp H
  obtain ⟨t235, A30, H⟩ := H
  replace H : (if t235 = true then (some (-1)) else ((wide_less.f (Go.bits .xor .u64 a1_0 9223372036854775808) a1_1 (Go.bits .xor .u64 a0_0 9223372036854775808) a0_1).bind fun t236 => (if t236 = true then (some 1) else (some 0)))) = some r := H
  have A3 := Aside0.mk A30
  clear A30
  by_cases c4 : t235 = true
  · subst c4
    have H1 : (some (-1)) = some r := by rw [if_pos rfl] at H; exact H
    clear H
    have H := H1
    clear H1
    obtain rfl := Option.some.inj H
    go_enter Try.func45, Try.ntmps45
    try go_wp2_with (first | ((with_reducible refine gate_dst (N := 2) rfl ?_); refine box_event ?hg (N := 2) ?hd (cs := #[.int .u64 a0_0, .int .u64 a0_1]) (t := 26) ?hr ?_; (case hd => rfl); (case hg => rfl); (case hr => first | (go_simp; done) | (go_simp; rfl)); intro gb231 hg w5 hbox hb; have n0_ := Aside0.mk (below_step (bL HB) hb); have n1_ := Aside0.mk (hbox); have n2_ := Aside0.mk ((by rw [hg]; exact (below_size (bL HB)) : w.heap.size ≤ gb231)); have n3_ := Aside0.mk ((by rw [hg]; exact (below_size (bL HB)) : w.heap.size ≤ gb231)); clear HB; have HB := n0_; have BK231 := n1_; have GW231 := n2_; have GE231 := n3_; clear n0_ n1_ n2_ n3_; clear hb hbox hg) | ((with_reducible refine gate_dst (N := 3) rfl ?_); refine box_event ?hg (N := 3) ?hd (cs := #[.int .u64 a1_0, .int .u64 a1_1]) (t := 26) ?hr ?_; (case hd => rfl); (case hg => rfl); (case hr => first | (go_simp; done) | (go_simp; rfl)); intro gb232 hg w6 hbox hb; have n0_ := blkB BK231 hb; have n1_ := Aside0.mk (below_step (bL HB) hb); have n2_ := Aside0.mk (hbox); have n3_ := Aside0.mk ((by rw [hg]; exact (below_size (bL HB)) : w.heap.size ≤ gb232)); have n4_ := Aside0.mk ((by rw [hg]; exact (below_size (bL HB)) : w.heap.size ≤ gb232)); have n5_ := blkL BK231 hg; have n6_ := blkG BK231 hg; clear BK231 HB; have BK231 := n0_; have HB := n1_; have BK232 := n2_; have GW232 := n3_; have GE232 := n4_; have NB231_232 := n5_; have NB232_231 := n6_; clear n0_ n1_ n2_ n3_ n4_ n5_ n6_; clear hb hbox hg))
    have n0_ := Aside0.mk (blk_drew BK231.out)
    have n1_ := Aside0.mk (blk_drew BK232.out)
    have n2_ := Aside0.mk (below_drew1 HB.out)
    clear BK231
    clear BK232
    clear HB
    have BK231 := n0_
    have BK232 := n1_
    have HB := n2_
    clear n0_ n1_ n2_
    refine start_ (n := 16) (S := fun w' => w'.cell? ⟨gb231, 0, none⟩ = some (.int .u64 a0_0) ∧ w'.cell? ⟨gb231, 1, none⟩ = some (.int .u64 a0_1) ∧ w'.cell? ⟨gb232, 0, none⟩ = some (.int .u64 a1_0) ∧ w'.cell? ⟨gb232, 1, none⟩ = some (.int .u64 a1_1)) (ds := []) #[false, false, false, false, false, false, false, false, false, false, false, false, false, false, false, false] (by kernel_rfl) rfl rfl ⟨(blk_cell BK231.out 0).trans rfl, (blk_cell BK231.out 1).trans rfl, (blk_cell BK232.out 0).trans rfl, (blk_cell BK232.out 1).trans rfl⟩ (fun hHeld => ?_); refine with_tabW wide_Cmp.tab1 wide_Cmp.bits1 (fun HT_ HW_ => ?_)
    generalize w6.drew = w7 at BK231 BK232 HB hHeld ⊢
    refine pure_ (i := 0) (N := some 7) (v := ?_) (a' := ?_) #[true, false, false, false, false, false, false, false, false, false, false, false, false, false, false, false] rfl rfl (any_of HT_.out (by kernel_rfl)) (fun _ _ _ h => h) (Or.inl ⟨by rfl, ?_⟩) ?_ ?_
    rotate_left
    · intro w'
      go_simp
      with_reducible rfl
    rotate_left
    · simp only [Act.put, List.setIfInBounds_toArray, List.set_cons_zero, List.set_cons_succ, i64_w, i32_w]
      rfl
    refine pure_ (i := 3) (N := some 10) (v := ?_) (a' := ?_) #[true, false, false, true, false, false, false, false, false, false, false, false, false, false, false, false] rfl rfl (any_of HT_.out (by kernel_rfl)) (fun _ _ _ h => h) (Or.inl ⟨by rfl, ?_⟩) ?_ ?_
    rotate_left
    · intro w'
      go_simp
      with_reducible rfl
    rotate_left
    · simp only [Act.put, List.setIfInBounds_toArray, List.set_cons_zero, List.set_cons_succ, i64_w, i32_w]
      rfl
    refine pure_ (i := 6) (N := some 13) (v := ?_) (a' := ?_) #[true, false, false, true, false, false, true, false, false, false, false, false, false, false, false, false] rfl rfl (any_of HT_.out (by kernel_rfl)) (fun _ _ _ h => h) (Or.inl ⟨by rfl, ?_⟩) ?_ ?_
    rotate_left
    · intro w'
      go_simp
      with_reducible rfl
    rotate_left
    · simp only [Act.put, List.setIfInBounds_toArray, List.set_cons_zero, List.set_cons_succ, i64_w, i32_w]
      rfl
    refine pure_ (i := 9) (N := some 16) (v := ?_) (a' := ?_) #[true, false, false, true, false, false, true, false, false, true, false, false, false, false, false, false] rfl rfl (any_of HT_.out (by kernel_rfl)) (fun _ _ _ h => h) (Or.inl ⟨by rfl, ?_⟩) ?_ ?_
    rotate_left
    · intro w'
      go_simp
      with_reducible rfl
    rotate_left
    · simp only [Act.put, List.setIfInBounds_toArray, List.set_cons_zero, List.set_cons_succ, i64_w, i32_w]
      rfl
    refine take_ (i := 1) (N := some 8) (v := ?_) (a' := ?_) #[true, true, false, true, false, false, true, false, false, true, false, false, false, false, false, false] rfl rfl (take_ofW HT_.out HW_.out (by kernel_rfl)) (fun _ _ _ h => h) (Or.inl ⟨by rfl, ?_⟩) hHeld ?_ ?_
    rotate_left
    · rintro w' ⟨s0, s1, s2, s3⟩
      go_simp
      with_reducible rfl
    rotate_left
    · simp only [Act.put, List.setIfInBounds_toArray, List.set_cons_zero, List.set_cons_succ, i64_w, i32_w]
      rfl
    refine pure_ (i := 2) (N := some 9) (v := ?_) (a' := ?_) #[true, true, true, true, false, false, true, false, false, true, false, false, false, false, false, false] rfl rfl (any_of HT_.out (by kernel_rfl)) (fun _ _ _ h => h) (Or.inl ⟨by rfl, ?_⟩) ?_ ?_
    rotate_left
    · intro w'
      go_simp
      with_reducible rfl
    rotate_left
    · simp only [Act.put, List.setIfInBounds_toArray, List.set_cons_zero, List.set_cons_succ, i64_w, i32_w]
      rfl
    refine take_ (i := 4) (N := some 11) (v := ?_) (a' := ?_) #[true, true, true, true, true, false, true, false, false, true, false, false, false, false, false, false] rfl rfl (take_ofW HT_.out HW_.out (by kernel_rfl)) (fun _ _ _ h => h) (Or.inl ⟨by rfl, ?_⟩) hHeld ?_ ?_
    rotate_left
    · rintro w' ⟨s0, s1, s2, s3⟩
      go_simp
      with_reducible rfl
    rotate_left
    · simp only [Act.put, List.setIfInBounds_toArray, List.set_cons_zero, List.set_cons_succ, i64_w, i32_w]
      rfl
    refine pure_ (i := 5) (N := some 12) (v := ?_) (a' := ?_) #[true, true, true, true, true, true, true, false, false, true, false, false, false, false, false, false] rfl rfl (any_of HT_.out (by kernel_rfl)) (fun _ _ _ h => h) (Or.inl ⟨by rfl, ?_⟩) ?_ ?_
    rotate_left
    · intro w'
      go_simp
      with_reducible rfl
    rotate_left
    · simp only [Act.put, List.setIfInBounds_toArray, List.set_cons_zero, List.set_cons_succ, i64_w, i32_w]
      rfl
    refine take_ (i := 7) (N := some 14) (v := ?_) (a' := ?_) #[true, true, true, true, true, true, true, true, false, true, false, false, false, false, false, false] rfl rfl (take_ofW HT_.out HW_.out (by kernel_rfl)) (fun _ _ _ h => h) (Or.inl ⟨by rfl, ?_⟩) hHeld ?_ ?_
    rotate_left
    · rintro w' ⟨s0, s1, s2, s3⟩
      go_simp
      with_reducible rfl
    rotate_left
    · simp only [Act.put, List.setIfInBounds_toArray, List.set_cons_zero, List.set_cons_succ, i64_w, i32_w]
      rfl
    refine pure_ (i := 8) (N := some 15) (v := ?_) (a' := ?_) #[true, true, true, true, true, true, true, true, true, true, false, false, false, false, false, false] rfl rfl (any_of HT_.out (by kernel_rfl)) (fun _ _ _ h => h) (Or.inl ⟨by rfl, ?_⟩) ?_ ?_
    rotate_left
    · intro w'
      go_simp
      with_reducible rfl
    rotate_left
    · simp only [Act.put, List.setIfInBounds_toArray, List.set_cons_zero, List.set_cons_succ, i64_w, i32_w]
      rfl
    refine take_ (i := 10) (N := some 17) (v := ?_) (a' := ?_) #[true, true, true, true, true, true, true, true, true, true, true, false, false, false, false, false] rfl rfl (take_ofW HT_.out HW_.out (by kernel_rfl)) (fun _ _ _ h => h) (Or.inl ⟨by rfl, ?_⟩) hHeld ?_ ?_
    rotate_left
    · rintro w' ⟨s0, s1, s2, s3⟩
      go_simp
      with_reducible rfl
    rotate_left
    · simp only [Act.put, List.setIfInBounds_toArray, List.set_cons_zero, List.set_cons_succ, i64_w, i32_w]
      rfl
    refine pure_ (i := 11) (N := some 18) (v := ?_) (a' := ?_) #[true, true, true, true, true, true, true, true, true, true, true, true, false, false, false, false] rfl rfl (any_of HT_.out (by kernel_rfl)) (fun _ _ _ h => h) (Or.inl ⟨by rfl, ?_⟩) ?_ ?_
    rotate_left
    · intro w'
      go_simp
      with_reducible rfl
    rotate_left
    · simp only [Act.put, List.setIfInBounds_toArray, List.set_cons_zero, List.set_cons_succ, i64_w, i32_w]
      rfl
    refine join_ (σ := Nat × Nat) 2 #[true, true, true, true, true, true, true, true, true, true, true, true, true, true, false, false] (fun s_ => [(5, .pointer (some ⟨s_.1, 0, none⟩)), (6, .pointer (some ⟨s_.2, 0, none⟩))]) (fun s_ w' => (w'.cell? ⟨gb231, 0, none⟩ = some (.int .u64 a0_0) ∧ w'.cell? ⟨gb231, 1, none⟩ = some (.int .u64 a0_1) ∧ w'.cell? ⟨gb232, 0, none⟩ = some (.int .u64 a1_0) ∧ w'.cell? ⟨gb232, 1, none⟩ = some (.int .u64 a1_1)) ∧ (w'.heap[gb231]? = some (.cells #[.int .u64 a0_0, .int .u64 a0_1] 26 (0, 0))) ∧ (w'.heap[gb232]? = some (.cells #[.int .u64 a1_0, .int .u64 a1_1] 26 (0, 0))) ∧ (w'.heap[s_.1]? = some (.cells #[.int .u64 0, .int .u64 0] 91 (0, 0))) ∧ (w'.heap[s_.2]? = some (.cells #[.int .u64 0, .int .u64 0] 91 (0, 0))) ∧ (w.heap.size ≤ s_.1) ∧ (w.heap.size ≤ s_.1) ∧ (gb231 ≠ s_.1) ∧ (s_.1 ≠ gb231) ∧ (gb232 ≠ s_.1) ∧ (s_.1 ≠ gb232) ∧ (s_.2 ≠ s_.1) ∧ (s_.1 ≠ s_.2) ∧ (w.heap.size ≤ s_.2) ∧ (w.heap.size ≤ s_.2) ∧ (gb231 ≠ s_.2) ∧ (s_.2 ≠ gb231) ∧ (gb232 ≠ s_.2) ∧ (s_.2 ≠ gb232) ∧ (Below w.heap.size w w')) ?_ ?_
    rotate_left
    · intro hCont
      refine two_ (i := 12) (j := 13) (Ni := some 5) (Nj := some 6) #[true, true, true, true, true, true, true, true, true, true, true, true, true, false, false, false] #[true, true, true, true, true, true, true, true, true, true, true, true, false, true, false, false] rfl rfl rfl rfl (two_of HT_.out (by kernel_rfl)) (by decide) (by decide) (fun K hK => ?_) (fun K hK => ?_)
      · skip
        refine box_step ?hg (N := 5) ?hd (cs := #[.int .u64 0, .int .u64 0]) (t := 91) ?hr ?_; (case hd => rfl); (case hg => rfl); (case hr => first | (go_simp; done) | (go_simp; rfl))
        intro gb233 hg w8 hbox hb
        have n0_ := blkB BK231 hb
        have n1_ := blkB BK232 hb
        have n2_ := Aside0.mk (below_step (bL HB) hb)
        have n3_ := Aside0.mk (hbox)
        have n4_ := Aside0.mk ((by rw [hg]; exact (below_size (bL HB)) : w.heap.size ≤ gb233))
        have n5_ := Aside0.mk ((by rw [hg]; exact (below_size (bL HB)) : w.heap.size ≤ gb233))
        have n6_ := blkL BK231 hg
        have n7_ := blkG BK231 hg
        have n8_ := blkL BK232 hg
        have n9_ := blkG BK232 hg
        clear BK231
        clear BK232
        clear HB
        have BK231 := n0_
        have BK232 := n1_
        have HB := n2_
        have BK233 := n3_
        have GW233 := n4_
        have GE233 := n5_
        have NB231_233 := n6_
        have NB233_231 := n7_
        have NB232_233 := n8_
        have NB233_232 := n9_
        clear n0_ n1_ n2_ n3_ n4_ n5_ n6_ n7_ n8_ n9_
        clear hb hbox hg
        refine hK.out _ _ ⟨(blk_cell BK231.out 0).trans rfl, (blk_cell BK231.out 1).trans rfl, (blk_cell BK232.out 0).trans rfl, (blk_cell BK232.out 1).trans rfl⟩ (fun hHeld => ?_)
        clear hK K
        refine norm_ (a' := ?_) ?_ ?_
        rotate_left
        · show Act.put _ (some 5) _ = _
          simp only [Act.put, List.setIfInBounds_toArray, List.set_cons_zero, List.set_cons_succ, i64_w, i32_w]
          rfl
        refine one_ (i := 13) (N := some 6) #[true, true, true, true, true, true, true, true, true, true, true, true, true, true, false, false] rfl rfl (one_of HT_.out (by kernel_rfl)) (by decide) (fun K hK => ?_)
        refine box_step ?hg (N := 6) ?hd (cs := #[.int .u64 0, .int .u64 0]) (t := 91) ?hr ?_; (case hd => rfl); (case hg => rfl); (case hr => first | (go_simp; done) | (go_simp; rfl))
        intro gb234 hg w9 hbox hb
        have n0_ := blkB BK231 hb
        have n1_ := blkB BK232 hb
        have n2_ := blkB BK233 hb
        have n3_ := Aside0.mk (below_step (bL HB) hb)
        have n4_ := Aside0.mk (hbox)
        have n5_ := Aside0.mk ((by rw [hg]; exact (below_size (bL HB)) : w.heap.size ≤ gb234))
        have n6_ := Aside0.mk ((by rw [hg]; exact (below_size (bL HB)) : w.heap.size ≤ gb234))
        have n7_ := blkL BK231 hg
        have n8_ := blkG BK231 hg
        have n9_ := blkL BK232 hg
        have n10_ := blkG BK232 hg
        have n11_ := blkL BK233 hg
        have n12_ := blkG BK233 hg
        clear BK231
        clear BK232
        clear BK233
        clear HB
        have BK231 := n0_
        have BK232 := n1_
        have BK233 := n2_
        have HB := n3_
        have BK234 := n4_
        have GW234 := n5_
        have GE234 := n6_
        have NB231_234 := n7_
        have NB234_231 := n8_
        have NB232_234 := n9_
        have NB234_232 := n10_
        have NB233_234 := n11_
        have NB234_233 := n12_
        clear n0_ n1_ n2_ n3_ n4_ n5_ n6_ n7_ n8_ n9_ n10_ n11_ n12_
        clear hb hbox hg
        refine hK.out _ _ ⟨(blk_cell BK231.out 0).trans rfl, (blk_cell BK231.out 1).trans rfl, (blk_cell BK232.out 0).trans rfl, (blk_cell BK232.out 1).trans rfl⟩ (fun hHeld => ?_)
        clear hK K
        refine norm_ (a' := ?_) ?_ ?_
        rotate_left
        · show Act.put _ (some 6) _ = _
          simp only [Act.put, List.setIfInBounds_toArray, List.set_cons_zero, List.set_cons_succ, i64_w, i32_w]
          rfl
        exact norm_ (by simp only [putAll, Act.put, List.setIfInBounds_toArray, List.set_cons_zero, List.set_cons_succ]) (hCont (gb233, gb234) _ ⟨hHeld, (bN BK231), (bN BK232), (bN BK233), (bN BK234), GW233.out, GE233.out, NB231_233.out, NB233_231.out, NB232_233.out, NB233_232.out, NB234_233.out, NB233_234.out, GW234.out, GE234.out, NB231_234.out, NB234_231.out, NB232_234.out, NB234_232.out, (bL HB)⟩)
      · skip
        refine box_step ?hg (N := 6) ?hd (cs := #[.int .u64 0, .int .u64 0]) (t := 91) ?hr ?_; (case hd => rfl); (case hg => rfl); (case hr => first | (go_simp; done) | (go_simp; rfl))
        intro gb234 hg w8 hbox hb
        have n0_ := blkB BK231 hb
        have n1_ := blkB BK232 hb
        have n2_ := Aside0.mk (below_step (bL HB) hb)
        have n3_ := Aside0.mk (hbox)
        have n4_ := Aside0.mk ((by rw [hg]; exact (below_size (bL HB)) : w.heap.size ≤ gb234))
        have n5_ := Aside0.mk ((by rw [hg]; exact (below_size (bL HB)) : w.heap.size ≤ gb234))
        have n6_ := blkL BK231 hg
        have n7_ := blkG BK231 hg
        have n8_ := blkL BK232 hg
        have n9_ := blkG BK232 hg
        clear BK231
        clear BK232
        clear HB
        have BK231 := n0_
        have BK232 := n1_
        have HB := n2_
        have BK234 := n3_
        have GW234 := n4_
        have GE234 := n5_
        have NB231_234 := n6_
        have NB234_231 := n7_
        have NB232_234 := n8_
        have NB234_232 := n9_
        clear n0_ n1_ n2_ n3_ n4_ n5_ n6_ n7_ n8_ n9_
        clear hb hbox hg
        refine hK.out _ _ ⟨(blk_cell BK231.out 0).trans rfl, (blk_cell BK231.out 1).trans rfl, (blk_cell BK232.out 0).trans rfl, (blk_cell BK232.out 1).trans rfl⟩ (fun hHeld => ?_)
        clear hK K
        refine norm_ (a' := ?_) ?_ ?_
        rotate_left
        · show Act.put _ (some 6) _ = _
          simp only [Act.put, List.setIfInBounds_toArray, List.set_cons_zero, List.set_cons_succ, i64_w, i32_w]
          rfl
        refine one_ (i := 12) (N := some 5) #[true, true, true, true, true, true, true, true, true, true, true, true, true, true, false, false] rfl rfl (one_of HT_.out (by kernel_rfl)) (by decide) (fun K hK => ?_)
        refine box_step ?hg (N := 5) ?hd (cs := #[.int .u64 0, .int .u64 0]) (t := 91) ?hr ?_; (case hd => rfl); (case hg => rfl); (case hr => first | (go_simp; done) | (go_simp; rfl))
        intro gb233 hg w9 hbox hb
        have n0_ := blkB BK231 hb
        have n1_ := blkB BK232 hb
        have n2_ := blkB BK234 hb
        have n3_ := Aside0.mk (below_step (bL HB) hb)
        have n4_ := Aside0.mk (hbox)
        have n5_ := Aside0.mk ((by rw [hg]; exact (below_size (bL HB)) : w.heap.size ≤ gb233))
        have n6_ := Aside0.mk ((by rw [hg]; exact (below_size (bL HB)) : w.heap.size ≤ gb233))
        have n7_ := blkL BK231 hg
        have n8_ := blkG BK231 hg
        have n9_ := blkL BK232 hg
        have n10_ := blkG BK232 hg
        have n11_ := blkL BK234 hg
        have n12_ := blkG BK234 hg
        clear BK231
        clear BK232
        clear BK234
        clear HB
        have BK231 := n0_
        have BK232 := n1_
        have BK234 := n2_
        have HB := n3_
        have BK233 := n4_
        have GW233 := n5_
        have GE233 := n6_
        have NB231_233 := n7_
        have NB233_231 := n8_
        have NB232_233 := n9_
        have NB233_232 := n10_
        have NB234_233 := n11_
        have NB233_234 := n12_
        clear n0_ n1_ n2_ n3_ n4_ n5_ n6_ n7_ n8_ n9_ n10_ n11_ n12_
        clear hb hbox hg
        refine hK.out _ _ ⟨(blk_cell BK231.out 0).trans rfl, (blk_cell BK231.out 1).trans rfl, (blk_cell BK232.out 0).trans rfl, (blk_cell BK232.out 1).trans rfl⟩ (fun hHeld => ?_)
        clear hK K
        refine norm_ (a' := ?_) ?_ ?_
        rotate_left
        · show Act.put _ (some 5) _ = _
          simp only [Act.put, List.setIfInBounds_toArray, List.set_cons_zero, List.set_cons_succ, i64_w, i32_w]
          rfl
        exact norm_ (by simp only [putAll, Act.put, List.setIfInBounds_toArray, List.set_cons_zero, List.set_cons_succ]) (hCont (gb233, gb234) _ ⟨hHeld, (bN BK231), (bN BK232), (bN BK233), (bN BK234), GW233.out, GE233.out, NB231_233.out, NB233_231.out, NB232_233.out, NB233_232.out, NB234_233.out, NB233_234.out, GW234.out, GE234.out, NB231_234.out, NB234_231.out, NB232_234.out, NB234_232.out, (bL HB)⟩)
    rintro ⟨gb233, gb234⟩ w10 ⟨hS_, h0_, h1_, h2_, h3_, h4_, h5_, h6_, h7_, h8_, h9_, h10_, h11_, h12_, h13_, h14_, h15_, h16_, h17_, h18_⟩
    have n0_ : Aside0 (w10.heap[gb231]? = some (.cells #[.int .u64 a0_0, .int .u64 a0_1] 26 (0, 0))) := ⟨h0_⟩
    have n1_ : Aside0 (w10.heap[gb232]? = some (.cells #[.int .u64 a1_0, .int .u64 a1_1] 26 (0, 0))) := ⟨h1_⟩
    have n2_ : Aside0 (w10.heap[gb233]? = some (.cells #[.int .u64 0, .int .u64 0] 91 (0, 0))) := ⟨h2_⟩
    have n3_ : Aside0 (w10.heap[gb234]? = some (.cells #[.int .u64 0, .int .u64 0] 91 (0, 0))) := ⟨h3_⟩
    have n4_ : Aside0 (w.heap.size ≤ gb233) := ⟨h4_⟩
    have n5_ : Aside0 (w.heap.size ≤ gb233) := ⟨h5_⟩
    have n6_ : Aside0 (gb231 ≠ gb233) := ⟨h6_⟩
    have n7_ : Aside0 (gb233 ≠ gb231) := ⟨h7_⟩
    have n8_ : Aside0 (gb232 ≠ gb233) := ⟨h8_⟩
    have n9_ : Aside0 (gb233 ≠ gb232) := ⟨h9_⟩
    have n10_ : Aside0 (gb234 ≠ gb233) := ⟨h10_⟩
    have n11_ : Aside0 (gb233 ≠ gb234) := ⟨h11_⟩
    have n12_ : Aside0 (w.heap.size ≤ gb234) := ⟨h12_⟩
    have n13_ : Aside0 (w.heap.size ≤ gb234) := ⟨h13_⟩
    have n14_ : Aside0 (gb231 ≠ gb234) := ⟨h14_⟩
    have n15_ : Aside0 (gb234 ≠ gb231) := ⟨h15_⟩
    have n16_ : Aside0 (gb232 ≠ gb234) := ⟨h16_⟩
    have n17_ : Aside0 (gb234 ≠ gb232) := ⟨h17_⟩
    have n18_ : Aside0 (Below w.heap.size w w10) := ⟨h18_⟩
    clear BK231
    clear BK232
    clear HB
    clear h0_ h1_ h2_ h3_ h4_ h5_ h6_ h7_ h8_ h9_ h10_ h11_ h12_ h13_ h14_ h15_ h16_ h17_ h18_
    have BK231 := n0_
    have BK232 := n1_
    have BK233 := n2_
    have BK234 := n3_
    have GW233 := n4_
    have GE233 := n5_
    have NB231_233 := n6_
    have NB233_231 := n7_
    have NB232_233 := n8_
    have NB233_232 := n9_
    have NB234_233 := n10_
    have NB233_234 := n11_
    have GW234 := n12_
    have GE234 := n13_
    have NB231_234 := n14_
    have NB234_231 := n15_
    have NB232_234 := n16_
    have NB234_232 := n17_
    have HB := n18_
    clear n0_ n1_ n2_ n3_ n4_ n5_ n6_ n7_ n8_ n9_ n10_ n11_ n12_ n13_ n14_ n15_ n16_ n17_ n18_
    have hHeld : w10.cell? ⟨gb231, 0, none⟩ = some (.int .u64 a0_0) ∧ w10.cell? ⟨gb231, 1, none⟩ = some (.int .u64 a0_1) ∧ w10.cell? ⟨gb232, 0, none⟩ = some (.int .u64 a1_0) ∧ w10.cell? ⟨gb232, 1, none⟩ = some (.int .u64 a1_1) := hS_
    refine norm_ (a' := ?_) ?_ ?_
    rotate_left
    · simp only [putAll, Act.put, List.setIfInBounds_toArray, List.set_cons_zero, List.set_cons_succ]
      rfl
    refine one_ (i := 14) (N := none) #[true, true, true, true, true, true, true, true, true, true, true, true, true, true, true, false] rfl rfl (one_of HT_.out (by kernel_rfl)) (by decide) (fun K hK => ?_)
    have hs11 : w10.cell? ⟨gb233, 0, none⟩ = some (.int .u64 0) := (blk_cell BK233.out 0).trans rfl
    have hfs11 := blk_frozen BK233.out 0
    have hns11_0 := NB231_233.out
    have hns11_1 := NB232_233.out
    have hns11_3 := NB234_233.out
    have hms11_0 := NB233_231.out
    have hms11_1 := NB233_232.out
    have hms11_3 := NB233_234.out
    have hs12 : w10.cell? ⟨gb233, 1, none⟩ = some (.int .u64 0) := (blk_cell BK233.out 1).trans rfl
    have hfs12 := blk_frozen BK233.out 1
    have hns12_0 := NB231_233.out
    have hns12_1 := NB232_233.out
    have hns12_3 := NB234_233.out
    have hms12_0 := NB233_231.out
    have hms12_1 := NB233_232.out
    have hms12_3 := NB233_234.out
    refine skip_ (w1 := ?_) (by rfl) rfl ?_ ?_
    rotate_left
    · go_simp
      rfl
    refine hK.out _ _ ⟨((cell_far (p := ⟨gb233, _, none⟩) NB231_233.out _).trans (((cell_far (p := ⟨gb233, _, none⟩) NB231_233.out _).trans (hHeld.1)))), ((cell_far (p := ⟨gb233, _, none⟩) NB231_233.out _).trans (((cell_far (p := ⟨gb233, _, none⟩) NB231_233.out _).trans (hHeld.2.1)))), ((cell_far (p := ⟨gb233, _, none⟩) NB232_233.out _).trans (((cell_far (p := ⟨gb233, _, none⟩) NB232_233.out _).trans (hHeld.2.2.1)))), ((cell_far (p := ⟨gb233, _, none⟩) NB232_233.out _).trans (((cell_far (p := ⟨gb233, _, none⟩) NB232_233.out _).trans (hHeld.2.2.2))))⟩ (fun hHeld => ?_)
    clear hK K
    refine one_ (i := 15) (N := none) #[true, true, true, true, true, true, true, true, true, true, true, true, true, true, true, true] rfl rfl (one_of HT_.out (by kernel_rfl)) (by decide) (fun K hK => ?_)
    have hs13 : w10.cell? ⟨gb234, 0, none⟩ = some (.int .u64 0) := (blk_cell BK234.out 0).trans rfl
    have hfs13 := blk_frozen BK234.out 0
    have hns13_0 := NB231_234.out
    have hns13_1 := NB232_234.out
    have hns13_2 := NB233_234.out
    have hms13_0 := NB234_231.out
    have hms13_1 := NB234_232.out
    have hms13_2 := NB234_233.out
    have hs14 : w10.cell? ⟨gb234, 1, none⟩ = some (.int .u64 0) := (blk_cell BK234.out 1).trans rfl
    have hfs14 := blk_frozen BK234.out 1
    have hns14_0 := NB231_234.out
    have hns14_1 := NB232_234.out
    have hns14_2 := NB233_234.out
    have hms14_0 := NB234_231.out
    have hms14_1 := NB234_232.out
    have hms14_2 := NB234_233.out
    refine skip_ (w1 := ?_) (by rfl) rfl ?_ ?_
    rotate_left
    · go_simp
      rfl
    refine hK.out _ _ ⟨((cell_far (p := ⟨gb234, _, none⟩) NB231_234.out _).trans (((cell_far (p := ⟨gb234, _, none⟩) NB231_234.out _).trans (hHeld.1)))), ((cell_far (p := ⟨gb234, _, none⟩) NB231_234.out _).trans (((cell_far (p := ⟨gb234, _, none⟩) NB231_234.out _).trans (hHeld.2.1)))), ((cell_far (p := ⟨gb234, _, none⟩) NB232_234.out _).trans (((cell_far (p := ⟨gb234, _, none⟩) NB232_234.out _).trans (hHeld.2.2.1)))), ((cell_far (p := ⟨gb234, _, none⟩) NB232_234.out _).trans (((cell_far (p := ⟨gb234, _, none⟩) NB232_234.out _).trans (hHeld.2.2.2))))⟩ (fun hHeld => ?_)
    clear hK K
    refine done_ (done_of HT_.out (by kernel_rfl)) ?_
    have hnb15 := NB233_231.out
    have hnc15 := NB231_233.out
    have hnb16 := NB233_232.out
    have hnc16 := NB232_233.out
    have hnb17 := NB233_234.out
    have hnc17 := NB234_233.out
    have hcz18_0 : w10.cell? ⟨gb233, 0, none⟩ = some (.int .u64 0) := (blk_cell BK233.out 0).trans rfl
    have hcz18_1 : w10.cell? ⟨gb233, 1, none⟩ = some (.int .u64 0) := (blk_cell BK233.out 1).trans rfl
    have hfz18_0 := blk_frozen BK233.out 0
    have hfz18_1 := blk_frozen BK233.out 1
    have hnb19 := NB234_231.out
    have hnc19 := NB231_234.out
    have hnb20 := NB234_232.out
    have hnc20 := NB232_234.out
    have hcz21_0 : w10.cell? ⟨gb234, 0, none⟩ = some (.int .u64 0) := (blk_cell BK234.out 0).trans rfl
    have hcz21_1 : w10.cell? ⟨gb234, 1, none⟩ = some (.int .u64 0) := (blk_cell BK234.out 1).trans rfl
    have hfz21_0 := blk_frozen BK234.out 0
    have hfz21_1 := blk_frozen BK234.out 1
    try go_wp2_with (first | ((with_reducible refine gate_callee (f := 62) rfl ?_); refine goesL_ (some 22) rfl rfl Try.func62 (by kernel_rfl) rfl #[.agg #[.int .u64 (Go.bits .xor .u64 a0_0 9223372036854775808), .int .u64 a0_1], .agg #[.int .u64 (Go.bits .xor .u64 a1_0 9223372036854775808), .int .u64 a1_1]] rfl (by (try simp only [List.map_toArray, List.map_cons, List.map_nil]); first | done | rfl | (simp only [List.length_drop, List.length_take]; rfl) | (go_simp; simp only [u8_w, w64_u8]; done) | (go_simp; simp only [u8_w, w64_u8]; rfl)) ?_; (with_reducible refine (wide_less.calls (Go.bits .xor .u64 a0_0 9223372036854775808) a0_1 (Go.bits .xor .u64 a1_0 9223372036854775808) a1_1 true _ A3.out).mono ?_); rintro e w22 ⟨rfl, hb⟩; refine ⟨_, rfl, ?_⟩; have n0_ := Aside0.mk (blk_below (g := gb231) (o := .cells #[.int .u64 a0_0, .int .u64 a0_1] 26 (0, 0)) (bF BK231) hb); have n1_ := Aside0.mk (blk_below (g := gb232) (o := .cells #[.int .u64 a1_0, .int .u64 a1_1] 26 (0, 0)) (bF BK232) hb); have n2_ := Aside0.mk (blk_below (g := gb233) (o := .cells #[.int .u64 (Go.bits .xor .u64 a0_0 9223372036854775808), .int .u64 a0_1] 91 (0, 0)) (by (with_reducible repeat (first | refine blk_drewN ?_ _ | refine blk_drew ?_ | refine blk_alloc ?_ _)); refine blk_far ?_ NB233_234.out _; (with_reducible repeat (first | refine blk_drewN ?_ _ | refine blk_drew ?_ | refine blk_alloc ?_ _)); refine blk_far ?_ NB233_234.out _; (with_reducible repeat (first | refine blk_drewN ?_ _ | refine blk_drew ?_ | refine blk_alloc ?_ _)); refine blk_put (cs := #[.int .u64 (Go.bits .xor .u64 a0_0 9223372036854775808), .int .u64 0]) ?_ 1 _ rfl; (with_reducible repeat (first | refine blk_drewN ?_ _ | refine blk_drew ?_ | refine blk_alloc ?_ _)); refine blk_put (cs := #[.int .u64 0, .int .u64 0]) ?_ 0 _ rfl; (with_reducible repeat (first | refine blk_drewN ?_ _ | refine blk_drew ?_ | refine blk_alloc ?_ _)); exact BK233.out) hb); have n3_ := Aside0.mk (blk_below (g := gb234) (o := .cells #[.int .u64 (Go.bits .xor .u64 a1_0 9223372036854775808), .int .u64 a1_1] 91 (0, 0)) (by (with_reducible repeat (first | refine blk_drewN ?_ _ | refine blk_drew ?_ | refine blk_alloc ?_ _)); refine blk_put (cs := #[.int .u64 (Go.bits .xor .u64 a1_0 9223372036854775808), .int .u64 0]) ?_ 1 _ rfl; (with_reducible repeat (first | refine blk_drewN ?_ _ | refine blk_drew ?_ | refine blk_alloc ?_ _)); refine blk_put (cs := #[.int .u64 0, .int .u64 0]) ?_ 0 _ rfl; (with_reducible repeat (first | refine blk_drewN ?_ _ | refine blk_drew ?_ | refine blk_alloc ?_ _)); refine blk_far ?_ NB234_233.out _; (with_reducible repeat (first | refine blk_drewN ?_ _ | refine blk_drew ?_ | refine blk_alloc ?_ _)); refine blk_far ?_ NB234_233.out _; (with_reducible repeat (first | refine blk_drewN ?_ _ | refine blk_drew ?_ | refine blk_alloc ?_ _)); exact BK234.out) hb); have n4_ := Aside0.mk (below_step (bL HB) hb); clear BK231 BK232 BK233 BK234 HB; have BK231 := n0_; have BK232 := n1_; have BK233 := n2_; have BK234 := n3_; have HB := n4_; clear n0_ n1_ n2_ n3_ n4_; (try clear hb); (try clear hb2); (try clear hk); (try clear hi)))
    go_ret
    exact ⟨by first | rfl | (simp [errW_none, errW_some] <;> rfl) | (simp [*, errW_none, errW_some] <;> rfl), by repeat (first | (with_reducible first | exact HB.out | apply below_alloc | apply pw_below_drewN | apply below_drew1 | refine below_set ?_ GE231.out | refine below_set ?_ GE232.out | refine below_set ?_ GE233.out | refine below_set ?_ GE234.out) | exact HB.out)⟩
  · replace c4 := Bool.eq_false_iff.mpr c4
    subst c4
    have H1 : ((wide_less.f (Go.bits .xor .u64 a1_0 9223372036854775808) a1_1 (Go.bits .xor .u64 a0_0 9223372036854775808) a0_1).bind fun t236 => (if t236 = true then (some 1) else (some 0))) = some r := by rw [if_neg (show ¬ (false = true) by decide)] at H; exact H
    clear H
    have H := H1
    clear H1
    replace H := Option.bind_eq_some_iff.mp H
    obtain ⟨t236, A230, H⟩ := H
    replace H : (if t236 = true then (some 1) else (some 0)) = some r := H
    have A23 := Aside0.mk A230
    clear A230
    by_cases c24 : t236 = true
    · subst c24
      have H1 : (some 1) = some r := by rw [if_pos rfl] at H; exact H
      clear H
      have H := H1
      clear H1
      obtain rfl := Option.some.inj H
      go_enter Try.func45, Try.ntmps45
      try go_wp2_with (first | ((with_reducible refine gate_dst (N := 2) rfl ?_); refine box_event ?hg (N := 2) ?hd (cs := #[.int .u64 a0_0, .int .u64 a0_1]) (t := 26) ?hr ?_; (case hd => rfl); (case hg => rfl); (case hr => first | (go_simp; done) | (go_simp; rfl)); intro gb231 hg w25 hbox hb; have n0_ := Aside0.mk (below_step (bL HB) hb); have n1_ := Aside0.mk (hbox); have n2_ := Aside0.mk ((by rw [hg]; exact (below_size (bL HB)) : w.heap.size ≤ gb231)); have n3_ := Aside0.mk ((by rw [hg]; exact (below_size (bL HB)) : w.heap.size ≤ gb231)); clear HB; have HB := n0_; have BK231 := n1_; have GW231 := n2_; have GE231 := n3_; clear n0_ n1_ n2_ n3_; clear hb hbox hg) | ((with_reducible refine gate_dst (N := 3) rfl ?_); refine box_event ?hg (N := 3) ?hd (cs := #[.int .u64 a1_0, .int .u64 a1_1]) (t := 26) ?hr ?_; (case hd => rfl); (case hg => rfl); (case hr => first | (go_simp; done) | (go_simp; rfl)); intro gb232 hg w26 hbox hb; have n0_ := blkB BK231 hb; have n1_ := Aside0.mk (below_step (bL HB) hb); have n2_ := Aside0.mk (hbox); have n3_ := Aside0.mk ((by rw [hg]; exact (below_size (bL HB)) : w.heap.size ≤ gb232)); have n4_ := Aside0.mk ((by rw [hg]; exact (below_size (bL HB)) : w.heap.size ≤ gb232)); have n5_ := blkL BK231 hg; have n6_ := blkG BK231 hg; clear BK231 HB; have BK231 := n0_; have HB := n1_; have BK232 := n2_; have GW232 := n3_; have GE232 := n4_; have NB231_232 := n5_; have NB232_231 := n6_; clear n0_ n1_ n2_ n3_ n4_ n5_ n6_; clear hb hbox hg))
      have n0_ := Aside0.mk (blk_drew BK231.out)
      have n1_ := Aside0.mk (blk_drew BK232.out)
      have n2_ := Aside0.mk (below_drew1 HB.out)
      clear BK231
      clear BK232
      clear HB
      have BK231 := n0_
      have BK232 := n1_
      have HB := n2_
      clear n0_ n1_ n2_
      refine start_ (n := 16) (S := fun w' => w'.cell? ⟨gb231, 0, none⟩ = some (.int .u64 a0_0) ∧ w'.cell? ⟨gb231, 1, none⟩ = some (.int .u64 a0_1) ∧ w'.cell? ⟨gb232, 0, none⟩ = some (.int .u64 a1_0) ∧ w'.cell? ⟨gb232, 1, none⟩ = some (.int .u64 a1_1)) (ds := []) #[false, false, false, false, false, false, false, false, false, false, false, false, false, false, false, false] (by kernel_rfl) rfl rfl ⟨(blk_cell BK231.out 0).trans rfl, (blk_cell BK231.out 1).trans rfl, (blk_cell BK232.out 0).trans rfl, (blk_cell BK232.out 1).trans rfl⟩ (fun hHeld => ?_); refine with_tabW wide_Cmp.tab1 wide_Cmp.bits1 (fun HT_ HW_ => ?_)
      generalize w26.drew = w27 at BK231 BK232 HB hHeld ⊢
      refine pure_ (i := 0) (N := some 7) (v := ?_) (a' := ?_) #[true, false, false, false, false, false, false, false, false, false, false, false, false, false, false, false] rfl rfl (any_of HT_.out (by kernel_rfl)) (fun _ _ _ h => h) (Or.inl ⟨by rfl, ?_⟩) ?_ ?_
      rotate_left
      · intro w'
        go_simp
        with_reducible rfl
      rotate_left
      · simp only [Act.put, List.setIfInBounds_toArray, List.set_cons_zero, List.set_cons_succ, i64_w, i32_w]
        rfl
      refine pure_ (i := 3) (N := some 10) (v := ?_) (a' := ?_) #[true, false, false, true, false, false, false, false, false, false, false, false, false, false, false, false] rfl rfl (any_of HT_.out (by kernel_rfl)) (fun _ _ _ h => h) (Or.inl ⟨by rfl, ?_⟩) ?_ ?_
      rotate_left
      · intro w'
        go_simp
        with_reducible rfl
      rotate_left
      · simp only [Act.put, List.setIfInBounds_toArray, List.set_cons_zero, List.set_cons_succ, i64_w, i32_w]
        rfl
      refine pure_ (i := 6) (N := some 13) (v := ?_) (a' := ?_) #[true, false, false, true, false, false, true, false, false, false, false, false, false, false, false, false] rfl rfl (any_of HT_.out (by kernel_rfl)) (fun _ _ _ h => h) (Or.inl ⟨by rfl, ?_⟩) ?_ ?_
      rotate_left
      · intro w'
        go_simp
        with_reducible rfl
      rotate_left
      · simp only [Act.put, List.setIfInBounds_toArray, List.set_cons_zero, List.set_cons_succ, i64_w, i32_w]
        rfl
      refine pure_ (i := 9) (N := some 16) (v := ?_) (a' := ?_) #[true, false, false, true, false, false, true, false, false, true, false, false, false, false, false, false] rfl rfl (any_of HT_.out (by kernel_rfl)) (fun _ _ _ h => h) (Or.inl ⟨by rfl, ?_⟩) ?_ ?_
      rotate_left
      · intro w'
        go_simp
        with_reducible rfl
      rotate_left
      · simp only [Act.put, List.setIfInBounds_toArray, List.set_cons_zero, List.set_cons_succ, i64_w, i32_w]
        rfl
      refine take_ (i := 1) (N := some 8) (v := ?_) (a' := ?_) #[true, true, false, true, false, false, true, false, false, true, false, false, false, false, false, false] rfl rfl (take_ofW HT_.out HW_.out (by kernel_rfl)) (fun _ _ _ h => h) (Or.inl ⟨by rfl, ?_⟩) hHeld ?_ ?_
      rotate_left
      · rintro w' ⟨s0, s1, s2, s3⟩
        go_simp
        with_reducible rfl
      rotate_left
      · simp only [Act.put, List.setIfInBounds_toArray, List.set_cons_zero, List.set_cons_succ, i64_w, i32_w]
        rfl
      refine pure_ (i := 2) (N := some 9) (v := ?_) (a' := ?_) #[true, true, true, true, false, false, true, false, false, true, false, false, false, false, false, false] rfl rfl (any_of HT_.out (by kernel_rfl)) (fun _ _ _ h => h) (Or.inl ⟨by rfl, ?_⟩) ?_ ?_
      rotate_left
      · intro w'
        go_simp
        with_reducible rfl
      rotate_left
      · simp only [Act.put, List.setIfInBounds_toArray, List.set_cons_zero, List.set_cons_succ, i64_w, i32_w]
        rfl
      refine take_ (i := 4) (N := some 11) (v := ?_) (a' := ?_) #[true, true, true, true, true, false, true, false, false, true, false, false, false, false, false, false] rfl rfl (take_ofW HT_.out HW_.out (by kernel_rfl)) (fun _ _ _ h => h) (Or.inl ⟨by rfl, ?_⟩) hHeld ?_ ?_
      rotate_left
      · rintro w' ⟨s0, s1, s2, s3⟩
        go_simp
        with_reducible rfl
      rotate_left
      · simp only [Act.put, List.setIfInBounds_toArray, List.set_cons_zero, List.set_cons_succ, i64_w, i32_w]
        rfl
      refine pure_ (i := 5) (N := some 12) (v := ?_) (a' := ?_) #[true, true, true, true, true, true, true, false, false, true, false, false, false, false, false, false] rfl rfl (any_of HT_.out (by kernel_rfl)) (fun _ _ _ h => h) (Or.inl ⟨by rfl, ?_⟩) ?_ ?_
      rotate_left
      · intro w'
        go_simp
        with_reducible rfl
      rotate_left
      · simp only [Act.put, List.setIfInBounds_toArray, List.set_cons_zero, List.set_cons_succ, i64_w, i32_w]
        rfl
      refine take_ (i := 7) (N := some 14) (v := ?_) (a' := ?_) #[true, true, true, true, true, true, true, true, false, true, false, false, false, false, false, false] rfl rfl (take_ofW HT_.out HW_.out (by kernel_rfl)) (fun _ _ _ h => h) (Or.inl ⟨by rfl, ?_⟩) hHeld ?_ ?_
      rotate_left
      · rintro w' ⟨s0, s1, s2, s3⟩
        go_simp
        with_reducible rfl
      rotate_left
      · simp only [Act.put, List.setIfInBounds_toArray, List.set_cons_zero, List.set_cons_succ, i64_w, i32_w]
        rfl
      refine pure_ (i := 8) (N := some 15) (v := ?_) (a' := ?_) #[true, true, true, true, true, true, true, true, true, true, false, false, false, false, false, false] rfl rfl (any_of HT_.out (by kernel_rfl)) (fun _ _ _ h => h) (Or.inl ⟨by rfl, ?_⟩) ?_ ?_
      rotate_left
      · intro w'
        go_simp
        with_reducible rfl
      rotate_left
      · simp only [Act.put, List.setIfInBounds_toArray, List.set_cons_zero, List.set_cons_succ, i64_w, i32_w]
        rfl
      refine take_ (i := 10) (N := some 17) (v := ?_) (a' := ?_) #[true, true, true, true, true, true, true, true, true, true, true, false, false, false, false, false] rfl rfl (take_ofW HT_.out HW_.out (by kernel_rfl)) (fun _ _ _ h => h) (Or.inl ⟨by rfl, ?_⟩) hHeld ?_ ?_
      rotate_left
      · rintro w' ⟨s0, s1, s2, s3⟩
        go_simp
        with_reducible rfl
      rotate_left
      · simp only [Act.put, List.setIfInBounds_toArray, List.set_cons_zero, List.set_cons_succ, i64_w, i32_w]
        rfl
      refine pure_ (i := 11) (N := some 18) (v := ?_) (a' := ?_) #[true, true, true, true, true, true, true, true, true, true, true, true, false, false, false, false] rfl rfl (any_of HT_.out (by kernel_rfl)) (fun _ _ _ h => h) (Or.inl ⟨by rfl, ?_⟩) ?_ ?_
      rotate_left
      · intro w'
        go_simp
        with_reducible rfl
      rotate_left
      · simp only [Act.put, List.setIfInBounds_toArray, List.set_cons_zero, List.set_cons_succ, i64_w, i32_w]
        rfl
      refine join_ (σ := Nat × Nat) 2 #[true, true, true, true, true, true, true, true, true, true, true, true, true, true, false, false] (fun s_ => [(5, .pointer (some ⟨s_.1, 0, none⟩)), (6, .pointer (some ⟨s_.2, 0, none⟩))]) (fun s_ w' => (w'.cell? ⟨gb231, 0, none⟩ = some (.int .u64 a0_0) ∧ w'.cell? ⟨gb231, 1, none⟩ = some (.int .u64 a0_1) ∧ w'.cell? ⟨gb232, 0, none⟩ = some (.int .u64 a1_0) ∧ w'.cell? ⟨gb232, 1, none⟩ = some (.int .u64 a1_1)) ∧ (w'.heap[gb231]? = some (.cells #[.int .u64 a0_0, .int .u64 a0_1] 26 (0, 0))) ∧ (w'.heap[gb232]? = some (.cells #[.int .u64 a1_0, .int .u64 a1_1] 26 (0, 0))) ∧ (w'.heap[s_.1]? = some (.cells #[.int .u64 0, .int .u64 0] 91 (0, 0))) ∧ (w'.heap[s_.2]? = some (.cells #[.int .u64 0, .int .u64 0] 91 (0, 0))) ∧ (w.heap.size ≤ s_.1) ∧ (w.heap.size ≤ s_.1) ∧ (gb231 ≠ s_.1) ∧ (s_.1 ≠ gb231) ∧ (gb232 ≠ s_.1) ∧ (s_.1 ≠ gb232) ∧ (s_.2 ≠ s_.1) ∧ (s_.1 ≠ s_.2) ∧ (w.heap.size ≤ s_.2) ∧ (w.heap.size ≤ s_.2) ∧ (gb231 ≠ s_.2) ∧ (s_.2 ≠ gb231) ∧ (gb232 ≠ s_.2) ∧ (s_.2 ≠ gb232) ∧ (Below w.heap.size w w')) ?_ ?_
      rotate_left
      · intro hCont
        refine two_ (i := 12) (j := 13) (Ni := some 5) (Nj := some 6) #[true, true, true, true, true, true, true, true, true, true, true, true, true, false, false, false] #[true, true, true, true, true, true, true, true, true, true, true, true, false, true, false, false] rfl rfl rfl rfl (two_of HT_.out (by kernel_rfl)) (by decide) (by decide) (fun K hK => ?_) (fun K hK => ?_)
        · skip
          refine box_step ?hg (N := 5) ?hd (cs := #[.int .u64 0, .int .u64 0]) (t := 91) ?hr ?_; (case hd => rfl); (case hg => rfl); (case hr => first | (go_simp; done) | (go_simp; rfl))
          intro gb233 hg w28 hbox hb
          have n0_ := blkB BK231 hb
          have n1_ := blkB BK232 hb
          have n2_ := Aside0.mk (below_step (bL HB) hb)
          have n3_ := Aside0.mk (hbox)
          have n4_ := Aside0.mk ((by rw [hg]; exact (below_size (bL HB)) : w.heap.size ≤ gb233))
          have n5_ := Aside0.mk ((by rw [hg]; exact (below_size (bL HB)) : w.heap.size ≤ gb233))
          have n6_ := blkL BK231 hg
          have n7_ := blkG BK231 hg
          have n8_ := blkL BK232 hg
          have n9_ := blkG BK232 hg
          clear BK231
          clear BK232
          clear HB
          have BK231 := n0_
          have BK232 := n1_
          have HB := n2_
          have BK233 := n3_
          have GW233 := n4_
          have GE233 := n5_
          have NB231_233 := n6_
          have NB233_231 := n7_
          have NB232_233 := n8_
          have NB233_232 := n9_
          clear n0_ n1_ n2_ n3_ n4_ n5_ n6_ n7_ n8_ n9_
          clear hb hbox hg
          refine hK.out _ _ ⟨(blk_cell BK231.out 0).trans rfl, (blk_cell BK231.out 1).trans rfl, (blk_cell BK232.out 0).trans rfl, (blk_cell BK232.out 1).trans rfl⟩ (fun hHeld => ?_)
          clear hK K
          refine norm_ (a' := ?_) ?_ ?_
          rotate_left
          · show Act.put _ (some 5) _ = _
            simp only [Act.put, List.setIfInBounds_toArray, List.set_cons_zero, List.set_cons_succ, i64_w, i32_w]
            rfl
          refine one_ (i := 13) (N := some 6) #[true, true, true, true, true, true, true, true, true, true, true, true, true, true, false, false] rfl rfl (one_of HT_.out (by kernel_rfl)) (by decide) (fun K hK => ?_)
          refine box_step ?hg (N := 6) ?hd (cs := #[.int .u64 0, .int .u64 0]) (t := 91) ?hr ?_; (case hd => rfl); (case hg => rfl); (case hr => first | (go_simp; done) | (go_simp; rfl))
          intro gb234 hg w29 hbox hb
          have n0_ := blkB BK231 hb
          have n1_ := blkB BK232 hb
          have n2_ := blkB BK233 hb
          have n3_ := Aside0.mk (below_step (bL HB) hb)
          have n4_ := Aside0.mk (hbox)
          have n5_ := Aside0.mk ((by rw [hg]; exact (below_size (bL HB)) : w.heap.size ≤ gb234))
          have n6_ := Aside0.mk ((by rw [hg]; exact (below_size (bL HB)) : w.heap.size ≤ gb234))
          have n7_ := blkL BK231 hg
          have n8_ := blkG BK231 hg
          have n9_ := blkL BK232 hg
          have n10_ := blkG BK232 hg
          have n11_ := blkL BK233 hg
          have n12_ := blkG BK233 hg
          clear BK231
          clear BK232
          clear BK233
          clear HB
          have BK231 := n0_
          have BK232 := n1_
          have BK233 := n2_
          have HB := n3_
          have BK234 := n4_
          have GW234 := n5_
          have GE234 := n6_
          have NB231_234 := n7_
          have NB234_231 := n8_
          have NB232_234 := n9_
          have NB234_232 := n10_
          have NB233_234 := n11_
          have NB234_233 := n12_
          clear n0_ n1_ n2_ n3_ n4_ n5_ n6_ n7_ n8_ n9_ n10_ n11_ n12_
          clear hb hbox hg
          refine hK.out _ _ ⟨(blk_cell BK231.out 0).trans rfl, (blk_cell BK231.out 1).trans rfl, (blk_cell BK232.out 0).trans rfl, (blk_cell BK232.out 1).trans rfl⟩ (fun hHeld => ?_)
          clear hK K
          refine norm_ (a' := ?_) ?_ ?_
          rotate_left
          · show Act.put _ (some 6) _ = _
            simp only [Act.put, List.setIfInBounds_toArray, List.set_cons_zero, List.set_cons_succ, i64_w, i32_w]
            rfl
          exact norm_ (by simp only [putAll, Act.put, List.setIfInBounds_toArray, List.set_cons_zero, List.set_cons_succ]) (hCont (gb233, gb234) _ ⟨hHeld, (bN BK231), (bN BK232), (bN BK233), (bN BK234), GW233.out, GE233.out, NB231_233.out, NB233_231.out, NB232_233.out, NB233_232.out, NB234_233.out, NB233_234.out, GW234.out, GE234.out, NB231_234.out, NB234_231.out, NB232_234.out, NB234_232.out, (bL HB)⟩)
        · skip
          refine box_step ?hg (N := 6) ?hd (cs := #[.int .u64 0, .int .u64 0]) (t := 91) ?hr ?_; (case hd => rfl); (case hg => rfl); (case hr => first | (go_simp; done) | (go_simp; rfl))
          intro gb234 hg w28 hbox hb
          have n0_ := blkB BK231 hb
          have n1_ := blkB BK232 hb
          have n2_ := Aside0.mk (below_step (bL HB) hb)
          have n3_ := Aside0.mk (hbox)
          have n4_ := Aside0.mk ((by rw [hg]; exact (below_size (bL HB)) : w.heap.size ≤ gb234))
          have n5_ := Aside0.mk ((by rw [hg]; exact (below_size (bL HB)) : w.heap.size ≤ gb234))
          have n6_ := blkL BK231 hg
          have n7_ := blkG BK231 hg
          have n8_ := blkL BK232 hg
          have n9_ := blkG BK232 hg
          clear BK231
          clear BK232
          clear HB
          have BK231 := n0_
          have BK232 := n1_
          have HB := n2_
          have BK234 := n3_
          have GW234 := n4_
          have GE234 := n5_
          have NB231_234 := n6_
          have NB234_231 := n7_
          have NB232_234 := n8_
          have NB234_232 := n9_
          clear n0_ n1_ n2_ n3_ n4_ n5_ n6_ n7_ n8_ n9_
          clear hb hbox hg
          refine hK.out _ _ ⟨(blk_cell BK231.out 0).trans rfl, (blk_cell BK231.out 1).trans rfl, (blk_cell BK232.out 0).trans rfl, (blk_cell BK232.out 1).trans rfl⟩ (fun hHeld => ?_)
          clear hK K
          refine norm_ (a' := ?_) ?_ ?_
          rotate_left
          · show Act.put _ (some 6) _ = _
            simp only [Act.put, List.setIfInBounds_toArray, List.set_cons_zero, List.set_cons_succ, i64_w, i32_w]
            rfl
          refine one_ (i := 12) (N := some 5) #[true, true, true, true, true, true, true, true, true, true, true, true, true, true, false, false] rfl rfl (one_of HT_.out (by kernel_rfl)) (by decide) (fun K hK => ?_)
          refine box_step ?hg (N := 5) ?hd (cs := #[.int .u64 0, .int .u64 0]) (t := 91) ?hr ?_; (case hd => rfl); (case hg => rfl); (case hr => first | (go_simp; done) | (go_simp; rfl))
          intro gb233 hg w29 hbox hb
          have n0_ := blkB BK231 hb
          have n1_ := blkB BK232 hb
          have n2_ := blkB BK234 hb
          have n3_ := Aside0.mk (below_step (bL HB) hb)
          have n4_ := Aside0.mk (hbox)
          have n5_ := Aside0.mk ((by rw [hg]; exact (below_size (bL HB)) : w.heap.size ≤ gb233))
          have n6_ := Aside0.mk ((by rw [hg]; exact (below_size (bL HB)) : w.heap.size ≤ gb233))
          have n7_ := blkL BK231 hg
          have n8_ := blkG BK231 hg
          have n9_ := blkL BK232 hg
          have n10_ := blkG BK232 hg
          have n11_ := blkL BK234 hg
          have n12_ := blkG BK234 hg
          clear BK231
          clear BK232
          clear BK234
          clear HB
          have BK231 := n0_
          have BK232 := n1_
          have BK234 := n2_
          have HB := n3_
          have BK233 := n4_
          have GW233 := n5_
          have GE233 := n6_
          have NB231_233 := n7_
          have NB233_231 := n8_
          have NB232_233 := n9_
          have NB233_232 := n10_
          have NB234_233 := n11_
          have NB233_234 := n12_
          clear n0_ n1_ n2_ n3_ n4_ n5_ n6_ n7_ n8_ n9_ n10_ n11_ n12_
          clear hb hbox hg
          refine hK.out _ _ ⟨(blk_cell BK231.out 0).trans rfl, (blk_cell BK231.out 1).trans rfl, (blk_cell BK232.out 0).trans rfl, (blk_cell BK232.out 1).trans rfl⟩ (fun hHeld => ?_)
          clear hK K
          refine norm_ (a' := ?_) ?_ ?_
          rotate_left
          · show Act.put _ (some 5) _ = _
            simp only [Act.put, List.setIfInBounds_toArray, List.set_cons_zero, List.set_cons_succ, i64_w, i32_w]
            rfl
          exact norm_ (by simp only [putAll, Act.put, List.setIfInBounds_toArray, List.set_cons_zero, List.set_cons_succ]) (hCont (gb233, gb234) _ ⟨hHeld, (bN BK231), (bN BK232), (bN BK233), (bN BK234), GW233.out, GE233.out, NB231_233.out, NB233_231.out, NB232_233.out, NB233_232.out, NB234_233.out, NB233_234.out, GW234.out, GE234.out, NB231_234.out, NB234_231.out, NB232_234.out, NB234_232.out, (bL HB)⟩)
      rintro ⟨gb233, gb234⟩ w30 ⟨hS_, h0_, h1_, h2_, h3_, h4_, h5_, h6_, h7_, h8_, h9_, h10_, h11_, h12_, h13_, h14_, h15_, h16_, h17_, h18_⟩
      have n0_ : Aside0 (w30.heap[gb231]? = some (.cells #[.int .u64 a0_0, .int .u64 a0_1] 26 (0, 0))) := ⟨h0_⟩
      have n1_ : Aside0 (w30.heap[gb232]? = some (.cells #[.int .u64 a1_0, .int .u64 a1_1] 26 (0, 0))) := ⟨h1_⟩
      have n2_ : Aside0 (w30.heap[gb233]? = some (.cells #[.int .u64 0, .int .u64 0] 91 (0, 0))) := ⟨h2_⟩
      have n3_ : Aside0 (w30.heap[gb234]? = some (.cells #[.int .u64 0, .int .u64 0] 91 (0, 0))) := ⟨h3_⟩
      have n4_ : Aside0 (w.heap.size ≤ gb233) := ⟨h4_⟩
      have n5_ : Aside0 (w.heap.size ≤ gb233) := ⟨h5_⟩
      have n6_ : Aside0 (gb231 ≠ gb233) := ⟨h6_⟩
      have n7_ : Aside0 (gb233 ≠ gb231) := ⟨h7_⟩
      have n8_ : Aside0 (gb232 ≠ gb233) := ⟨h8_⟩
      have n9_ : Aside0 (gb233 ≠ gb232) := ⟨h9_⟩
      have n10_ : Aside0 (gb234 ≠ gb233) := ⟨h10_⟩
      have n11_ : Aside0 (gb233 ≠ gb234) := ⟨h11_⟩
      have n12_ : Aside0 (w.heap.size ≤ gb234) := ⟨h12_⟩
      have n13_ : Aside0 (w.heap.size ≤ gb234) := ⟨h13_⟩
      have n14_ : Aside0 (gb231 ≠ gb234) := ⟨h14_⟩
      have n15_ : Aside0 (gb234 ≠ gb231) := ⟨h15_⟩
      have n16_ : Aside0 (gb232 ≠ gb234) := ⟨h16_⟩
      have n17_ : Aside0 (gb234 ≠ gb232) := ⟨h17_⟩
      have n18_ : Aside0 (Below w.heap.size w w30) := ⟨h18_⟩
      clear BK231
      clear BK232
      clear HB
      clear h0_ h1_ h2_ h3_ h4_ h5_ h6_ h7_ h8_ h9_ h10_ h11_ h12_ h13_ h14_ h15_ h16_ h17_ h18_
      have BK231 := n0_
      have BK232 := n1_
      have BK233 := n2_
      have BK234 := n3_
      have GW233 := n4_
      have GE233 := n5_
      have NB231_233 := n6_
      have NB233_231 := n7_
      have NB232_233 := n8_
      have NB233_232 := n9_
      have NB234_233 := n10_
      have NB233_234 := n11_
      have GW234 := n12_
      have GE234 := n13_
      have NB231_234 := n14_
      have NB234_231 := n15_
      have NB232_234 := n16_
      have NB234_232 := n17_
      have HB := n18_
      clear n0_ n1_ n2_ n3_ n4_ n5_ n6_ n7_ n8_ n9_ n10_ n11_ n12_ n13_ n14_ n15_ n16_ n17_ n18_
      have hHeld : w30.cell? ⟨gb231, 0, none⟩ = some (.int .u64 a0_0) ∧ w30.cell? ⟨gb231, 1, none⟩ = some (.int .u64 a0_1) ∧ w30.cell? ⟨gb232, 0, none⟩ = some (.int .u64 a1_0) ∧ w30.cell? ⟨gb232, 1, none⟩ = some (.int .u64 a1_1) := hS_
      refine norm_ (a' := ?_) ?_ ?_
      rotate_left
      · simp only [putAll, Act.put, List.setIfInBounds_toArray, List.set_cons_zero, List.set_cons_succ]
        rfl
      refine one_ (i := 14) (N := none) #[true, true, true, true, true, true, true, true, true, true, true, true, true, true, true, false] rfl rfl (one_of HT_.out (by kernel_rfl)) (by decide) (fun K hK => ?_)
      have hs31 : w30.cell? ⟨gb233, 0, none⟩ = some (.int .u64 0) := (blk_cell BK233.out 0).trans rfl
      have hfs31 := blk_frozen BK233.out 0
      have hns31_0 := NB231_233.out
      have hns31_1 := NB232_233.out
      have hns31_3 := NB234_233.out
      have hms31_0 := NB233_231.out
      have hms31_1 := NB233_232.out
      have hms31_3 := NB233_234.out
      have hs32 : w30.cell? ⟨gb233, 1, none⟩ = some (.int .u64 0) := (blk_cell BK233.out 1).trans rfl
      have hfs32 := blk_frozen BK233.out 1
      have hns32_0 := NB231_233.out
      have hns32_1 := NB232_233.out
      have hns32_3 := NB234_233.out
      have hms32_0 := NB233_231.out
      have hms32_1 := NB233_232.out
      have hms32_3 := NB233_234.out
      refine skip_ (w1 := ?_) (by rfl) rfl ?_ ?_
      rotate_left
      · go_simp
        rfl
      refine hK.out _ _ ⟨((cell_far (p := ⟨gb233, _, none⟩) NB231_233.out _).trans (((cell_far (p := ⟨gb233, _, none⟩) NB231_233.out _).trans (hHeld.1)))), ((cell_far (p := ⟨gb233, _, none⟩) NB231_233.out _).trans (((cell_far (p := ⟨gb233, _, none⟩) NB231_233.out _).trans (hHeld.2.1)))), ((cell_far (p := ⟨gb233, _, none⟩) NB232_233.out _).trans (((cell_far (p := ⟨gb233, _, none⟩) NB232_233.out _).trans (hHeld.2.2.1)))), ((cell_far (p := ⟨gb233, _, none⟩) NB232_233.out _).trans (((cell_far (p := ⟨gb233, _, none⟩) NB232_233.out _).trans (hHeld.2.2.2))))⟩ (fun hHeld => ?_)
      clear hK K
      refine one_ (i := 15) (N := none) #[true, true, true, true, true, true, true, true, true, true, true, true, true, true, true, true] rfl rfl (one_of HT_.out (by kernel_rfl)) (by decide) (fun K hK => ?_)
      have hs33 : w30.cell? ⟨gb234, 0, none⟩ = some (.int .u64 0) := (blk_cell BK234.out 0).trans rfl
      have hfs33 := blk_frozen BK234.out 0
      have hns33_0 := NB231_234.out
      have hns33_1 := NB232_234.out
      have hns33_2 := NB233_234.out
      have hms33_0 := NB234_231.out
      have hms33_1 := NB234_232.out
      have hms33_2 := NB234_233.out
      have hs34 : w30.cell? ⟨gb234, 1, none⟩ = some (.int .u64 0) := (blk_cell BK234.out 1).trans rfl
      have hfs34 := blk_frozen BK234.out 1
      have hns34_0 := NB231_234.out
      have hns34_1 := NB232_234.out
      have hns34_2 := NB233_234.out
      have hms34_0 := NB234_231.out
      have hms34_1 := NB234_232.out
      have hms34_2 := NB234_233.out
      refine skip_ (w1 := ?_) (by rfl) rfl ?_ ?_
      rotate_left
      · go_simp
        rfl
      refine hK.out _ _ ⟨((cell_far (p := ⟨gb234, _, none⟩) NB231_234.out _).trans (((cell_far (p := ⟨gb234, _, none⟩) NB231_234.out _).trans (hHeld.1)))), ((cell_far (p := ⟨gb234, _, none⟩) NB231_234.out _).trans (((cell_far (p := ⟨gb234, _, none⟩) NB231_234.out _).trans (hHeld.2.1)))), ((cell_far (p := ⟨gb234, _, none⟩) NB232_234.out _).trans (((cell_far (p := ⟨gb234, _, none⟩) NB232_234.out _).trans (hHeld.2.2.1)))), ((cell_far (p := ⟨gb234, _, none⟩) NB232_234.out _).trans (((cell_far (p := ⟨gb234, _, none⟩) NB232_234.out _).trans (hHeld.2.2.2))))⟩ (fun hHeld => ?_)
      clear hK K
      refine done_ (done_of HT_.out (by kernel_rfl)) ?_
      have hnb35 := NB233_231.out
      have hnc35 := NB231_233.out
      have hnb36 := NB233_232.out
      have hnc36 := NB232_233.out
      have hnb37 := NB233_234.out
      have hnc37 := NB234_233.out
      have hcz38_0 : w30.cell? ⟨gb233, 0, none⟩ = some (.int .u64 0) := (blk_cell BK233.out 0).trans rfl
      have hcz38_1 : w30.cell? ⟨gb233, 1, none⟩ = some (.int .u64 0) := (blk_cell BK233.out 1).trans rfl
      have hfz38_0 := blk_frozen BK233.out 0
      have hfz38_1 := blk_frozen BK233.out 1
      have hnb39 := NB234_231.out
      have hnc39 := NB231_234.out
      have hnb40 := NB234_232.out
      have hnc40 := NB232_234.out
      have hcz41_0 : w30.cell? ⟨gb234, 0, none⟩ = some (.int .u64 0) := (blk_cell BK234.out 0).trans rfl
      have hcz41_1 : w30.cell? ⟨gb234, 1, none⟩ = some (.int .u64 0) := (blk_cell BK234.out 1).trans rfl
      have hfz41_0 := blk_frozen BK234.out 0
      have hfz41_1 := blk_frozen BK234.out 1
      try go_wp2_with (first | ((with_reducible refine gate_callee (f := 62) rfl ?_); refine goesL_ (some 22) rfl rfl Try.func62 (by kernel_rfl) rfl #[.agg #[.int .u64 (Go.bits .xor .u64 a0_0 9223372036854775808), .int .u64 a0_1], .agg #[.int .u64 (Go.bits .xor .u64 a1_0 9223372036854775808), .int .u64 a1_1]] rfl (by (try simp only [List.map_toArray, List.map_cons, List.map_nil]); first | done | rfl | (simp only [List.length_drop, List.length_take]; rfl) | (go_simp; simp only [u8_w, w64_u8]; done) | (go_simp; simp only [u8_w, w64_u8]; rfl)) ?_; (with_reducible refine (wide_less.calls (Go.bits .xor .u64 a0_0 9223372036854775808) a0_1 (Go.bits .xor .u64 a1_0 9223372036854775808) a1_1 false _ A3.out).mono ?_); rintro e w42 ⟨rfl, hb⟩; refine ⟨_, rfl, ?_⟩; have n0_ := Aside0.mk (blk_below (g := gb231) (o := .cells #[.int .u64 a0_0, .int .u64 a0_1] 26 (0, 0)) (bF BK231) hb); have n1_ := Aside0.mk (blk_below (g := gb232) (o := .cells #[.int .u64 a1_0, .int .u64 a1_1] 26 (0, 0)) (bF BK232) hb); have n2_ := Aside0.mk (blk_below (g := gb233) (o := .cells #[.int .u64 (Go.bits .xor .u64 a0_0 9223372036854775808), .int .u64 a0_1] 91 (0, 0)) (by (with_reducible repeat (first | refine blk_drewN ?_ _ | refine blk_drew ?_ | refine blk_alloc ?_ _)); refine blk_far ?_ NB233_234.out _; (with_reducible repeat (first | refine blk_drewN ?_ _ | refine blk_drew ?_ | refine blk_alloc ?_ _)); refine blk_far ?_ NB233_234.out _; (with_reducible repeat (first | refine blk_drewN ?_ _ | refine blk_drew ?_ | refine blk_alloc ?_ _)); refine blk_put (cs := #[.int .u64 (Go.bits .xor .u64 a0_0 9223372036854775808), .int .u64 0]) ?_ 1 _ rfl; (with_reducible repeat (first | refine blk_drewN ?_ _ | refine blk_drew ?_ | refine blk_alloc ?_ _)); refine blk_put (cs := #[.int .u64 0, .int .u64 0]) ?_ 0 _ rfl; (with_reducible repeat (first | refine blk_drewN ?_ _ | refine blk_drew ?_ | refine blk_alloc ?_ _)); exact BK233.out) hb); have n3_ := Aside0.mk (blk_below (g := gb234) (o := .cells #[.int .u64 (Go.bits .xor .u64 a1_0 9223372036854775808), .int .u64 a1_1] 91 (0, 0)) (by (with_reducible repeat (first | refine blk_drewN ?_ _ | refine blk_drew ?_ | refine blk_alloc ?_ _)); refine blk_put (cs := #[.int .u64 (Go.bits .xor .u64 a1_0 9223372036854775808), .int .u64 0]) ?_ 1 _ rfl; (with_reducible repeat (first | refine blk_drewN ?_ _ | refine blk_drew ?_ | refine blk_alloc ?_ _)); refine blk_put (cs := #[.int .u64 0, .int .u64 0]) ?_ 0 _ rfl; (with_reducible repeat (first | refine blk_drewN ?_ _ | refine blk_drew ?_ | refine blk_alloc ?_ _)); refine blk_far ?_ NB234_233.out _; (with_reducible repeat (first | refine blk_drewN ?_ _ | refine blk_drew ?_ | refine blk_alloc ?_ _)); refine blk_far ?_ NB234_233.out _; (with_reducible repeat (first | refine blk_drewN ?_ _ | refine blk_drew ?_ | refine blk_alloc ?_ _)); exact BK234.out) hb); have n4_ := Aside0.mk (below_step (bL HB) hb); clear BK231 BK232 BK233 BK234 HB; have BK231 := n0_; have BK232 := n1_; have BK233 := n2_; have BK234 := n3_; have HB := n4_; clear n0_ n1_ n2_ n3_ n4_; (try clear hb); (try clear hb2); (try clear hk); (try clear hi); have hcz43_0 : w42.cell? ⟨gb234, 0, none⟩ = some (.int .u64 (Go.bits .xor .u64 a1_0 9223372036854775808)) := (blk_cell BK234.out 0).trans rfl; have hcz43_1 : w42.cell? ⟨gb234, 1, none⟩ = some (.int .u64 a1_1) := (blk_cell BK234.out 1).trans rfl; have hfz43_0 := blk_frozen BK234.out 0; have hfz43_1 := blk_frozen BK234.out 1; have hcz44_0 : w42.cell? ⟨gb233, 0, none⟩ = some (.int .u64 (Go.bits .xor .u64 a0_0 9223372036854775808)) := (blk_cell BK233.out 0).trans rfl; have hcz44_1 : w42.cell? ⟨gb233, 1, none⟩ = some (.int .u64 a0_1) := (blk_cell BK233.out 1).trans rfl; have hfz44_0 := blk_frozen BK233.out 0; have hfz44_1 := blk_frozen BK233.out 1) | ((with_reducible refine gate_callee (f := 62) rfl ?_); refine goesL_ (some 26) rfl rfl Try.func62 (by kernel_rfl) rfl #[.agg #[.int .u64 (Go.bits .xor .u64 a1_0 9223372036854775808), .int .u64 a1_1], .agg #[.int .u64 (Go.bits .xor .u64 a0_0 9223372036854775808), .int .u64 a0_1]] rfl (by (try simp only [List.map_toArray, List.map_cons, List.map_nil]); first | done | rfl | (simp only [List.length_drop, List.length_take]; rfl) | (go_simp; simp only [u8_w, w64_u8]; done) | (go_simp; simp only [u8_w, w64_u8]; rfl)) ?_; (with_reducible refine (wide_less.calls (Go.bits .xor .u64 a1_0 9223372036854775808) a1_1 (Go.bits .xor .u64 a0_0 9223372036854775808) a0_1 true _ A23.out).mono ?_); rintro e w45 ⟨rfl, hb⟩; refine ⟨_, rfl, ?_⟩; have n0_ := blkB BK231 hb; have n1_ := blkB BK232 hb; have n2_ := blkB BK233 hb; have n3_ := blkB BK234 hb; have n4_ := Aside0.mk (below_step (bL HB) hb); clear BK231 BK232 BK233 BK234 HB; have BK231 := n0_; have BK232 := n1_; have BK233 := n2_; have BK234 := n3_; have HB := n4_; clear n0_ n1_ n2_ n3_ n4_; (try clear hb); (try clear hb2); (try clear hk); (try clear hi)))
      go_ret
      exact ⟨by first | rfl | (simp [errW_none, errW_some] <;> rfl) | (simp [*, errW_none, errW_some] <;> rfl), by repeat (first | (with_reducible first | exact HB.out | apply below_alloc | apply pw_below_drewN | apply below_drew1 | refine below_set ?_ GE231.out | refine below_set ?_ GE232.out | refine below_set ?_ GE233.out | refine below_set ?_ GE234.out) | exact HB.out)⟩
    · replace c24 := Bool.eq_false_iff.mpr c24
      subst c24
      have H1 : (some 0) = some r := by rw [if_neg (show ¬ (false = true) by decide)] at H; exact H
      clear H
      have H := H1
      clear H1
      obtain rfl := Option.some.inj H
      go_enter Try.func45, Try.ntmps45
      try go_wp2_with (first | ((with_reducible refine gate_dst (N := 2) rfl ?_); refine box_event ?hg (N := 2) ?hd (cs := #[.int .u64 a0_0, .int .u64 a0_1]) (t := 26) ?hr ?_; (case hd => rfl); (case hg => rfl); (case hr => first | (go_simp; done) | (go_simp; rfl)); intro gb231 hg w46 hbox hb; have n0_ := Aside0.mk (below_step (bL HB) hb); have n1_ := Aside0.mk (hbox); have n2_ := Aside0.mk ((by rw [hg]; exact (below_size (bL HB)) : w.heap.size ≤ gb231)); have n3_ := Aside0.mk ((by rw [hg]; exact (below_size (bL HB)) : w.heap.size ≤ gb231)); clear HB; have HB := n0_; have BK231 := n1_; have GW231 := n2_; have GE231 := n3_; clear n0_ n1_ n2_ n3_; clear hb hbox hg) | ((with_reducible refine gate_dst (N := 3) rfl ?_); refine box_event ?hg (N := 3) ?hd (cs := #[.int .u64 a1_0, .int .u64 a1_1]) (t := 26) ?hr ?_; (case hd => rfl); (case hg => rfl); (case hr => first | (go_simp; done) | (go_simp; rfl)); intro gb232 hg w47 hbox hb; have n0_ := blkB BK231 hb; have n1_ := Aside0.mk (below_step (bL HB) hb); have n2_ := Aside0.mk (hbox); have n3_ := Aside0.mk ((by rw [hg]; exact (below_size (bL HB)) : w.heap.size ≤ gb232)); have n4_ := Aside0.mk ((by rw [hg]; exact (below_size (bL HB)) : w.heap.size ≤ gb232)); have n5_ := blkL BK231 hg; have n6_ := blkG BK231 hg; clear BK231 HB; have BK231 := n0_; have HB := n1_; have BK232 := n2_; have GW232 := n3_; have GE232 := n4_; have NB231_232 := n5_; have NB232_231 := n6_; clear n0_ n1_ n2_ n3_ n4_ n5_ n6_; clear hb hbox hg))
      have n0_ := Aside0.mk (blk_drew BK231.out)
      have n1_ := Aside0.mk (blk_drew BK232.out)
      have n2_ := Aside0.mk (below_drew1 HB.out)
      clear BK231
      clear BK232
      clear HB
      have BK231 := n0_
      have BK232 := n1_
      have HB := n2_
      clear n0_ n1_ n2_
      refine start_ (n := 16) (S := fun w' => w'.cell? ⟨gb231, 0, none⟩ = some (.int .u64 a0_0) ∧ w'.cell? ⟨gb231, 1, none⟩ = some (.int .u64 a0_1) ∧ w'.cell? ⟨gb232, 0, none⟩ = some (.int .u64 a1_0) ∧ w'.cell? ⟨gb232, 1, none⟩ = some (.int .u64 a1_1)) (ds := []) #[false, false, false, false, false, false, false, false, false, false, false, false, false, false, false, false] (by kernel_rfl) rfl rfl ⟨(blk_cell BK231.out 0).trans rfl, (blk_cell BK231.out 1).trans rfl, (blk_cell BK232.out 0).trans rfl, (blk_cell BK232.out 1).trans rfl⟩ (fun hHeld => ?_); refine with_tabW wide_Cmp.tab1 wide_Cmp.bits1 (fun HT_ HW_ => ?_)
      generalize w47.drew = w48 at BK231 BK232 HB hHeld ⊢
      refine pure_ (i := 0) (N := some 7) (v := ?_) (a' := ?_) #[true, false, false, false, false, false, false, false, false, false, false, false, false, false, false, false] rfl rfl (any_of HT_.out (by kernel_rfl)) (fun _ _ _ h => h) (Or.inl ⟨by rfl, ?_⟩) ?_ ?_
      rotate_left
      · intro w'
        go_simp
        with_reducible rfl
      rotate_left
      · simp only [Act.put, List.setIfInBounds_toArray, List.set_cons_zero, List.set_cons_succ, i64_w, i32_w]
        rfl
      refine pure_ (i := 3) (N := some 10) (v := ?_) (a' := ?_) #[true, false, false, true, false, false, false, false, false, false, false, false, false, false, false, false] rfl rfl (any_of HT_.out (by kernel_rfl)) (fun _ _ _ h => h) (Or.inl ⟨by rfl, ?_⟩) ?_ ?_
      rotate_left
      · intro w'
        go_simp
        with_reducible rfl
      rotate_left
      · simp only [Act.put, List.setIfInBounds_toArray, List.set_cons_zero, List.set_cons_succ, i64_w, i32_w]
        rfl
      refine pure_ (i := 6) (N := some 13) (v := ?_) (a' := ?_) #[true, false, false, true, false, false, true, false, false, false, false, false, false, false, false, false] rfl rfl (any_of HT_.out (by kernel_rfl)) (fun _ _ _ h => h) (Or.inl ⟨by rfl, ?_⟩) ?_ ?_
      rotate_left
      · intro w'
        go_simp
        with_reducible rfl
      rotate_left
      · simp only [Act.put, List.setIfInBounds_toArray, List.set_cons_zero, List.set_cons_succ, i64_w, i32_w]
        rfl
      refine pure_ (i := 9) (N := some 16) (v := ?_) (a' := ?_) #[true, false, false, true, false, false, true, false, false, true, false, false, false, false, false, false] rfl rfl (any_of HT_.out (by kernel_rfl)) (fun _ _ _ h => h) (Or.inl ⟨by rfl, ?_⟩) ?_ ?_
      rotate_left
      · intro w'
        go_simp
        with_reducible rfl
      rotate_left
      · simp only [Act.put, List.setIfInBounds_toArray, List.set_cons_zero, List.set_cons_succ, i64_w, i32_w]
        rfl
      refine take_ (i := 1) (N := some 8) (v := ?_) (a' := ?_) #[true, true, false, true, false, false, true, false, false, true, false, false, false, false, false, false] rfl rfl (take_ofW HT_.out HW_.out (by kernel_rfl)) (fun _ _ _ h => h) (Or.inl ⟨by rfl, ?_⟩) hHeld ?_ ?_
      rotate_left
      · rintro w' ⟨s0, s1, s2, s3⟩
        go_simp
        with_reducible rfl
      rotate_left
      · simp only [Act.put, List.setIfInBounds_toArray, List.set_cons_zero, List.set_cons_succ, i64_w, i32_w]
        rfl
      refine pure_ (i := 2) (N := some 9) (v := ?_) (a' := ?_) #[true, true, true, true, false, false, true, false, false, true, false, false, false, false, false, false] rfl rfl (any_of HT_.out (by kernel_rfl)) (fun _ _ _ h => h) (Or.inl ⟨by rfl, ?_⟩) ?_ ?_
      rotate_left
      · intro w'
        go_simp
        with_reducible rfl
      rotate_left
      · simp only [Act.put, List.setIfInBounds_toArray, List.set_cons_zero, List.set_cons_succ, i64_w, i32_w]
        rfl
      refine take_ (i := 4) (N := some 11) (v := ?_) (a' := ?_) #[true, true, true, true, true, false, true, false, false, true, false, false, false, false, false, false] rfl rfl (take_ofW HT_.out HW_.out (by kernel_rfl)) (fun _ _ _ h => h) (Or.inl ⟨by rfl, ?_⟩) hHeld ?_ ?_
      rotate_left
      · rintro w' ⟨s0, s1, s2, s3⟩
        go_simp
        with_reducible rfl
      rotate_left
      · simp only [Act.put, List.setIfInBounds_toArray, List.set_cons_zero, List.set_cons_succ, i64_w, i32_w]
        rfl
      refine pure_ (i := 5) (N := some 12) (v := ?_) (a' := ?_) #[true, true, true, true, true, true, true, false, false, true, false, false, false, false, false, false] rfl rfl (any_of HT_.out (by kernel_rfl)) (fun _ _ _ h => h) (Or.inl ⟨by rfl, ?_⟩) ?_ ?_
      rotate_left
      · intro w'
        go_simp
        with_reducible rfl
      rotate_left
      · simp only [Act.put, List.setIfInBounds_toArray, List.set_cons_zero, List.set_cons_succ, i64_w, i32_w]
        rfl
      refine take_ (i := 7) (N := some 14) (v := ?_) (a' := ?_) #[true, true, true, true, true, true, true, true, false, true, false, false, false, false, false, false] rfl rfl (take_ofW HT_.out HW_.out (by kernel_rfl)) (fun _ _ _ h => h) (Or.inl ⟨by rfl, ?_⟩) hHeld ?_ ?_
      rotate_left
      · rintro w' ⟨s0, s1, s2, s3⟩
        go_simp
        with_reducible rfl
      rotate_left
      · simp only [Act.put, List.setIfInBounds_toArray, List.set_cons_zero, List.set_cons_succ, i64_w, i32_w]
        rfl
      refine pure_ (i := 8) (N := some 15) (v := ?_) (a' := ?_) #[true, true, true, true, true, true, true, true, true, true, false, false, false, false, false, false] rfl rfl (any_of HT_.out (by kernel_rfl)) (fun _ _ _ h => h) (Or.inl ⟨by rfl, ?_⟩) ?_ ?_
      rotate_left
      · intro w'
        go_simp
        with_reducible rfl
      rotate_left
      · simp only [Act.put, List.setIfInBounds_toArray, List.set_cons_zero, List.set_cons_succ, i64_w, i32_w]
        rfl
      refine take_ (i := 10) (N := some 17) (v := ?_) (a' := ?_) #[true, true, true, true, true, true, true, true, true, true, true, false, false, false, false, false] rfl rfl (take_ofW HT_.out HW_.out (by kernel_rfl)) (fun _ _ _ h => h) (Or.inl ⟨by rfl, ?_⟩) hHeld ?_ ?_
      rotate_left
      · rintro w' ⟨s0, s1, s2, s3⟩
        go_simp
        with_reducible rfl
      rotate_left
      · simp only [Act.put, List.setIfInBounds_toArray, List.set_cons_zero, List.set_cons_succ, i64_w, i32_w]
        rfl
      refine pure_ (i := 11) (N := some 18) (v := ?_) (a' := ?_) #[true, true, true, true, true, true, true, true, true, true, true, true, false, false, false, false] rfl rfl (any_of HT_.out (by kernel_rfl)) (fun _ _ _ h => h) (Or.inl ⟨by rfl, ?_⟩) ?_ ?_
      rotate_left
      · intro w'
        go_simp
        with_reducible rfl
      rotate_left
      · simp only [Act.put, List.setIfInBounds_toArray, List.set_cons_zero, List.set_cons_succ, i64_w, i32_w]
        rfl
      refine join_ (σ := Nat × Nat) 2 #[true, true, true, true, true, true, true, true, true, true, true, true, true, true, false, false] (fun s_ => [(5, .pointer (some ⟨s_.1, 0, none⟩)), (6, .pointer (some ⟨s_.2, 0, none⟩))]) (fun s_ w' => (w'.cell? ⟨gb231, 0, none⟩ = some (.int .u64 a0_0) ∧ w'.cell? ⟨gb231, 1, none⟩ = some (.int .u64 a0_1) ∧ w'.cell? ⟨gb232, 0, none⟩ = some (.int .u64 a1_0) ∧ w'.cell? ⟨gb232, 1, none⟩ = some (.int .u64 a1_1)) ∧ (w'.heap[gb231]? = some (.cells #[.int .u64 a0_0, .int .u64 a0_1] 26 (0, 0))) ∧ (w'.heap[gb232]? = some (.cells #[.int .u64 a1_0, .int .u64 a1_1] 26 (0, 0))) ∧ (w'.heap[s_.1]? = some (.cells #[.int .u64 0, .int .u64 0] 91 (0, 0))) ∧ (w'.heap[s_.2]? = some (.cells #[.int .u64 0, .int .u64 0] 91 (0, 0))) ∧ (w.heap.size ≤ s_.1) ∧ (w.heap.size ≤ s_.1) ∧ (gb231 ≠ s_.1) ∧ (s_.1 ≠ gb231) ∧ (gb232 ≠ s_.1) ∧ (s_.1 ≠ gb232) ∧ (s_.2 ≠ s_.1) ∧ (s_.1 ≠ s_.2) ∧ (w.heap.size ≤ s_.2) ∧ (w.heap.size ≤ s_.2) ∧ (gb231 ≠ s_.2) ∧ (s_.2 ≠ gb231) ∧ (gb232 ≠ s_.2) ∧ (s_.2 ≠ gb232) ∧ (Below w.heap.size w w')) ?_ ?_
      rotate_left
      · intro hCont
        refine two_ (i := 12) (j := 13) (Ni := some 5) (Nj := some 6) #[true, true, true, true, true, true, true, true, true, true, true, true, true, false, false, false] #[true, true, true, true, true, true, true, true, true, true, true, true, false, true, false, false] rfl rfl rfl rfl (two_of HT_.out (by kernel_rfl)) (by decide) (by decide) (fun K hK => ?_) (fun K hK => ?_)
        · skip
          refine box_step ?hg (N := 5) ?hd (cs := #[.int .u64 0, .int .u64 0]) (t := 91) ?hr ?_; (case hd => rfl); (case hg => rfl); (case hr => first | (go_simp; done) | (go_simp; rfl))
          intro gb233 hg w49 hbox hb
          have n0_ := blkB BK231 hb
          have n1_ := blkB BK232 hb
          have n2_ := Aside0.mk (below_step (bL HB) hb)
          have n3_ := Aside0.mk (hbox)
          have n4_ := Aside0.mk ((by rw [hg]; exact (below_size (bL HB)) : w.heap.size ≤ gb233))
          have n5_ := Aside0.mk ((by rw [hg]; exact (below_size (bL HB)) : w.heap.size ≤ gb233))
          have n6_ := blkL BK231 hg
          have n7_ := blkG BK231 hg
          have n8_ := blkL BK232 hg
          have n9_ := blkG BK232 hg
          clear BK231
          clear BK232
          clear HB
          have BK231 := n0_
          have BK232 := n1_
          have HB := n2_
          have BK233 := n3_
          have GW233 := n4_
          have GE233 := n5_
          have NB231_233 := n6_
          have NB233_231 := n7_
          have NB232_233 := n8_
          have NB233_232 := n9_
          clear n0_ n1_ n2_ n3_ n4_ n5_ n6_ n7_ n8_ n9_
          clear hb hbox hg
          refine hK.out _ _ ⟨(blk_cell BK231.out 0).trans rfl, (blk_cell BK231.out 1).trans rfl, (blk_cell BK232.out 0).trans rfl, (blk_cell BK232.out 1).trans rfl⟩ (fun hHeld => ?_)
          clear hK K
          refine norm_ (a' := ?_) ?_ ?_
          rotate_left
          · show Act.put _ (some 5) _ = _
            simp only [Act.put, List.setIfInBounds_toArray, List.set_cons_zero, List.set_cons_succ, i64_w, i32_w]
            rfl
          refine one_ (i := 13) (N := some 6) #[true, true, true, true, true, true, true, true, true, true, true, true, true, true, false, false] rfl rfl (one_of HT_.out (by kernel_rfl)) (by decide) (fun K hK => ?_)
          refine box_step ?hg (N := 6) ?hd (cs := #[.int .u64 0, .int .u64 0]) (t := 91) ?hr ?_; (case hd => rfl); (case hg => rfl); (case hr => first | (go_simp; done) | (go_simp; rfl))
          intro gb234 hg w50 hbox hb
          have n0_ := blkB BK231 hb
          have n1_ := blkB BK232 hb
          have n2_ := blkB BK233 hb
          have n3_ := Aside0.mk (below_step (bL HB) hb)
          have n4_ := Aside0.mk (hbox)
          have n5_ := Aside0.mk ((by rw [hg]; exact (below_size (bL HB)) : w.heap.size ≤ gb234))
          have n6_ := Aside0.mk ((by rw [hg]; exact (below_size (bL HB)) : w.heap.size ≤ gb234))
          have n7_ := blkL BK231 hg
          have n8_ := blkG BK231 hg
          have n9_ := blkL BK232 hg
          have n10_ := blkG BK232 hg
          have n11_ := blkL BK233 hg
          have n12_ := blkG BK233 hg
          clear BK231
          clear BK232
          clear BK233
          clear HB
          have BK231 := n0_
          have BK232 := n1_
          have BK233 := n2_
          have HB := n3_
          have BK234 := n4_
          have GW234 := n5_
          have GE234 := n6_
          have NB231_234 := n7_
          have NB234_231 := n8_
          have NB232_234 := n9_
          have NB234_232 := n10_
          have NB233_234 := n11_
          have NB234_233 := n12_
          clear n0_ n1_ n2_ n3_ n4_ n5_ n6_ n7_ n8_ n9_ n10_ n11_ n12_
          clear hb hbox hg
          refine hK.out _ _ ⟨(blk_cell BK231.out 0).trans rfl, (blk_cell BK231.out 1).trans rfl, (blk_cell BK232.out 0).trans rfl, (blk_cell BK232.out 1).trans rfl⟩ (fun hHeld => ?_)
          clear hK K
          refine norm_ (a' := ?_) ?_ ?_
          rotate_left
          · show Act.put _ (some 6) _ = _
            simp only [Act.put, List.setIfInBounds_toArray, List.set_cons_zero, List.set_cons_succ, i64_w, i32_w]
            rfl
          exact norm_ (by simp only [putAll, Act.put, List.setIfInBounds_toArray, List.set_cons_zero, List.set_cons_succ]) (hCont (gb233, gb234) _ ⟨hHeld, (bN BK231), (bN BK232), (bN BK233), (bN BK234), GW233.out, GE233.out, NB231_233.out, NB233_231.out, NB232_233.out, NB233_232.out, NB234_233.out, NB233_234.out, GW234.out, GE234.out, NB231_234.out, NB234_231.out, NB232_234.out, NB234_232.out, (bL HB)⟩)
        · skip
          refine box_step ?hg (N := 6) ?hd (cs := #[.int .u64 0, .int .u64 0]) (t := 91) ?hr ?_; (case hd => rfl); (case hg => rfl); (case hr => first | (go_simp; done) | (go_simp; rfl))
          intro gb234 hg w49 hbox hb
          have n0_ := blkB BK231 hb
          have n1_ := blkB BK232 hb
          have n2_ := Aside0.mk (below_step (bL HB) hb)
          have n3_ := Aside0.mk (hbox)
          have n4_ := Aside0.mk ((by rw [hg]; exact (below_size (bL HB)) : w.heap.size ≤ gb234))
          have n5_ := Aside0.mk ((by rw [hg]; exact (below_size (bL HB)) : w.heap.size ≤ gb234))
          have n6_ := blkL BK231 hg
          have n7_ := blkG BK231 hg
          have n8_ := blkL BK232 hg
          have n9_ := blkG BK232 hg
          clear BK231
          clear BK232
          clear HB
          have BK231 := n0_
          have BK232 := n1_
          have HB := n2_
          have BK234 := n3_
          have GW234 := n4_
          have GE234 := n5_
          have NB231_234 := n6_
          have NB234_231 := n7_
          have NB232_234 := n8_
          have NB234_232 := n9_
          clear n0_ n1_ n2_ n3_ n4_ n5_ n6_ n7_ n8_ n9_
          clear hb hbox hg
          refine hK.out _ _ ⟨(blk_cell BK231.out 0).trans rfl, (blk_cell BK231.out 1).trans rfl, (blk_cell BK232.out 0).trans rfl, (blk_cell BK232.out 1).trans rfl⟩ (fun hHeld => ?_)
          clear hK K
          refine norm_ (a' := ?_) ?_ ?_
          rotate_left
          · show Act.put _ (some 6) _ = _
            simp only [Act.put, List.setIfInBounds_toArray, List.set_cons_zero, List.set_cons_succ, i64_w, i32_w]
            rfl
          refine one_ (i := 12) (N := some 5) #[true, true, true, true, true, true, true, true, true, true, true, true, true, true, false, false] rfl rfl (one_of HT_.out (by kernel_rfl)) (by decide) (fun K hK => ?_)
          refine box_step ?hg (N := 5) ?hd (cs := #[.int .u64 0, .int .u64 0]) (t := 91) ?hr ?_; (case hd => rfl); (case hg => rfl); (case hr => first | (go_simp; done) | (go_simp; rfl))
          intro gb233 hg w50 hbox hb
          have n0_ := blkB BK231 hb
          have n1_ := blkB BK232 hb
          have n2_ := blkB BK234 hb
          have n3_ := Aside0.mk (below_step (bL HB) hb)
          have n4_ := Aside0.mk (hbox)
          have n5_ := Aside0.mk ((by rw [hg]; exact (below_size (bL HB)) : w.heap.size ≤ gb233))
          have n6_ := Aside0.mk ((by rw [hg]; exact (below_size (bL HB)) : w.heap.size ≤ gb233))
          have n7_ := blkL BK231 hg
          have n8_ := blkG BK231 hg
          have n9_ := blkL BK232 hg
          have n10_ := blkG BK232 hg
          have n11_ := blkL BK234 hg
          have n12_ := blkG BK234 hg
          clear BK231
          clear BK232
          clear BK234
          clear HB
          have BK231 := n0_
          have BK232 := n1_
          have BK234 := n2_
          have HB := n3_
          have BK233 := n4_
          have GW233 := n5_
          have GE233 := n6_
          have NB231_233 := n7_
          have NB233_231 := n8_
          have NB232_233 := n9_
          have NB233_232 := n10_
          have NB234_233 := n11_
          have NB233_234 := n12_
          clear n0_ n1_ n2_ n3_ n4_ n5_ n6_ n7_ n8_ n9_ n10_ n11_ n12_
          clear hb hbox hg
          refine hK.out _ _ ⟨(blk_cell BK231.out 0).trans rfl, (blk_cell BK231.out 1).trans rfl, (blk_cell BK232.out 0).trans rfl, (blk_cell BK232.out 1).trans rfl⟩ (fun hHeld => ?_)
          clear hK K
          refine norm_ (a' := ?_) ?_ ?_
          rotate_left
          · show Act.put _ (some 5) _ = _
            simp only [Act.put, List.setIfInBounds_toArray, List.set_cons_zero, List.set_cons_succ, i64_w, i32_w]
            rfl
          exact norm_ (by simp only [putAll, Act.put, List.setIfInBounds_toArray, List.set_cons_zero, List.set_cons_succ]) (hCont (gb233, gb234) _ ⟨hHeld, (bN BK231), (bN BK232), (bN BK233), (bN BK234), GW233.out, GE233.out, NB231_233.out, NB233_231.out, NB232_233.out, NB233_232.out, NB234_233.out, NB233_234.out, GW234.out, GE234.out, NB231_234.out, NB234_231.out, NB232_234.out, NB234_232.out, (bL HB)⟩)
      rintro ⟨gb233, gb234⟩ w51 ⟨hS_, h0_, h1_, h2_, h3_, h4_, h5_, h6_, h7_, h8_, h9_, h10_, h11_, h12_, h13_, h14_, h15_, h16_, h17_, h18_⟩
      have n0_ : Aside0 (w51.heap[gb231]? = some (.cells #[.int .u64 a0_0, .int .u64 a0_1] 26 (0, 0))) := ⟨h0_⟩
      have n1_ : Aside0 (w51.heap[gb232]? = some (.cells #[.int .u64 a1_0, .int .u64 a1_1] 26 (0, 0))) := ⟨h1_⟩
      have n2_ : Aside0 (w51.heap[gb233]? = some (.cells #[.int .u64 0, .int .u64 0] 91 (0, 0))) := ⟨h2_⟩
      have n3_ : Aside0 (w51.heap[gb234]? = some (.cells #[.int .u64 0, .int .u64 0] 91 (0, 0))) := ⟨h3_⟩
      have n4_ : Aside0 (w.heap.size ≤ gb233) := ⟨h4_⟩
      have n5_ : Aside0 (w.heap.size ≤ gb233) := ⟨h5_⟩
      have n6_ : Aside0 (gb231 ≠ gb233) := ⟨h6_⟩
      have n7_ : Aside0 (gb233 ≠ gb231) := ⟨h7_⟩
      have n8_ : Aside0 (gb232 ≠ gb233) := ⟨h8_⟩
      have n9_ : Aside0 (gb233 ≠ gb232) := ⟨h9_⟩
      have n10_ : Aside0 (gb234 ≠ gb233) := ⟨h10_⟩
      have n11_ : Aside0 (gb233 ≠ gb234) := ⟨h11_⟩
      have n12_ : Aside0 (w.heap.size ≤ gb234) := ⟨h12_⟩
      have n13_ : Aside0 (w.heap.size ≤ gb234) := ⟨h13_⟩
      have n14_ : Aside0 (gb231 ≠ gb234) := ⟨h14_⟩
      have n15_ : Aside0 (gb234 ≠ gb231) := ⟨h15_⟩
      have n16_ : Aside0 (gb232 ≠ gb234) := ⟨h16_⟩
      have n17_ : Aside0 (gb234 ≠ gb232) := ⟨h17_⟩
      have n18_ : Aside0 (Below w.heap.size w w51) := ⟨h18_⟩
      clear BK231
      clear BK232
      clear HB
      clear h0_ h1_ h2_ h3_ h4_ h5_ h6_ h7_ h8_ h9_ h10_ h11_ h12_ h13_ h14_ h15_ h16_ h17_ h18_
      have BK231 := n0_
      have BK232 := n1_
      have BK233 := n2_
      have BK234 := n3_
      have GW233 := n4_
      have GE233 := n5_
      have NB231_233 := n6_
      have NB233_231 := n7_
      have NB232_233 := n8_
      have NB233_232 := n9_
      have NB234_233 := n10_
      have NB233_234 := n11_
      have GW234 := n12_
      have GE234 := n13_
      have NB231_234 := n14_
      have NB234_231 := n15_
      have NB232_234 := n16_
      have NB234_232 := n17_
      have HB := n18_
      clear n0_ n1_ n2_ n3_ n4_ n5_ n6_ n7_ n8_ n9_ n10_ n11_ n12_ n13_ n14_ n15_ n16_ n17_ n18_
      have hHeld : w51.cell? ⟨gb231, 0, none⟩ = some (.int .u64 a0_0) ∧ w51.cell? ⟨gb231, 1, none⟩ = some (.int .u64 a0_1) ∧ w51.cell? ⟨gb232, 0, none⟩ = some (.int .u64 a1_0) ∧ w51.cell? ⟨gb232, 1, none⟩ = some (.int .u64 a1_1) := hS_
      refine norm_ (a' := ?_) ?_ ?_
      rotate_left
      · simp only [putAll, Act.put, List.setIfInBounds_toArray, List.set_cons_zero, List.set_cons_succ]
        rfl
      refine one_ (i := 14) (N := none) #[true, true, true, true, true, true, true, true, true, true, true, true, true, true, true, false] rfl rfl (one_of HT_.out (by kernel_rfl)) (by decide) (fun K hK => ?_)
      have hs52 : w51.cell? ⟨gb233, 0, none⟩ = some (.int .u64 0) := (blk_cell BK233.out 0).trans rfl
      have hfs52 := blk_frozen BK233.out 0
      have hns52_0 := NB231_233.out
      have hns52_1 := NB232_233.out
      have hns52_3 := NB234_233.out
      have hms52_0 := NB233_231.out
      have hms52_1 := NB233_232.out
      have hms52_3 := NB233_234.out
      have hs53 : w51.cell? ⟨gb233, 1, none⟩ = some (.int .u64 0) := (blk_cell BK233.out 1).trans rfl
      have hfs53 := blk_frozen BK233.out 1
      have hns53_0 := NB231_233.out
      have hns53_1 := NB232_233.out
      have hns53_3 := NB234_233.out
      have hms53_0 := NB233_231.out
      have hms53_1 := NB233_232.out
      have hms53_3 := NB233_234.out
      refine skip_ (w1 := ?_) (by rfl) rfl ?_ ?_
      rotate_left
      · go_simp
        rfl
      refine hK.out _ _ ⟨((cell_far (p := ⟨gb233, _, none⟩) NB231_233.out _).trans (((cell_far (p := ⟨gb233, _, none⟩) NB231_233.out _).trans (hHeld.1)))), ((cell_far (p := ⟨gb233, _, none⟩) NB231_233.out _).trans (((cell_far (p := ⟨gb233, _, none⟩) NB231_233.out _).trans (hHeld.2.1)))), ((cell_far (p := ⟨gb233, _, none⟩) NB232_233.out _).trans (((cell_far (p := ⟨gb233, _, none⟩) NB232_233.out _).trans (hHeld.2.2.1)))), ((cell_far (p := ⟨gb233, _, none⟩) NB232_233.out _).trans (((cell_far (p := ⟨gb233, _, none⟩) NB232_233.out _).trans (hHeld.2.2.2))))⟩ (fun hHeld => ?_)
      clear hK K
      refine one_ (i := 15) (N := none) #[true, true, true, true, true, true, true, true, true, true, true, true, true, true, true, true] rfl rfl (one_of HT_.out (by kernel_rfl)) (by decide) (fun K hK => ?_)
      have hs54 : w51.cell? ⟨gb234, 0, none⟩ = some (.int .u64 0) := (blk_cell BK234.out 0).trans rfl
      have hfs54 := blk_frozen BK234.out 0
      have hns54_0 := NB231_234.out
      have hns54_1 := NB232_234.out
      have hns54_2 := NB233_234.out
      have hms54_0 := NB234_231.out
      have hms54_1 := NB234_232.out
      have hms54_2 := NB234_233.out
      have hs55 : w51.cell? ⟨gb234, 1, none⟩ = some (.int .u64 0) := (blk_cell BK234.out 1).trans rfl
      have hfs55 := blk_frozen BK234.out 1
      have hns55_0 := NB231_234.out
      have hns55_1 := NB232_234.out
      have hns55_2 := NB233_234.out
      have hms55_0 := NB234_231.out
      have hms55_1 := NB234_232.out
      have hms55_2 := NB234_233.out
      refine skip_ (w1 := ?_) (by rfl) rfl ?_ ?_
      rotate_left
      · go_simp
        rfl
      refine hK.out _ _ ⟨((cell_far (p := ⟨gb234, _, none⟩) NB231_234.out _).trans (((cell_far (p := ⟨gb234, _, none⟩) NB231_234.out _).trans (hHeld.1)))), ((cell_far (p := ⟨gb234, _, none⟩) NB231_234.out _).trans (((cell_far (p := ⟨gb234, _, none⟩) NB231_234.out _).trans (hHeld.2.1)))), ((cell_far (p := ⟨gb234, _, none⟩) NB232_234.out _).trans (((cell_far (p := ⟨gb234, _, none⟩) NB232_234.out _).trans (hHeld.2.2.1)))), ((cell_far (p := ⟨gb234, _, none⟩) NB232_234.out _).trans (((cell_far (p := ⟨gb234, _, none⟩) NB232_234.out _).trans (hHeld.2.2.2))))⟩ (fun hHeld => ?_)
      clear hK K
      refine done_ (done_of HT_.out (by kernel_rfl)) ?_
      have hnb56 := NB233_231.out
      have hnc56 := NB231_233.out
      have hnb57 := NB233_232.out
      have hnc57 := NB232_233.out
      have hnb58 := NB233_234.out
      have hnc58 := NB234_233.out
      have hcz59_0 : w51.cell? ⟨gb233, 0, none⟩ = some (.int .u64 0) := (blk_cell BK233.out 0).trans rfl
      have hcz59_1 : w51.cell? ⟨gb233, 1, none⟩ = some (.int .u64 0) := (blk_cell BK233.out 1).trans rfl
      have hfz59_0 := blk_frozen BK233.out 0
      have hfz59_1 := blk_frozen BK233.out 1
      have hnb60 := NB234_231.out
      have hnc60 := NB231_234.out
      have hnb61 := NB234_232.out
      have hnc61 := NB232_234.out
      have hcz62_0 : w51.cell? ⟨gb234, 0, none⟩ = some (.int .u64 0) := (blk_cell BK234.out 0).trans rfl
      have hcz62_1 : w51.cell? ⟨gb234, 1, none⟩ = some (.int .u64 0) := (blk_cell BK234.out 1).trans rfl
      have hfz62_0 := blk_frozen BK234.out 0
      have hfz62_1 := blk_frozen BK234.out 1
      try go_wp2_with (first | ((with_reducible refine gate_callee (f := 62) rfl ?_); refine goesL_ (some 22) rfl rfl Try.func62 (by kernel_rfl) rfl #[.agg #[.int .u64 (Go.bits .xor .u64 a0_0 9223372036854775808), .int .u64 a0_1], .agg #[.int .u64 (Go.bits .xor .u64 a1_0 9223372036854775808), .int .u64 a1_1]] rfl (by (try simp only [List.map_toArray, List.map_cons, List.map_nil]); first | done | rfl | (simp only [List.length_drop, List.length_take]; rfl) | (go_simp; simp only [u8_w, w64_u8]; done) | (go_simp; simp only [u8_w, w64_u8]; rfl)) ?_; (with_reducible refine (wide_less.calls (Go.bits .xor .u64 a0_0 9223372036854775808) a0_1 (Go.bits .xor .u64 a1_0 9223372036854775808) a1_1 false _ A3.out).mono ?_); rintro e w63 ⟨rfl, hb⟩; refine ⟨_, rfl, ?_⟩; have n0_ := Aside0.mk (blk_below (g := gb231) (o := .cells #[.int .u64 a0_0, .int .u64 a0_1] 26 (0, 0)) (bF BK231) hb); have n1_ := Aside0.mk (blk_below (g := gb232) (o := .cells #[.int .u64 a1_0, .int .u64 a1_1] 26 (0, 0)) (bF BK232) hb); have n2_ := Aside0.mk (blk_below (g := gb233) (o := .cells #[.int .u64 (Go.bits .xor .u64 a0_0 9223372036854775808), .int .u64 a0_1] 91 (0, 0)) (by (with_reducible repeat (first | refine blk_drewN ?_ _ | refine blk_drew ?_ | refine blk_alloc ?_ _)); refine blk_far ?_ NB233_234.out _; (with_reducible repeat (first | refine blk_drewN ?_ _ | refine blk_drew ?_ | refine blk_alloc ?_ _)); refine blk_far ?_ NB233_234.out _; (with_reducible repeat (first | refine blk_drewN ?_ _ | refine blk_drew ?_ | refine blk_alloc ?_ _)); refine blk_put (cs := #[.int .u64 (Go.bits .xor .u64 a0_0 9223372036854775808), .int .u64 0]) ?_ 1 _ rfl; (with_reducible repeat (first | refine blk_drewN ?_ _ | refine blk_drew ?_ | refine blk_alloc ?_ _)); refine blk_put (cs := #[.int .u64 0, .int .u64 0]) ?_ 0 _ rfl; (with_reducible repeat (first | refine blk_drewN ?_ _ | refine blk_drew ?_ | refine blk_alloc ?_ _)); exact BK233.out) hb); have n3_ := Aside0.mk (blk_below (g := gb234) (o := .cells #[.int .u64 (Go.bits .xor .u64 a1_0 9223372036854775808), .int .u64 a1_1] 91 (0, 0)) (by (with_reducible repeat (first | refine blk_drewN ?_ _ | refine blk_drew ?_ | refine blk_alloc ?_ _)); refine blk_put (cs := #[.int .u64 (Go.bits .xor .u64 a1_0 9223372036854775808), .int .u64 0]) ?_ 1 _ rfl; (with_reducible repeat (first | refine blk_drewN ?_ _ | refine blk_drew ?_ | refine blk_alloc ?_ _)); refine blk_put (cs := #[.int .u64 0, .int .u64 0]) ?_ 0 _ rfl; (with_reducible repeat (first | refine blk_drewN ?_ _ | refine blk_drew ?_ | refine blk_alloc ?_ _)); refine blk_far ?_ NB234_233.out _; (with_reducible repeat (first | refine blk_drewN ?_ _ | refine blk_drew ?_ | refine blk_alloc ?_ _)); refine blk_far ?_ NB234_233.out _; (with_reducible repeat (first | refine blk_drewN ?_ _ | refine blk_drew ?_ | refine blk_alloc ?_ _)); exact BK234.out) hb); have n4_ := Aside0.mk (below_step (bL HB) hb); clear BK231 BK232 BK233 BK234 HB; have BK231 := n0_; have BK232 := n1_; have BK233 := n2_; have BK234 := n3_; have HB := n4_; clear n0_ n1_ n2_ n3_ n4_; (try clear hb); (try clear hb2); (try clear hk); (try clear hi); have hcz64_0 : w63.cell? ⟨gb234, 0, none⟩ = some (.int .u64 (Go.bits .xor .u64 a1_0 9223372036854775808)) := (blk_cell BK234.out 0).trans rfl; have hcz64_1 : w63.cell? ⟨gb234, 1, none⟩ = some (.int .u64 a1_1) := (blk_cell BK234.out 1).trans rfl; have hfz64_0 := blk_frozen BK234.out 0; have hfz64_1 := blk_frozen BK234.out 1; have hcz65_0 : w63.cell? ⟨gb233, 0, none⟩ = some (.int .u64 (Go.bits .xor .u64 a0_0 9223372036854775808)) := (blk_cell BK233.out 0).trans rfl; have hcz65_1 : w63.cell? ⟨gb233, 1, none⟩ = some (.int .u64 a0_1) := (blk_cell BK233.out 1).trans rfl; have hfz65_0 := blk_frozen BK233.out 0; have hfz65_1 := blk_frozen BK233.out 1) | ((with_reducible refine gate_callee (f := 62) rfl ?_); refine goesL_ (some 26) rfl rfl Try.func62 (by kernel_rfl) rfl #[.agg #[.int .u64 (Go.bits .xor .u64 a1_0 9223372036854775808), .int .u64 a1_1], .agg #[.int .u64 (Go.bits .xor .u64 a0_0 9223372036854775808), .int .u64 a0_1]] rfl (by (try simp only [List.map_toArray, List.map_cons, List.map_nil]); first | done | rfl | (simp only [List.length_drop, List.length_take]; rfl) | (go_simp; simp only [u8_w, w64_u8]; done) | (go_simp; simp only [u8_w, w64_u8]; rfl)) ?_; (with_reducible refine (wide_less.calls (Go.bits .xor .u64 a1_0 9223372036854775808) a1_1 (Go.bits .xor .u64 a0_0 9223372036854775808) a0_1 false _ A23.out).mono ?_); rintro e w66 ⟨rfl, hb⟩; refine ⟨_, rfl, ?_⟩; have n0_ := blkB BK231 hb; have n1_ := blkB BK232 hb; have n2_ := blkB BK233 hb; have n3_ := blkB BK234 hb; have n4_ := Aside0.mk (below_step (bL HB) hb); clear BK231 BK232 BK233 BK234 HB; have BK231 := n0_; have BK232 := n1_; have BK233 := n2_; have BK234 := n3_; have HB := n4_; clear n0_ n1_ n2_ n3_ n4_; (try clear hb); (try clear hb2); (try clear hk); (try clear hi)))
      go_ret
      exact ⟨by first | rfl | (simp [errW_none, errW_some] <;> rfl) | (simp [*, errW_none, errW_some] <;> rfl), by repeat (first | (with_reducible first | exact HB.out | apply below_alloc | apply pw_below_drewN | apply below_drew1 | refine below_set ?_ GE231.out | refine below_set ?_ GE232.out | refine below_set ?_ GE233.out | refine below_set ?_ GE234.out) | exact HB.out)⟩

end Go.Proofs.Ytekndmlcmepekaa.Q
