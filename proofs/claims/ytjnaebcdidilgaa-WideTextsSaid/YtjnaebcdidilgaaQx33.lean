/- Functions of the program as Lean functions, and their walks: printed by print.py as this session changed it (mkprint.py). Lean checks it. No condition. (halved) -/
import Derived.Test.YtjnaebcdidilgaaQx0
import Derived.Test.YtjnaebcdidilgaaQx8
namespace Go.Proofs.Ytjnaebcdidilgaa.Q
open Go.RowKit Go.Proofs.YtjnaebcdidilgaaW.PrintWords Go.Proofs.YtjnaebcdidilgaaW.PrintLast Go.Proofs.YtjnaebcdidilgaaW.PrintMore
attribute [local go_sem] max2_int min2_int max_two min_two max_three min_three max_four min_four   -- for this text's walks alone
attribute [local go_sem] Instr.field asAgg
set_option linter.unusedVariables false
set_option linter.unusedSimpArgs false
abbrev ba_33_0 : Array Bool := #[false, false, false, false, false, false, false, false, false, false, false, false, false, false, false, false]
abbrev ba_33_1 : Array Bool := #[true, false, false, false, false, false, false, false, false, false, false, false, false, false, false, false]
abbrev ba_33_2 : Array Bool := #[true, false, false, true, false, false, false, false, false, false, false, false, false, false, false, false]
abbrev ba_33_3 : Array Bool := #[true, false, false, true, false, false, true, false, false, false, false, false, false, false, false, false]
abbrev ba_33_4 : Array Bool := #[true, false, false, true, false, false, true, false, false, true, false, false, false, false, false, false]
abbrev ba_33_5 : Array Bool := #[true, true, false, true, false, false, true, false, false, true, false, false, false, false, false, false]
abbrev ba_33_6 : Array Bool := #[true, true, true, true, false, false, true, false, false, true, false, false, false, false, false, false]
abbrev ba_33_7 : Array Bool := #[true, true, true, true, true, false, true, false, false, true, false, false, false, false, false, false]
abbrev ba_33_8 : Array Bool := #[true, true, true, true, true, true, true, false, false, true, false, false, false, false, false, false]
abbrev ba_33_9 : Array Bool := #[true, true, true, true, true, true, true, true, false, true, false, false, false, false, false, false]
abbrev ba_33_10 : Array Bool := #[true, true, true, true, true, true, true, true, true, true, false, false, false, false, false, false]
abbrev ba_33_11 : Array Bool := #[true, true, true, true, true, true, true, true, true, true, true, false, false, false, false, false]
abbrev ba_33_12 : Array Bool := #[true, true, true, true, true, true, true, true, true, true, true, true, false, false, false, false]
abbrev ba_33_13 : Array Bool := #[true, true, true, true, true, true, true, true, true, true, true, true, true, true, false, false]
abbrev ba_33_14 : Array Bool := #[true, true, true, true, true, true, true, true, true, true, true, true, true, false, false, false]
abbrev ba_33_15 : Array Bool := #[true, true, true, true, true, true, true, true, true, true, true, true, false, true, false, false]
abbrev ba_33_16 : Array Bool := #[true, true, true, true, true, true, true, true, true, true, true, true, true, true, true, false]
abbrev ba_33_17 : Array Bool := #[true, true, true, true, true, true, true, true, true, true, true, true, true, true, true, true]

/-! ### wide_Cmp: function 27 -/
def wide_Cmp.f (a0_0 : Int) (a0_1 : Int) (a1_0 : Int) (a1_1 : Int) : Option (Int) := (wide_less.f (Go.bits .xor .u64 a0_0 9223372036854775808) a0_1 (Go.bits .xor .u64 a1_0 9223372036854775808) a1_1).bind fun t526 => (if t526 = true then (some (-1)) else ((wide_less.f (Go.bits .xor .u64 a1_0 9223372036854775808) a1_1 (Go.bits .xor .u64 a0_0 9223372036854775808) a0_1).bind fun t527 => (if t527 = true then (some 1) else (some 0))))
def wide_Cmp.T1 : Bool × List (List Nat × List Nat) := (true, [([], []), ([0], [0]), ([1], [1]), ([], []), ([3], [3]), ([2, 4], [2, 4]), ([], []), ([6], [6]), ([7], [7]), ([], []), ([9], [9]), ([8, 10], [8, 10]), ([], []), ([], []), ([12, 5, 0, 1, 2, 3, 4, 5, 12, 13], [5, 12]), ([13, 11, 14, 0, 1, 2, 3, 4, 5, 6, 7, 8, 9, 10, 11, 12, 13, 14], [11, 13])])
def wide_Cmp.B1 : List Nat := [0, 1, 3, 0, 8, 31, 0, 64, 192, 0, 512, 1984, 0, 0, 12351, 32767]
theorem wide_Cmp.tab1 : rtab .any (opsOf Try.f27 1) = wide_Cmp.T1 := by kernel_rfl
theorem wide_Cmp.bits1 : waitsOk wide_Cmp.T1.2 wide_Cmp.B1 = true := by kernel_rfl
set_option maxHeartbeats 8000000 in
set_option maxRecDepth 100000 in
theorem wide_Cmp.calls (a0_0 : Int) (a0_1 : Int) (a1_0 : Int) (a1_1 : Int) (r : Int) (w : World) (h : wide_Cmp.f a0_0 a0_1 a1_0 a1_1 = some r) :
  Calls Try.prog 27 #[.agg #[.int .u64 a0_0, .int .u64 a0_1], .agg #[.int .u64 a1_0, .int .u64 a1_1]] w fun e w' => e = .returned (.int .i64 r) ∧ Below w.heap.size w w' := by
 have hu24 := Try.underlying24
 have hu60 := Try.underlying60
 have HB := Aside0.mk (Below.refl w.heap.size w)
 have H : ((wide_less.f (Go.bits .xor .u64 a0_0 9223372036854775808) a0_1 (Go.bits .xor .u64 a1_0 9223372036854775808) a1_1).bind fun t526 => (if t526 = true then (some (-1)) else ((wide_less.f (Go.bits .xor .u64 a1_0 9223372036854775808) a1_1 (Go.bits .xor .u64 a0_0 9223372036854775808) a0_1).bind fun t527 => (if t527 = true then (some 1) else (some 0))))) = some r := h
 clear h
 replace H := Option.bind_eq_some_iff.mp H
 obtain ⟨t526, A30, H⟩ := H
 replace H : (if t526 = true then (some (-1)) else ((wide_less.f (Go.bits .xor .u64 a1_0 9223372036854775808) a1_1 (Go.bits .xor .u64 a0_0 9223372036854775808) a0_1).bind fun t527 => (if t527 = true then (some 1) else (some 0)))) = some r := H
 have A3 := Aside0.mk A30
 clear A30
 by_cases c4 : t526 = true
 ·subst c4
  have H1 : (some (-1)) = some r := by rw [if_pos rfl] at H; exact H
  clear H
  have H := H1
  clear H1
  obtain rfl := Option.some.inj H
  go_enter Try.func27, Try.ntmps27
  try go_wp2_with (first | ((with_reducible refine gate_dst (N := 2) rfl ?_); refine box_event ?hg (N := 2) ?hd (cs := #[.int .u64 a0_0, .int .u64 a0_1]) (t := 24) ?hr ?_; (case hd => rfl); (case hg => rfl); (case hr => first | (go_simp; done) | (go_simp; rfl)); intro gb522 hg w5 hbox hb; have n0_ := Aside0.mk (below_step (bL HB) hb); have n1_ := Aside0.mk (hbox); have n2_ := Aside0.mk ((by rw [hg]; exact (below_size (bL HB)) : w.heap.size ≤ gb522)); have n3_ := Aside0.mk ((by rw [hg]; exact (below_size (bL HB)) : w.heap.size ≤ gb522)); clear HB; have HB := n0_; have BK522 := n1_; have GW522 := n2_; have GE522 := n3_; clear n0_ n1_ n2_ n3_; clear hb hbox hg) | ((with_reducible refine gate_dst (N := 3) rfl ?_); refine box_event ?hg (N := 3) ?hd (cs := #[.int .u64 a1_0, .int .u64 a1_1]) (t := 24) ?hr ?_; (case hd => rfl); (case hg => rfl); (case hr => first | (go_simp; done) | (go_simp; rfl)); intro gb523 hg w6 hbox hb; have n0_ := blkB BK522 hb; have n1_ := Aside0.mk (below_step (bL HB) hb); have n2_ := Aside0.mk (hbox); have n3_ := Aside0.mk ((by rw [hg]; exact (below_size (bL HB)) : w.heap.size ≤ gb523)); have n4_ := Aside0.mk ((by rw [hg]; exact (below_size (bL HB)) : w.heap.size ≤ gb523)); have n5_ := blkL BK522 hg; have n6_ := blkG BK522 hg; clear BK522 HB; have BK522 := n0_; have HB := n1_; have BK523 := n2_; have GW523 := n3_; have GE523 := n4_; have NB522_523 := n5_; have NB523_522 := n6_; clear n0_ n1_ n2_ n3_ n4_ n5_ n6_; clear hb hbox hg))
  have n0_ := Aside0.mk (blk_drew BK522.out)
  have n1_ := Aside0.mk (blk_drew BK523.out)
  have n2_ := Aside0.mk (below_drew1 HB.out)
  clear BK522
  clear BK523
  clear HB
  have BK522 := n0_
  have BK523 := n1_
  have HB := n2_
  clear n0_ n1_ n2_
  refine start_ (n := 16) (S := fun w' => w'.cell? ⟨gb522, 0, none⟩ = some (.int .u64 a0_0) ∧ w'.cell? ⟨gb522, 1, none⟩ = some (.int .u64 a0_1) ∧ w'.cell? ⟨gb523, 0, none⟩ = some (.int .u64 a1_0) ∧ w'.cell? ⟨gb523, 1, none⟩ = some (.int .u64 a1_1)) (ds := []) ba_33_0 (by kernel_rfl) rfl rfl ⟨(blk_cell BK522.out 0).trans rfl, (blk_cell BK522.out 1).trans rfl, (blk_cell BK523.out 0).trans rfl, (blk_cell BK523.out 1).trans rfl⟩ (fun hHeld => ?_); refine with_tabW wide_Cmp.tab1 wide_Cmp.bits1 (fun HT_ HW_ => ?_)
  generalize w6.drew = w7 at BK522 BK523 HB hHeld ⊢
  refine pure_ (i := 0) (N := some 7) (v := ?_) (a' := ?_) ba_33_1 rfl rfl (any_of HT_.out (by kernel_rfl)) (fun _ _ _ h => h) (Or.inl ⟨by rfl, ?_⟩) ?_ ?_
  rotate_left
  ·intro w'
   go_simp
   with_reducible rfl
  rotate_left
  ·simp only [Act.put, List.setIfInBounds_toArray, List.set_cons_zero, List.set_cons_succ, i64_w, i32_w]
   rfl
  refine pure_ (i := 3) (N := some 10) (v := ?_) (a' := ?_) ba_33_2 rfl rfl (any_of HT_.out (by kernel_rfl)) (fun _ _ _ h => h) (Or.inl ⟨by rfl, ?_⟩) ?_ ?_
  rotate_left
  ·intro w'
   go_simp
   with_reducible rfl
  rotate_left
  ·simp only [Act.put, List.setIfInBounds_toArray, List.set_cons_zero, List.set_cons_succ, i64_w, i32_w]
   rfl
  refine pure_ (i := 6) (N := some 13) (v := ?_) (a' := ?_) ba_33_3 rfl rfl (any_of HT_.out (by kernel_rfl)) (fun _ _ _ h => h) (Or.inl ⟨by rfl, ?_⟩) ?_ ?_
  rotate_left
  ·intro w'
   go_simp
   with_reducible rfl
  rotate_left
  ·simp only [Act.put, List.setIfInBounds_toArray, List.set_cons_zero, List.set_cons_succ, i64_w, i32_w]
   rfl
  refine pure_ (i := 9) (N := some 16) (v := ?_) (a' := ?_) ba_33_4 rfl rfl (any_of HT_.out (by kernel_rfl)) (fun _ _ _ h => h) (Or.inl ⟨by rfl, ?_⟩) ?_ ?_
  rotate_left
  ·intro w'
   go_simp
   with_reducible rfl
  rotate_left
  ·simp only [Act.put, List.setIfInBounds_toArray, List.set_cons_zero, List.set_cons_succ, i64_w, i32_w]
   rfl
  refine take_ (i := 1) (N := some 8) (v := ?_) (a' := ?_) ba_33_5 rfl rfl (take_ofW HT_.out HW_.out (by kernel_rfl)) (fun _ _ _ h => h) (Or.inl ⟨by rfl, ?_⟩) hHeld ?_ ?_
  rotate_left
  ·rintro w' ⟨s0, s1, s2, s3⟩
   go_simp
   with_reducible rfl
  rotate_left
  ·simp only [Act.put, List.setIfInBounds_toArray, List.set_cons_zero, List.set_cons_succ, i64_w, i32_w]
   rfl
  refine pure_ (i := 2) (N := some 9) (v := ?_) (a' := ?_) ba_33_6 rfl rfl (any_of HT_.out (by kernel_rfl)) (fun _ _ _ h => h) (Or.inl ⟨by rfl, ?_⟩) ?_ ?_
  rotate_left
  ·intro w'
   go_simp
   with_reducible rfl
  rotate_left
  ·simp only [Act.put, List.setIfInBounds_toArray, List.set_cons_zero, List.set_cons_succ, i64_w, i32_w]
   rfl
  refine take_ (i := 4) (N := some 11) (v := ?_) (a' := ?_) ba_33_7 rfl rfl (take_ofW HT_.out HW_.out (by kernel_rfl)) (fun _ _ _ h => h) (Or.inl ⟨by rfl, ?_⟩) hHeld ?_ ?_
  rotate_left
  ·rintro w' ⟨s0, s1, s2, s3⟩
   go_simp
   with_reducible rfl
  rotate_left
  ·simp only [Act.put, List.setIfInBounds_toArray, List.set_cons_zero, List.set_cons_succ, i64_w, i32_w]
   rfl
  refine pure_ (i := 5) (N := some 12) (v := ?_) (a' := ?_) ba_33_8 rfl rfl (any_of HT_.out (by kernel_rfl)) (fun _ _ _ h => h) (Or.inl ⟨by rfl, ?_⟩) ?_ ?_
  rotate_left
  ·intro w'
   go_simp
   with_reducible rfl
  rotate_left
  ·simp only [Act.put, List.setIfInBounds_toArray, List.set_cons_zero, List.set_cons_succ, i64_w, i32_w]
   rfl
  refine take_ (i := 7) (N := some 14) (v := ?_) (a' := ?_) ba_33_9 rfl rfl (take_ofW HT_.out HW_.out (by kernel_rfl)) (fun _ _ _ h => h) (Or.inl ⟨by rfl, ?_⟩) hHeld ?_ ?_
  rotate_left
  ·rintro w' ⟨s0, s1, s2, s3⟩
   go_simp
   with_reducible rfl
  rotate_left
  ·simp only [Act.put, List.setIfInBounds_toArray, List.set_cons_zero, List.set_cons_succ, i64_w, i32_w]
   rfl
  refine pure_ (i := 8) (N := some 15) (v := ?_) (a' := ?_) ba_33_10 rfl rfl (any_of HT_.out (by kernel_rfl)) (fun _ _ _ h => h) (Or.inl ⟨by rfl, ?_⟩) ?_ ?_
  rotate_left
  ·intro w'
   go_simp
   with_reducible rfl
  rotate_left
  ·simp only [Act.put, List.setIfInBounds_toArray, List.set_cons_zero, List.set_cons_succ, i64_w, i32_w]
   rfl
  refine take_ (i := 10) (N := some 17) (v := ?_) (a' := ?_) ba_33_11 rfl rfl (take_ofW HT_.out HW_.out (by kernel_rfl)) (fun _ _ _ h => h) (Or.inl ⟨by rfl, ?_⟩) hHeld ?_ ?_
  rotate_left
  ·rintro w' ⟨s0, s1, s2, s3⟩
   go_simp
   with_reducible rfl
  rotate_left
  ·simp only [Act.put, List.setIfInBounds_toArray, List.set_cons_zero, List.set_cons_succ, i64_w, i32_w]
   rfl
  refine pure_ (i := 11) (N := some 18) (v := ?_) (a' := ?_) ba_33_12 rfl rfl (any_of HT_.out (by kernel_rfl)) (fun _ _ _ h => h) (Or.inl ⟨by rfl, ?_⟩) ?_ ?_
  rotate_left
  ·intro w'
   go_simp
   with_reducible rfl
  rotate_left
  ·simp only [Act.put, List.setIfInBounds_toArray, List.set_cons_zero, List.set_cons_succ, i64_w, i32_w]
   rfl
  refine join_ (σ := Nat × Nat) 2 ba_33_13 (fun s_ => [(5, .pointer (some ⟨s_.1, 0, none⟩)), (6, .pointer (some ⟨s_.2, 0, none⟩))]) (fun s_ w' => (w'.cell? ⟨gb522, 0, none⟩ = some (.int .u64 a0_0) ∧ w'.cell? ⟨gb522, 1, none⟩ = some (.int .u64 a0_1) ∧ w'.cell? ⟨gb523, 0, none⟩ = some (.int .u64 a1_0) ∧ w'.cell? ⟨gb523, 1, none⟩ = some (.int .u64 a1_1)) ∧ (w'.heap[gb522]? = some (.cells #[.int .u64 a0_0, .int .u64 a0_1] 24 (0, 0))) ∧ (w'.heap[gb523]? = some (.cells #[.int .u64 a1_0, .int .u64 a1_1] 24 (0, 0))) ∧ (w'.heap[s_.1]? = some (.cells #[.int .u64 0, .int .u64 0] 60 (0, 0))) ∧ (w'.heap[s_.2]? = some (.cells #[.int .u64 0, .int .u64 0] 60 (0, 0))) ∧ (w.heap.size ≤ s_.1) ∧ (w.heap.size ≤ s_.1) ∧ (gb522 ≠ s_.1) ∧ (s_.1 ≠ gb522) ∧ (gb523 ≠ s_.1) ∧ (s_.1 ≠ gb523) ∧ (s_.2 ≠ s_.1) ∧ (s_.1 ≠ s_.2) ∧ (w.heap.size ≤ s_.2) ∧ (w.heap.size ≤ s_.2) ∧ (gb522 ≠ s_.2) ∧ (s_.2 ≠ gb522) ∧ (gb523 ≠ s_.2) ∧ (s_.2 ≠ gb523) ∧ (Below w.heap.size w w')) ?_ ?_
  rotate_left
  ·intro hCont
   refine two_ (i := 12) (j := 13) (Ni := some 5) (Nj := some 6) ba_33_14 ba_33_15 rfl rfl rfl rfl (two_of HT_.out (by kernel_rfl)) (by decide) (by decide) (fun K hK => ?_) (fun K hK => ?_)
   ·skip
    refine box_step ?hg (N := 5) ?hd (cs := #[.int .u64 0, .int .u64 0]) (t := 60) ?hr ?_; (case hd => rfl); (case hg => rfl); (case hr => first | (go_simp; done) | (go_simp; rfl))
    intro gb524 hg w8 hbox hb
    have n0_ := blkB BK522 hb
    have n1_ := blkB BK523 hb
    have n2_ := Aside0.mk (below_step (bL HB) hb)
    have n3_ := Aside0.mk (hbox)
    have n4_ := Aside0.mk ((by rw [hg]; exact (below_size (bL HB)) : w.heap.size ≤ gb524))
    have n5_ := Aside0.mk ((by rw [hg]; exact (below_size (bL HB)) : w.heap.size ≤ gb524))
    have n6_ := blkL BK522 hg
    have n7_ := blkG BK522 hg
    have n8_ := blkL BK523 hg
    have n9_ := blkG BK523 hg
    clear BK522
    clear BK523
    clear HB
    have BK522 := n0_
    have BK523 := n1_
    have HB := n2_
    have BK524 := n3_
    have GW524 := n4_
    have GE524 := n5_
    have NB522_524 := n6_
    have NB524_522 := n7_
    have NB523_524 := n8_
    have NB524_523 := n9_
    clear n0_ n1_ n2_ n3_ n4_ n5_ n6_ n7_ n8_ n9_
    clear hb hbox hg
    refine hK.out _ _ ⟨(blk_cell BK522.out 0).trans rfl, (blk_cell BK522.out 1).trans rfl, (blk_cell BK523.out 0).trans rfl, (blk_cell BK523.out 1).trans rfl⟩ (fun hHeld => ?_)
    clear hK K
    refine norm_ (a' := ?_) ?_ ?_
    rotate_left
    ·show Act.put _ (some 5) _ = _
     simp only [Act.put, List.setIfInBounds_toArray, List.set_cons_zero, List.set_cons_succ, i64_w, i32_w]
     rfl
    refine one_ (i := 13) (N := some 6) ba_33_13 rfl rfl (one_of HT_.out (by kernel_rfl)) (by decide) (fun K hK => ?_)
    refine box_step ?hg (N := 6) ?hd (cs := #[.int .u64 0, .int .u64 0]) (t := 60) ?hr ?_; (case hd => rfl); (case hg => rfl); (case hr => first | (go_simp; done) | (go_simp; rfl))
    intro gb525 hg w9 hbox hb
    have n0_ := blkB BK522 hb
    have n1_ := blkB BK523 hb
    have n2_ := blkB BK524 hb
    have n3_ := Aside0.mk (below_step (bL HB) hb)
    have n4_ := Aside0.mk (hbox)
    have n5_ := Aside0.mk ((by rw [hg]; exact (below_size (bL HB)) : w.heap.size ≤ gb525))
    have n6_ := Aside0.mk ((by rw [hg]; exact (below_size (bL HB)) : w.heap.size ≤ gb525))
    have n7_ := blkL BK522 hg
    have n8_ := blkG BK522 hg
    have n9_ := blkL BK523 hg
    have n10_ := blkG BK523 hg
    have n11_ := blkL BK524 hg
    have n12_ := blkG BK524 hg
    clear BK522
    clear BK523
    clear BK524
    clear HB
    have BK522 := n0_
    have BK523 := n1_
    have BK524 := n2_
    have HB := n3_
    have BK525 := n4_
    have GW525 := n5_
    have GE525 := n6_
    have NB522_525 := n7_
    have NB525_522 := n8_
    have NB523_525 := n9_
    have NB525_523 := n10_
    have NB524_525 := n11_
    have NB525_524 := n12_
    clear n0_ n1_ n2_ n3_ n4_ n5_ n6_ n7_ n8_ n9_ n10_ n11_ n12_
    clear hb hbox hg
    refine hK.out _ _ ⟨(blk_cell BK522.out 0).trans rfl, (blk_cell BK522.out 1).trans rfl, (blk_cell BK523.out 0).trans rfl, (blk_cell BK523.out 1).trans rfl⟩ (fun hHeld => ?_)
    clear hK K
    refine norm_ (a' := ?_) ?_ ?_
    rotate_left
    ·show Act.put _ (some 6) _ = _
     simp only [Act.put, List.setIfInBounds_toArray, List.set_cons_zero, List.set_cons_succ, i64_w, i32_w]
     rfl
    exact norm_ (by simp only [putAll, Act.put, List.setIfInBounds_toArray, List.set_cons_zero, List.set_cons_succ]) (hCont (gb524, gb525) _ ⟨hHeld, (bN BK522), (bN BK523), (bN BK524), (bN BK525), GW524.out, GE524.out, NB522_524.out, NB524_522.out, NB523_524.out, NB524_523.out, NB525_524.out, NB524_525.out, GW525.out, GE525.out, NB522_525.out, NB525_522.out, NB523_525.out, NB525_523.out, (bL HB)⟩)
   ·skip
    refine box_step ?hg (N := 6) ?hd (cs := #[.int .u64 0, .int .u64 0]) (t := 60) ?hr ?_; (case hd => rfl); (case hg => rfl); (case hr => first | (go_simp; done) | (go_simp; rfl))
    intro gb525 hg w8 hbox hb
    have n0_ := blkB BK522 hb
    have n1_ := blkB BK523 hb
    have n2_ := Aside0.mk (below_step (bL HB) hb)
    have n3_ := Aside0.mk (hbox)
    have n4_ := Aside0.mk ((by rw [hg]; exact (below_size (bL HB)) : w.heap.size ≤ gb525))
    have n5_ := Aside0.mk ((by rw [hg]; exact (below_size (bL HB)) : w.heap.size ≤ gb525))
    have n6_ := blkL BK522 hg
    have n7_ := blkG BK522 hg
    have n8_ := blkL BK523 hg
    have n9_ := blkG BK523 hg
    clear BK522
    clear BK523
    clear HB
    have BK522 := n0_
    have BK523 := n1_
    have HB := n2_
    have BK525 := n3_
    have GW525 := n4_
    have GE525 := n5_
    have NB522_525 := n6_
    have NB525_522 := n7_
    have NB523_525 := n8_
    have NB525_523 := n9_
    clear n0_ n1_ n2_ n3_ n4_ n5_ n6_ n7_ n8_ n9_
    clear hb hbox hg
    refine hK.out _ _ ⟨(blk_cell BK522.out 0).trans rfl, (blk_cell BK522.out 1).trans rfl, (blk_cell BK523.out 0).trans rfl, (blk_cell BK523.out 1).trans rfl⟩ (fun hHeld => ?_)
    clear hK K
    refine norm_ (a' := ?_) ?_ ?_
    rotate_left
    ·show Act.put _ (some 6) _ = _
     simp only [Act.put, List.setIfInBounds_toArray, List.set_cons_zero, List.set_cons_succ, i64_w, i32_w]
     rfl
    refine one_ (i := 12) (N := some 5) ba_33_13 rfl rfl (one_of HT_.out (by kernel_rfl)) (by decide) (fun K hK => ?_)
    refine box_step ?hg (N := 5) ?hd (cs := #[.int .u64 0, .int .u64 0]) (t := 60) ?hr ?_; (case hd => rfl); (case hg => rfl); (case hr => first | (go_simp; done) | (go_simp; rfl))
    intro gb524 hg w9 hbox hb
    have n0_ := blkB BK522 hb
    have n1_ := blkB BK523 hb
    have n2_ := blkB BK525 hb
    have n3_ := Aside0.mk (below_step (bL HB) hb)
    have n4_ := Aside0.mk (hbox)
    have n5_ := Aside0.mk ((by rw [hg]; exact (below_size (bL HB)) : w.heap.size ≤ gb524))
    have n6_ := Aside0.mk ((by rw [hg]; exact (below_size (bL HB)) : w.heap.size ≤ gb524))
    have n7_ := blkL BK522 hg
    have n8_ := blkG BK522 hg
    have n9_ := blkL BK523 hg
    have n10_ := blkG BK523 hg
    have n11_ := blkL BK525 hg
    have n12_ := blkG BK525 hg
    clear BK522
    clear BK523
    clear BK525
    clear HB
    have BK522 := n0_
    have BK523 := n1_
    have BK525 := n2_
    have HB := n3_
    have BK524 := n4_
    have GW524 := n5_
    have GE524 := n6_
    have NB522_524 := n7_
    have NB524_522 := n8_
    have NB523_524 := n9_
    have NB524_523 := n10_
    have NB525_524 := n11_
    have NB524_525 := n12_
    clear n0_ n1_ n2_ n3_ n4_ n5_ n6_ n7_ n8_ n9_ n10_ n11_ n12_
    clear hb hbox hg
    refine hK.out _ _ ⟨(blk_cell BK522.out 0).trans rfl, (blk_cell BK522.out 1).trans rfl, (blk_cell BK523.out 0).trans rfl, (blk_cell BK523.out 1).trans rfl⟩ (fun hHeld => ?_)
    clear hK K
    refine norm_ (a' := ?_) ?_ ?_
    rotate_left
    ·show Act.put _ (some 5) _ = _
     simp only [Act.put, List.setIfInBounds_toArray, List.set_cons_zero, List.set_cons_succ, i64_w, i32_w]
     rfl
    exact norm_ (by simp only [putAll, Act.put, List.setIfInBounds_toArray, List.set_cons_zero, List.set_cons_succ]) (hCont (gb524, gb525) _ ⟨hHeld, (bN BK522), (bN BK523), (bN BK524), (bN BK525), GW524.out, GE524.out, NB522_524.out, NB524_522.out, NB523_524.out, NB524_523.out, NB525_524.out, NB524_525.out, GW525.out, GE525.out, NB522_525.out, NB525_522.out, NB523_525.out, NB525_523.out, (bL HB)⟩)
  rintro ⟨gb524, gb525⟩ w10 ⟨hS_, h0_, h1_, h2_, h3_, h4_, h5_, h6_, h7_, h8_, h9_, h10_, h11_, h12_, h13_, h14_, h15_, h16_, h17_, h18_⟩
  have n0_ : Aside0 (w10.heap[gb522]? = some (.cells #[.int .u64 a0_0, .int .u64 a0_1] 24 (0, 0))) := ⟨h0_⟩
  have n1_ : Aside0 (w10.heap[gb523]? = some (.cells #[.int .u64 a1_0, .int .u64 a1_1] 24 (0, 0))) := ⟨h1_⟩
  have n2_ : Aside0 (w10.heap[gb524]? = some (.cells #[.int .u64 0, .int .u64 0] 60 (0, 0))) := ⟨h2_⟩
  have n3_ : Aside0 (w10.heap[gb525]? = some (.cells #[.int .u64 0, .int .u64 0] 60 (0, 0))) := ⟨h3_⟩
  have n4_ : Aside0 (w.heap.size ≤ gb524) := ⟨h4_⟩
  have n5_ : Aside0 (w.heap.size ≤ gb524) := ⟨h5_⟩
  have n6_ : Aside0 (gb522 ≠ gb524) := ⟨h6_⟩
  have n7_ : Aside0 (gb524 ≠ gb522) := ⟨h7_⟩
  have n8_ : Aside0 (gb523 ≠ gb524) := ⟨h8_⟩
  have n9_ : Aside0 (gb524 ≠ gb523) := ⟨h9_⟩
  have n10_ : Aside0 (gb525 ≠ gb524) := ⟨h10_⟩
  have n11_ : Aside0 (gb524 ≠ gb525) := ⟨h11_⟩
  have n12_ : Aside0 (w.heap.size ≤ gb525) := ⟨h12_⟩
  have n13_ : Aside0 (w.heap.size ≤ gb525) := ⟨h13_⟩
  have n14_ : Aside0 (gb522 ≠ gb525) := ⟨h14_⟩
  have n15_ : Aside0 (gb525 ≠ gb522) := ⟨h15_⟩
  have n16_ : Aside0 (gb523 ≠ gb525) := ⟨h16_⟩
  have n17_ : Aside0 (gb525 ≠ gb523) := ⟨h17_⟩
  have n18_ : Aside0 (Below w.heap.size w w10) := ⟨h18_⟩
  clear BK522
  clear BK523
  clear HB
  clear h0_ h1_ h2_ h3_ h4_ h5_ h6_ h7_ h8_ h9_ h10_ h11_ h12_ h13_ h14_ h15_ h16_ h17_ h18_
  have BK522 := n0_
  have BK523 := n1_
  have BK524 := n2_
  have BK525 := n3_
  have GW524 := n4_
  have GE524 := n5_
  have NB522_524 := n6_
  have NB524_522 := n7_
  have NB523_524 := n8_
  have NB524_523 := n9_
  have NB525_524 := n10_
  have NB524_525 := n11_
  have GW525 := n12_
  have GE525 := n13_
  have NB522_525 := n14_
  have NB525_522 := n15_
  have NB523_525 := n16_
  have NB525_523 := n17_
  have HB := n18_
  clear n0_ n1_ n2_ n3_ n4_ n5_ n6_ n7_ n8_ n9_ n10_ n11_ n12_ n13_ n14_ n15_ n16_ n17_ n18_
  have hHeld : w10.cell? ⟨gb522, 0, none⟩ = some (.int .u64 a0_0) ∧ w10.cell? ⟨gb522, 1, none⟩ = some (.int .u64 a0_1) ∧ w10.cell? ⟨gb523, 0, none⟩ = some (.int .u64 a1_0) ∧ w10.cell? ⟨gb523, 1, none⟩ = some (.int .u64 a1_1) := hS_
  refine norm_ (a' := ?_) ?_ ?_
  rotate_left
  ·simp only [putAll, Act.put, List.setIfInBounds_toArray, List.set_cons_zero, List.set_cons_succ]
   rfl
  refine one_ (i := 14) (N := none) ba_33_16 rfl rfl (one_of HT_.out (by kernel_rfl)) (by decide) (fun K hK => ?_)
  have hs11 : w10.cell? ⟨gb524, 0, none⟩ = some (.int .u64 0) := (blk_cell BK524.out 0).trans rfl
  have hfs11 := blk_frozen BK524.out 0
  have hns11_0 := NB522_524.out
  have hns11_1 := NB523_524.out
  have hns11_3 := NB525_524.out
  have hms11_0 := NB524_522.out
  have hms11_1 := NB524_523.out
  have hms11_3 := NB524_525.out
  have hs12 : w10.cell? ⟨gb524, 1, none⟩ = some (.int .u64 0) := (blk_cell BK524.out 1).trans rfl
  have hfs12 := blk_frozen BK524.out 1
  have hns12_0 := NB522_524.out
  have hns12_1 := NB523_524.out
  have hns12_3 := NB525_524.out
  have hms12_0 := NB524_522.out
  have hms12_1 := NB524_523.out
  have hms12_3 := NB524_525.out
  refine skip_ (w1 := ?_) (by rfl) rfl ?_ ?_
  rotate_left
  ·go_simp
   rfl
  refine hK.out _ _ ⟨((cell_far (p := ⟨gb524, _, none⟩) NB522_524.out _).trans (((cell_far (p := ⟨gb524, _, none⟩) NB522_524.out _).trans (hHeld.1)))), ((cell_far (p := ⟨gb524, _, none⟩) NB522_524.out _).trans (((cell_far (p := ⟨gb524, _, none⟩) NB522_524.out _).trans (hHeld.2.1)))), ((cell_far (p := ⟨gb524, _, none⟩) NB523_524.out _).trans (((cell_far (p := ⟨gb524, _, none⟩) NB523_524.out _).trans (hHeld.2.2.1)))), ((cell_far (p := ⟨gb524, _, none⟩) NB523_524.out _).trans (((cell_far (p := ⟨gb524, _, none⟩) NB523_524.out _).trans (hHeld.2.2.2))))⟩ (fun hHeld => ?_)
  clear hK K
  refine one_ (i := 15) (N := none) ba_33_17 rfl rfl (one_of HT_.out (by kernel_rfl)) (by decide) (fun K hK => ?_)
  have hs13 : w10.cell? ⟨gb525, 0, none⟩ = some (.int .u64 0) := (blk_cell BK525.out 0).trans rfl
  have hfs13 := blk_frozen BK525.out 0
  have hns13_0 := NB522_525.out
  have hns13_1 := NB523_525.out
  have hns13_2 := NB524_525.out
  have hms13_0 := NB525_522.out
  have hms13_1 := NB525_523.out
  have hms13_2 := NB525_524.out
  have hs14 : w10.cell? ⟨gb525, 1, none⟩ = some (.int .u64 0) := (blk_cell BK525.out 1).trans rfl
  have hfs14 := blk_frozen BK525.out 1
  have hns14_0 := NB522_525.out
  have hns14_1 := NB523_525.out
  have hns14_2 := NB524_525.out
  have hms14_0 := NB525_522.out
  have hms14_1 := NB525_523.out
  have hms14_2 := NB525_524.out
  refine skip_ (w1 := ?_) (by rfl) rfl ?_ ?_
  rotate_left
  ·go_simp
   rfl
  refine hK.out _ _ ⟨((cell_far (p := ⟨gb525, _, none⟩) NB522_525.out _).trans (((cell_far (p := ⟨gb525, _, none⟩) NB522_525.out _).trans (hHeld.1)))), ((cell_far (p := ⟨gb525, _, none⟩) NB522_525.out _).trans (((cell_far (p := ⟨gb525, _, none⟩) NB522_525.out _).trans (hHeld.2.1)))), ((cell_far (p := ⟨gb525, _, none⟩) NB523_525.out _).trans (((cell_far (p := ⟨gb525, _, none⟩) NB523_525.out _).trans (hHeld.2.2.1)))), ((cell_far (p := ⟨gb525, _, none⟩) NB523_525.out _).trans (((cell_far (p := ⟨gb525, _, none⟩) NB523_525.out _).trans (hHeld.2.2.2))))⟩ (fun hHeld => ?_)
  clear hK K
  refine done_ (done_of HT_.out (by kernel_rfl)) ?_
  have hnb15 := NB524_522.out
  have hnc15 := NB522_524.out
  have hnb16 := NB524_523.out
  have hnc16 := NB523_524.out
  have hnb17 := NB524_525.out
  have hnc17 := NB525_524.out
  have hcz18_0 : w10.cell? ⟨gb524, 0, none⟩ = some (.int .u64 0) := (blk_cell BK524.out 0).trans rfl
  have hcz18_1 : w10.cell? ⟨gb524, 1, none⟩ = some (.int .u64 0) := (blk_cell BK524.out 1).trans rfl
  have hfz18_0 := blk_frozen BK524.out 0
  have hfz18_1 := blk_frozen BK524.out 1
  have hnb19 := NB525_522.out
  have hnc19 := NB522_525.out
  have hnb20 := NB525_523.out
  have hnc20 := NB523_525.out
  have hcz21_0 : w10.cell? ⟨gb525, 0, none⟩ = some (.int .u64 0) := (blk_cell BK525.out 0).trans rfl
  have hcz21_1 : w10.cell? ⟨gb525, 1, none⟩ = some (.int .u64 0) := (blk_cell BK525.out 1).trans rfl
  have hfz21_0 := blk_frozen BK525.out 0
  have hfz21_1 := blk_frozen BK525.out 1
  try go_wp2_with (first | ((with_reducible refine gate_callee (f := 44) rfl ?_); refine goesL_ (some 22) rfl rfl Try.func44 (by kernel_rfl) rfl #[.agg #[.int .u64 (Go.bits .xor .u64 a0_0 9223372036854775808), .int .u64 a0_1], .agg #[.int .u64 (Go.bits .xor .u64 a1_0 9223372036854775808), .int .u64 a1_1]] rfl (by (try simp only [List.map_toArray, List.map_cons, List.map_nil]); first | done | rfl | (simp only [List.length_drop, List.length_take]; rfl) | (go_simp; simp only [u8_w, w64_u8]; done) | (go_simp; simp only [u8_w, w64_u8]; rfl)) ?_; (with_reducible refine (wide_less.calls (Go.bits .xor .u64 a0_0 9223372036854775808) a0_1 (Go.bits .xor .u64 a1_0 9223372036854775808) a1_1 true _ A3.out).mono ?_); rintro e w22 ⟨rfl, hb⟩; refine ⟨_, rfl, ?_⟩; have n0_ := Aside0.mk (blk_below (g := gb522) (o := .cells #[.int .u64 a0_0, .int .u64 a0_1] 24 (0, 0)) (bF BK522) hb); have n1_ := Aside0.mk (blk_below (g := gb523) (o := .cells #[.int .u64 a1_0, .int .u64 a1_1] 24 (0, 0)) (bF BK523) hb); have n2_ := Aside0.mk (blk_below (g := gb524) (o := .cells #[.int .u64 (Go.bits .xor .u64 a0_0 9223372036854775808), .int .u64 a0_1] 60 (0, 0)) (by (with_reducible repeat (first | refine blk_drewN ?_ _ | refine blk_drew ?_ | refine blk_alloc ?_ _)); refine blk_far ?_ NB524_525.out _; (with_reducible repeat (first | refine blk_drewN ?_ _ | refine blk_drew ?_ | refine blk_alloc ?_ _)); refine blk_far ?_ NB524_525.out _; (with_reducible repeat (first | refine blk_drewN ?_ _ | refine blk_drew ?_ | refine blk_alloc ?_ _)); refine blk_put (cs := #[.int .u64 (Go.bits .xor .u64 a0_0 9223372036854775808), .int .u64 0]) ?_ 1 _ rfl; (with_reducible repeat (first | refine blk_drewN ?_ _ | refine blk_drew ?_ | refine blk_alloc ?_ _)); refine blk_put (cs := #[.int .u64 0, .int .u64 0]) ?_ 0 _ rfl; (with_reducible repeat (first | refine blk_drewN ?_ _ | refine blk_drew ?_ | refine blk_alloc ?_ _)); exact BK524.out) hb); have n3_ := Aside0.mk (blk_below (g := gb525) (o := .cells #[.int .u64 (Go.bits .xor .u64 a1_0 9223372036854775808), .int .u64 a1_1] 60 (0, 0)) (by (with_reducible repeat (first | refine blk_drewN ?_ _ | refine blk_drew ?_ | refine blk_alloc ?_ _)); refine blk_put (cs := #[.int .u64 (Go.bits .xor .u64 a1_0 9223372036854775808), .int .u64 0]) ?_ 1 _ rfl; (with_reducible repeat (first | refine blk_drewN ?_ _ | refine blk_drew ?_ | refine blk_alloc ?_ _)); refine blk_put (cs := #[.int .u64 0, .int .u64 0]) ?_ 0 _ rfl; (with_reducible repeat (first | refine blk_drewN ?_ _ | refine blk_drew ?_ | refine blk_alloc ?_ _)); refine blk_far ?_ NB525_524.out _; (with_reducible repeat (first | refine blk_drewN ?_ _ | refine blk_drew ?_ | refine blk_alloc ?_ _)); refine blk_far ?_ NB525_524.out _; (with_reducible repeat (first | refine blk_drewN ?_ _ | refine blk_drew ?_ | refine blk_alloc ?_ _)); exact BK525.out) hb); have n4_ := Aside0.mk (below_step (bL HB) hb); clear BK522 BK523 BK524 BK525 HB; have BK522 := n0_; have BK523 := n1_; have BK524 := n2_; have BK525 := n3_; have HB := n4_; clear n0_ n1_ n2_ n3_ n4_; (try clear hb); (try clear hb2); (try clear hk); (try clear hi)))
  go_ret
  exact ⟨by first | rfl | (simp [errW_none, errW_some] <;> rfl) | (simp [*, errW_none, errW_some] <;> rfl), by repeat (first | (with_reducible first | exact HB.out | apply below_alloc | apply pw_below_drewN | apply below_drew1 | refine below_set ?_ GE522.out | refine below_set ?_ GE523.out | refine below_set ?_ GE524.out | refine below_set ?_ GE525.out) | exact HB.out)⟩
 ·replace c4 := Bool.eq_false_iff.mpr c4
  subst c4
  have H1 : ((wide_less.f (Go.bits .xor .u64 a1_0 9223372036854775808) a1_1 (Go.bits .xor .u64 a0_0 9223372036854775808) a0_1).bind fun t527 => (if t527 = true then (some 1) else (some 0))) = some r := by rw [if_neg (show ¬ (false = true) by decide)] at H; exact H
  clear H
  have H := H1
  clear H1
  replace H := Option.bind_eq_some_iff.mp H
  obtain ⟨t527, A230, H⟩ := H
  replace H : (if t527 = true then (some 1) else (some 0)) = some r := H
  have A23 := Aside0.mk A230
  clear A230
  by_cases c24 : t527 = true
  ·subst c24
   have H1 : (some 1) = some r := by rw [if_pos rfl] at H; exact H
   clear H
   have H := H1
   clear H1
   obtain rfl := Option.some.inj H
   go_enter Try.func27, Try.ntmps27
   try go_wp2_with (first | ((with_reducible refine gate_dst (N := 2) rfl ?_); refine box_event ?hg (N := 2) ?hd (cs := #[.int .u64 a0_0, .int .u64 a0_1]) (t := 24) ?hr ?_; (case hd => rfl); (case hg => rfl); (case hr => first | (go_simp; done) | (go_simp; rfl)); intro gb522 hg w25 hbox hb; have n0_ := Aside0.mk (below_step (bL HB) hb); have n1_ := Aside0.mk (hbox); have n2_ := Aside0.mk ((by rw [hg]; exact (below_size (bL HB)) : w.heap.size ≤ gb522)); have n3_ := Aside0.mk ((by rw [hg]; exact (below_size (bL HB)) : w.heap.size ≤ gb522)); clear HB; have HB := n0_; have BK522 := n1_; have GW522 := n2_; have GE522 := n3_; clear n0_ n1_ n2_ n3_; clear hb hbox hg) | ((with_reducible refine gate_dst (N := 3) rfl ?_); refine box_event ?hg (N := 3) ?hd (cs := #[.int .u64 a1_0, .int .u64 a1_1]) (t := 24) ?hr ?_; (case hd => rfl); (case hg => rfl); (case hr => first | (go_simp; done) | (go_simp; rfl)); intro gb523 hg w26 hbox hb; have n0_ := blkB BK522 hb; have n1_ := Aside0.mk (below_step (bL HB) hb); have n2_ := Aside0.mk (hbox); have n3_ := Aside0.mk ((by rw [hg]; exact (below_size (bL HB)) : w.heap.size ≤ gb523)); have n4_ := Aside0.mk ((by rw [hg]; exact (below_size (bL HB)) : w.heap.size ≤ gb523)); have n5_ := blkL BK522 hg; have n6_ := blkG BK522 hg; clear BK522 HB; have BK522 := n0_; have HB := n1_; have BK523 := n2_; have GW523 := n3_; have GE523 := n4_; have NB522_523 := n5_; have NB523_522 := n6_; clear n0_ n1_ n2_ n3_ n4_ n5_ n6_; clear hb hbox hg))
   have n0_ := Aside0.mk (blk_drew BK522.out)
   have n1_ := Aside0.mk (blk_drew BK523.out)
   have n2_ := Aside0.mk (below_drew1 HB.out)
   clear BK522
   clear BK523
   clear HB
   have BK522 := n0_
   have BK523 := n1_
   have HB := n2_
   clear n0_ n1_ n2_
   refine start_ (n := 16) (S := fun w' => w'.cell? ⟨gb522, 0, none⟩ = some (.int .u64 a0_0) ∧ w'.cell? ⟨gb522, 1, none⟩ = some (.int .u64 a0_1) ∧ w'.cell? ⟨gb523, 0, none⟩ = some (.int .u64 a1_0) ∧ w'.cell? ⟨gb523, 1, none⟩ = some (.int .u64 a1_1)) (ds := []) ba_33_0 (by kernel_rfl) rfl rfl ⟨(blk_cell BK522.out 0).trans rfl, (blk_cell BK522.out 1).trans rfl, (blk_cell BK523.out 0).trans rfl, (blk_cell BK523.out 1).trans rfl⟩ (fun hHeld => ?_); refine with_tabW wide_Cmp.tab1 wide_Cmp.bits1 (fun HT_ HW_ => ?_)
   generalize w26.drew = w27 at BK522 BK523 HB hHeld ⊢
   refine pure_ (i := 0) (N := some 7) (v := ?_) (a' := ?_) ba_33_1 rfl rfl (any_of HT_.out (by kernel_rfl)) (fun _ _ _ h => h) (Or.inl ⟨by rfl, ?_⟩) ?_ ?_
   rotate_left
   ·intro w'
    go_simp
    with_reducible rfl
   rotate_left
   ·simp only [Act.put, List.setIfInBounds_toArray, List.set_cons_zero, List.set_cons_succ, i64_w, i32_w]
    rfl
   refine pure_ (i := 3) (N := some 10) (v := ?_) (a' := ?_) ba_33_2 rfl rfl (any_of HT_.out (by kernel_rfl)) (fun _ _ _ h => h) (Or.inl ⟨by rfl, ?_⟩) ?_ ?_
   rotate_left
   ·intro w'
    go_simp
    with_reducible rfl
   rotate_left
   ·simp only [Act.put, List.setIfInBounds_toArray, List.set_cons_zero, List.set_cons_succ, i64_w, i32_w]
    rfl
   refine pure_ (i := 6) (N := some 13) (v := ?_) (a' := ?_) ba_33_3 rfl rfl (any_of HT_.out (by kernel_rfl)) (fun _ _ _ h => h) (Or.inl ⟨by rfl, ?_⟩) ?_ ?_
   rotate_left
   ·intro w'
    go_simp
    with_reducible rfl
   rotate_left
   ·simp only [Act.put, List.setIfInBounds_toArray, List.set_cons_zero, List.set_cons_succ, i64_w, i32_w]
    rfl
   refine pure_ (i := 9) (N := some 16) (v := ?_) (a' := ?_) ba_33_4 rfl rfl (any_of HT_.out (by kernel_rfl)) (fun _ _ _ h => h) (Or.inl ⟨by rfl, ?_⟩) ?_ ?_
   rotate_left
   ·intro w'
    go_simp
    with_reducible rfl
   rotate_left
   ·simp only [Act.put, List.setIfInBounds_toArray, List.set_cons_zero, List.set_cons_succ, i64_w, i32_w]
    rfl
   refine take_ (i := 1) (N := some 8) (v := ?_) (a' := ?_) ba_33_5 rfl rfl (take_ofW HT_.out HW_.out (by kernel_rfl)) (fun _ _ _ h => h) (Or.inl ⟨by rfl, ?_⟩) hHeld ?_ ?_
   rotate_left
   ·rintro w' ⟨s0, s1, s2, s3⟩
    go_simp
    with_reducible rfl
   rotate_left
   ·simp only [Act.put, List.setIfInBounds_toArray, List.set_cons_zero, List.set_cons_succ, i64_w, i32_w]
    rfl
   refine pure_ (i := 2) (N := some 9) (v := ?_) (a' := ?_) ba_33_6 rfl rfl (any_of HT_.out (by kernel_rfl)) (fun _ _ _ h => h) (Or.inl ⟨by rfl, ?_⟩) ?_ ?_
   rotate_left
   ·intro w'
    go_simp
    with_reducible rfl
   rotate_left
   ·simp only [Act.put, List.setIfInBounds_toArray, List.set_cons_zero, List.set_cons_succ, i64_w, i32_w]
    rfl
   refine take_ (i := 4) (N := some 11) (v := ?_) (a' := ?_) ba_33_7 rfl rfl (take_ofW HT_.out HW_.out (by kernel_rfl)) (fun _ _ _ h => h) (Or.inl ⟨by rfl, ?_⟩) hHeld ?_ ?_
   rotate_left
   ·rintro w' ⟨s0, s1, s2, s3⟩
    go_simp
    with_reducible rfl
   rotate_left
   ·simp only [Act.put, List.setIfInBounds_toArray, List.set_cons_zero, List.set_cons_succ, i64_w, i32_w]
    rfl
   refine pure_ (i := 5) (N := some 12) (v := ?_) (a' := ?_) ba_33_8 rfl rfl (any_of HT_.out (by kernel_rfl)) (fun _ _ _ h => h) (Or.inl ⟨by rfl, ?_⟩) ?_ ?_
   rotate_left
   ·intro w'
    go_simp
    with_reducible rfl
   rotate_left
   ·simp only [Act.put, List.setIfInBounds_toArray, List.set_cons_zero, List.set_cons_succ, i64_w, i32_w]
    rfl
   refine take_ (i := 7) (N := some 14) (v := ?_) (a' := ?_) ba_33_9 rfl rfl (take_ofW HT_.out HW_.out (by kernel_rfl)) (fun _ _ _ h => h) (Or.inl ⟨by rfl, ?_⟩) hHeld ?_ ?_
   rotate_left
   ·rintro w' ⟨s0, s1, s2, s3⟩
    go_simp
    with_reducible rfl
   rotate_left
   ·simp only [Act.put, List.setIfInBounds_toArray, List.set_cons_zero, List.set_cons_succ, i64_w, i32_w]
    rfl
   refine pure_ (i := 8) (N := some 15) (v := ?_) (a' := ?_) ba_33_10 rfl rfl (any_of HT_.out (by kernel_rfl)) (fun _ _ _ h => h) (Or.inl ⟨by rfl, ?_⟩) ?_ ?_
   rotate_left
   ·intro w'
    go_simp
    with_reducible rfl
   rotate_left
   ·simp only [Act.put, List.setIfInBounds_toArray, List.set_cons_zero, List.set_cons_succ, i64_w, i32_w]
    rfl
   refine take_ (i := 10) (N := some 17) (v := ?_) (a' := ?_) ba_33_11 rfl rfl (take_ofW HT_.out HW_.out (by kernel_rfl)) (fun _ _ _ h => h) (Or.inl ⟨by rfl, ?_⟩) hHeld ?_ ?_
   rotate_left
   ·rintro w' ⟨s0, s1, s2, s3⟩
    go_simp
    with_reducible rfl
   rotate_left
   ·simp only [Act.put, List.setIfInBounds_toArray, List.set_cons_zero, List.set_cons_succ, i64_w, i32_w]
    rfl
   refine pure_ (i := 11) (N := some 18) (v := ?_) (a' := ?_) ba_33_12 rfl rfl (any_of HT_.out (by kernel_rfl)) (fun _ _ _ h => h) (Or.inl ⟨by rfl, ?_⟩) ?_ ?_
   rotate_left
   ·intro w'
    go_simp
    with_reducible rfl
   rotate_left
   ·simp only [Act.put, List.setIfInBounds_toArray, List.set_cons_zero, List.set_cons_succ, i64_w, i32_w]
    rfl
   refine join_ (σ := Nat × Nat) 2 ba_33_13 (fun s_ => [(5, .pointer (some ⟨s_.1, 0, none⟩)), (6, .pointer (some ⟨s_.2, 0, none⟩))]) (fun s_ w' => (w'.cell? ⟨gb522, 0, none⟩ = some (.int .u64 a0_0) ∧ w'.cell? ⟨gb522, 1, none⟩ = some (.int .u64 a0_1) ∧ w'.cell? ⟨gb523, 0, none⟩ = some (.int .u64 a1_0) ∧ w'.cell? ⟨gb523, 1, none⟩ = some (.int .u64 a1_1)) ∧ (w'.heap[gb522]? = some (.cells #[.int .u64 a0_0, .int .u64 a0_1] 24 (0, 0))) ∧ (w'.heap[gb523]? = some (.cells #[.int .u64 a1_0, .int .u64 a1_1] 24 (0, 0))) ∧ (w'.heap[s_.1]? = some (.cells #[.int .u64 0, .int .u64 0] 60 (0, 0))) ∧ (w'.heap[s_.2]? = some (.cells #[.int .u64 0, .int .u64 0] 60 (0, 0))) ∧ (w.heap.size ≤ s_.1) ∧ (w.heap.size ≤ s_.1) ∧ (gb522 ≠ s_.1) ∧ (s_.1 ≠ gb522) ∧ (gb523 ≠ s_.1) ∧ (s_.1 ≠ gb523) ∧ (s_.2 ≠ s_.1) ∧ (s_.1 ≠ s_.2) ∧ (w.heap.size ≤ s_.2) ∧ (w.heap.size ≤ s_.2) ∧ (gb522 ≠ s_.2) ∧ (s_.2 ≠ gb522) ∧ (gb523 ≠ s_.2) ∧ (s_.2 ≠ gb523) ∧ (Below w.heap.size w w')) ?_ ?_
   rotate_left
   ·intro hCont
    refine two_ (i := 12) (j := 13) (Ni := some 5) (Nj := some 6) ba_33_14 ba_33_15 rfl rfl rfl rfl (two_of HT_.out (by kernel_rfl)) (by decide) (by decide) (fun K hK => ?_) (fun K hK => ?_)
    ·skip
     refine box_step ?hg (N := 5) ?hd (cs := #[.int .u64 0, .int .u64 0]) (t := 60) ?hr ?_; (case hd => rfl); (case hg => rfl); (case hr => first | (go_simp; done) | (go_simp; rfl))
     intro gb524 hg w28 hbox hb
     have n0_ := blkB BK522 hb
     have n1_ := blkB BK523 hb
     have n2_ := Aside0.mk (below_step (bL HB) hb)
     have n3_ := Aside0.mk (hbox)
     have n4_ := Aside0.mk ((by rw [hg]; exact (below_size (bL HB)) : w.heap.size ≤ gb524))
     have n5_ := Aside0.mk ((by rw [hg]; exact (below_size (bL HB)) : w.heap.size ≤ gb524))
     have n6_ := blkL BK522 hg
     have n7_ := blkG BK522 hg
     have n8_ := blkL BK523 hg
     have n9_ := blkG BK523 hg
     clear BK522
     clear BK523
     clear HB
     have BK522 := n0_
     have BK523 := n1_
     have HB := n2_
     have BK524 := n3_
     have GW524 := n4_
     have GE524 := n5_
     have NB522_524 := n6_
     have NB524_522 := n7_
     have NB523_524 := n8_
     have NB524_523 := n9_
     clear n0_ n1_ n2_ n3_ n4_ n5_ n6_ n7_ n8_ n9_
     clear hb hbox hg
     refine hK.out _ _ ⟨(blk_cell BK522.out 0).trans rfl, (blk_cell BK522.out 1).trans rfl, (blk_cell BK523.out 0).trans rfl, (blk_cell BK523.out 1).trans rfl⟩ (fun hHeld => ?_)
     clear hK K
     refine norm_ (a' := ?_) ?_ ?_
     rotate_left
     ·show Act.put _ (some 5) _ = _
      simp only [Act.put, List.setIfInBounds_toArray, List.set_cons_zero, List.set_cons_succ, i64_w, i32_w]
      rfl
     refine one_ (i := 13) (N := some 6) ba_33_13 rfl rfl (one_of HT_.out (by kernel_rfl)) (by decide) (fun K hK => ?_)
     refine box_step ?hg (N := 6) ?hd (cs := #[.int .u64 0, .int .u64 0]) (t := 60) ?hr ?_; (case hd => rfl); (case hg => rfl); (case hr => first | (go_simp; done) | (go_simp; rfl))
     intro gb525 hg w29 hbox hb
     have n0_ := blkB BK522 hb
     have n1_ := blkB BK523 hb
     have n2_ := blkB BK524 hb
     have n3_ := Aside0.mk (below_step (bL HB) hb)
     have n4_ := Aside0.mk (hbox)
     have n5_ := Aside0.mk ((by rw [hg]; exact (below_size (bL HB)) : w.heap.size ≤ gb525))
     have n6_ := Aside0.mk ((by rw [hg]; exact (below_size (bL HB)) : w.heap.size ≤ gb525))
     have n7_ := blkL BK522 hg
     have n8_ := blkG BK522 hg
     have n9_ := blkL BK523 hg
     have n10_ := blkG BK523 hg
     have n11_ := blkL BK524 hg
     have n12_ := blkG BK524 hg
     clear BK522
     clear BK523
     clear BK524
     clear HB
     have BK522 := n0_
     have BK523 := n1_
     have BK524 := n2_
     have HB := n3_
     have BK525 := n4_
     have GW525 := n5_
     have GE525 := n6_
     have NB522_525 := n7_
     have NB525_522 := n8_
     have NB523_525 := n9_
     have NB525_523 := n10_
     have NB524_525 := n11_
     have NB525_524 := n12_
     clear n0_ n1_ n2_ n3_ n4_ n5_ n6_ n7_ n8_ n9_ n10_ n11_ n12_
     clear hb hbox hg
     refine hK.out _ _ ⟨(blk_cell BK522.out 0).trans rfl, (blk_cell BK522.out 1).trans rfl, (blk_cell BK523.out 0).trans rfl, (blk_cell BK523.out 1).trans rfl⟩ (fun hHeld => ?_)
     clear hK K
     refine norm_ (a' := ?_) ?_ ?_
     rotate_left
     ·show Act.put _ (some 6) _ = _
      simp only [Act.put, List.setIfInBounds_toArray, List.set_cons_zero, List.set_cons_succ, i64_w, i32_w]
      rfl
     exact norm_ (by simp only [putAll, Act.put, List.setIfInBounds_toArray, List.set_cons_zero, List.set_cons_succ]) (hCont (gb524, gb525) _ ⟨hHeld, (bN BK522), (bN BK523), (bN BK524), (bN BK525), GW524.out, GE524.out, NB522_524.out, NB524_522.out, NB523_524.out, NB524_523.out, NB525_524.out, NB524_525.out, GW525.out, GE525.out, NB522_525.out, NB525_522.out, NB523_525.out, NB525_523.out, (bL HB)⟩)
    ·skip
     refine box_step ?hg (N := 6) ?hd (cs := #[.int .u64 0, .int .u64 0]) (t := 60) ?hr ?_; (case hd => rfl); (case hg => rfl); (case hr => first | (go_simp; done) | (go_simp; rfl))
     intro gb525 hg w28 hbox hb
     have n0_ := blkB BK522 hb
     have n1_ := blkB BK523 hb
     have n2_ := Aside0.mk (below_step (bL HB) hb)
     have n3_ := Aside0.mk (hbox)
     have n4_ := Aside0.mk ((by rw [hg]; exact (below_size (bL HB)) : w.heap.size ≤ gb525))
     have n5_ := Aside0.mk ((by rw [hg]; exact (below_size (bL HB)) : w.heap.size ≤ gb525))
     have n6_ := blkL BK522 hg
     have n7_ := blkG BK522 hg
     have n8_ := blkL BK523 hg
     have n9_ := blkG BK523 hg
     clear BK522
     clear BK523
     clear HB
     have BK522 := n0_
     have BK523 := n1_
     have HB := n2_
     have BK525 := n3_
     have GW525 := n4_
     have GE525 := n5_
     have NB522_525 := n6_
     have NB525_522 := n7_
     have NB523_525 := n8_
     have NB525_523 := n9_
     clear n0_ n1_ n2_ n3_ n4_ n5_ n6_ n7_ n8_ n9_
     clear hb hbox hg
     refine hK.out _ _ ⟨(blk_cell BK522.out 0).trans rfl, (blk_cell BK522.out 1).trans rfl, (blk_cell BK523.out 0).trans rfl, (blk_cell BK523.out 1).trans rfl⟩ (fun hHeld => ?_)
     clear hK K
     refine norm_ (a' := ?_) ?_ ?_
     rotate_left
     ·show Act.put _ (some 6) _ = _
      simp only [Act.put, List.setIfInBounds_toArray, List.set_cons_zero, List.set_cons_succ, i64_w, i32_w]
      rfl
     refine one_ (i := 12) (N := some 5) ba_33_13 rfl rfl (one_of HT_.out (by kernel_rfl)) (by decide) (fun K hK => ?_)
     refine box_step ?hg (N := 5) ?hd (cs := #[.int .u64 0, .int .u64 0]) (t := 60) ?hr ?_; (case hd => rfl); (case hg => rfl); (case hr => first | (go_simp; done) | (go_simp; rfl))
     intro gb524 hg w29 hbox hb
     have n0_ := blkB BK522 hb
     have n1_ := blkB BK523 hb
     have n2_ := blkB BK525 hb
     have n3_ := Aside0.mk (below_step (bL HB) hb)
     have n4_ := Aside0.mk (hbox)
     have n5_ := Aside0.mk ((by rw [hg]; exact (below_size (bL HB)) : w.heap.size ≤ gb524))
     have n6_ := Aside0.mk ((by rw [hg]; exact (below_size (bL HB)) : w.heap.size ≤ gb524))
     have n7_ := blkL BK522 hg
     have n8_ := blkG BK522 hg
     have n9_ := blkL BK523 hg
     have n10_ := blkG BK523 hg
     have n11_ := blkL BK525 hg
     have n12_ := blkG BK525 hg
     clear BK522
     clear BK523
     clear BK525
     clear HB
     have BK522 := n0_
     have BK523 := n1_
     have BK525 := n2_
     have HB := n3_
     have BK524 := n4_
     have GW524 := n5_
     have GE524 := n6_
     have NB522_524 := n7_
     have NB524_522 := n8_
     have NB523_524 := n9_
     have NB524_523 := n10_
     have NB525_524 := n11_
     have NB524_525 := n12_
     clear n0_ n1_ n2_ n3_ n4_ n5_ n6_ n7_ n8_ n9_ n10_ n11_ n12_
     clear hb hbox hg
     refine hK.out _ _ ⟨(blk_cell BK522.out 0).trans rfl, (blk_cell BK522.out 1).trans rfl, (blk_cell BK523.out 0).trans rfl, (blk_cell BK523.out 1).trans rfl⟩ (fun hHeld => ?_)
     clear hK K
     refine norm_ (a' := ?_) ?_ ?_
     rotate_left
     ·show Act.put _ (some 5) _ = _
      simp only [Act.put, List.setIfInBounds_toArray, List.set_cons_zero, List.set_cons_succ, i64_w, i32_w]
      rfl
     exact norm_ (by simp only [putAll, Act.put, List.setIfInBounds_toArray, List.set_cons_zero, List.set_cons_succ]) (hCont (gb524, gb525) _ ⟨hHeld, (bN BK522), (bN BK523), (bN BK524), (bN BK525), GW524.out, GE524.out, NB522_524.out, NB524_522.out, NB523_524.out, NB524_523.out, NB525_524.out, NB524_525.out, GW525.out, GE525.out, NB522_525.out, NB525_522.out, NB523_525.out, NB525_523.out, (bL HB)⟩)
   rintro ⟨gb524, gb525⟩ w30 ⟨hS_, h0_, h1_, h2_, h3_, h4_, h5_, h6_, h7_, h8_, h9_, h10_, h11_, h12_, h13_, h14_, h15_, h16_, h17_, h18_⟩
   have n0_ : Aside0 (w30.heap[gb522]? = some (.cells #[.int .u64 a0_0, .int .u64 a0_1] 24 (0, 0))) := ⟨h0_⟩
   have n1_ : Aside0 (w30.heap[gb523]? = some (.cells #[.int .u64 a1_0, .int .u64 a1_1] 24 (0, 0))) := ⟨h1_⟩
   have n2_ : Aside0 (w30.heap[gb524]? = some (.cells #[.int .u64 0, .int .u64 0] 60 (0, 0))) := ⟨h2_⟩
   have n3_ : Aside0 (w30.heap[gb525]? = some (.cells #[.int .u64 0, .int .u64 0] 60 (0, 0))) := ⟨h3_⟩
   have n4_ : Aside0 (w.heap.size ≤ gb524) := ⟨h4_⟩
   have n5_ : Aside0 (w.heap.size ≤ gb524) := ⟨h5_⟩
   have n6_ : Aside0 (gb522 ≠ gb524) := ⟨h6_⟩
   have n7_ : Aside0 (gb524 ≠ gb522) := ⟨h7_⟩
   have n8_ : Aside0 (gb523 ≠ gb524) := ⟨h8_⟩
   have n9_ : Aside0 (gb524 ≠ gb523) := ⟨h9_⟩
   have n10_ : Aside0 (gb525 ≠ gb524) := ⟨h10_⟩
   have n11_ : Aside0 (gb524 ≠ gb525) := ⟨h11_⟩
   have n12_ : Aside0 (w.heap.size ≤ gb525) := ⟨h12_⟩
   have n13_ : Aside0 (w.heap.size ≤ gb525) := ⟨h13_⟩
   have n14_ : Aside0 (gb522 ≠ gb525) := ⟨h14_⟩
   have n15_ : Aside0 (gb525 ≠ gb522) := ⟨h15_⟩
   have n16_ : Aside0 (gb523 ≠ gb525) := ⟨h16_⟩
   have n17_ : Aside0 (gb525 ≠ gb523) := ⟨h17_⟩
   have n18_ : Aside0 (Below w.heap.size w w30) := ⟨h18_⟩
   clear BK522
   clear BK523
   clear HB
   clear h0_ h1_ h2_ h3_ h4_ h5_ h6_ h7_ h8_ h9_ h10_ h11_ h12_ h13_ h14_ h15_ h16_ h17_ h18_
   have BK522 := n0_
   have BK523 := n1_
   have BK524 := n2_
   have BK525 := n3_
   have GW524 := n4_
   have GE524 := n5_
   have NB522_524 := n6_
   have NB524_522 := n7_
   have NB523_524 := n8_
   have NB524_523 := n9_
   have NB525_524 := n10_
   have NB524_525 := n11_
   have GW525 := n12_
   have GE525 := n13_
   have NB522_525 := n14_
   have NB525_522 := n15_
   have NB523_525 := n16_
   have NB525_523 := n17_
   have HB := n18_
   clear n0_ n1_ n2_ n3_ n4_ n5_ n6_ n7_ n8_ n9_ n10_ n11_ n12_ n13_ n14_ n15_ n16_ n17_ n18_
   have hHeld : w30.cell? ⟨gb522, 0, none⟩ = some (.int .u64 a0_0) ∧ w30.cell? ⟨gb522, 1, none⟩ = some (.int .u64 a0_1) ∧ w30.cell? ⟨gb523, 0, none⟩ = some (.int .u64 a1_0) ∧ w30.cell? ⟨gb523, 1, none⟩ = some (.int .u64 a1_1) := hS_
   refine norm_ (a' := ?_) ?_ ?_
   rotate_left
   ·simp only [putAll, Act.put, List.setIfInBounds_toArray, List.set_cons_zero, List.set_cons_succ]
    rfl
   refine one_ (i := 14) (N := none) ba_33_16 rfl rfl (one_of HT_.out (by kernel_rfl)) (by decide) (fun K hK => ?_)
   have hs31 : w30.cell? ⟨gb524, 0, none⟩ = some (.int .u64 0) := (blk_cell BK524.out 0).trans rfl
   have hfs31 := blk_frozen BK524.out 0
   have hns31_0 := NB522_524.out
   have hns31_1 := NB523_524.out
   have hns31_3 := NB525_524.out
   have hms31_0 := NB524_522.out
   have hms31_1 := NB524_523.out
   have hms31_3 := NB524_525.out
   have hs32 : w30.cell? ⟨gb524, 1, none⟩ = some (.int .u64 0) := (blk_cell BK524.out 1).trans rfl
   have hfs32 := blk_frozen BK524.out 1
   have hns32_0 := NB522_524.out
   have hns32_1 := NB523_524.out
   have hns32_3 := NB525_524.out
   have hms32_0 := NB524_522.out
   have hms32_1 := NB524_523.out
   have hms32_3 := NB524_525.out
   refine skip_ (w1 := ?_) (by rfl) rfl ?_ ?_
   rotate_left
   ·go_simp
    rfl
   refine hK.out _ _ ⟨((cell_far (p := ⟨gb524, _, none⟩) NB522_524.out _).trans (((cell_far (p := ⟨gb524, _, none⟩) NB522_524.out _).trans (hHeld.1)))), ((cell_far (p := ⟨gb524, _, none⟩) NB522_524.out _).trans (((cell_far (p := ⟨gb524, _, none⟩) NB522_524.out _).trans (hHeld.2.1)))), ((cell_far (p := ⟨gb524, _, none⟩) NB523_524.out _).trans (((cell_far (p := ⟨gb524, _, none⟩) NB523_524.out _).trans (hHeld.2.2.1)))), ((cell_far (p := ⟨gb524, _, none⟩) NB523_524.out _).trans (((cell_far (p := ⟨gb524, _, none⟩) NB523_524.out _).trans (hHeld.2.2.2))))⟩ (fun hHeld => ?_)
   clear hK K
   refine one_ (i := 15) (N := none) ba_33_17 rfl rfl (one_of HT_.out (by kernel_rfl)) (by decide) (fun K hK => ?_)
   have hs33 : w30.cell? ⟨gb525, 0, none⟩ = some (.int .u64 0) := (blk_cell BK525.out 0).trans rfl
   have hfs33 := blk_frozen BK525.out 0
   have hns33_0 := NB522_525.out
   have hns33_1 := NB523_525.out
   have hns33_2 := NB524_525.out
   have hms33_0 := NB525_522.out
   have hms33_1 := NB525_523.out
   have hms33_2 := NB525_524.out
   have hs34 : w30.cell? ⟨gb525, 1, none⟩ = some (.int .u64 0) := (blk_cell BK525.out 1).trans rfl
   have hfs34 := blk_frozen BK525.out 1
   have hns34_0 := NB522_525.out
   have hns34_1 := NB523_525.out
   have hns34_2 := NB524_525.out
   have hms34_0 := NB525_522.out
   have hms34_1 := NB525_523.out
   have hms34_2 := NB525_524.out
   refine skip_ (w1 := ?_) (by rfl) rfl ?_ ?_
   rotate_left
   ·go_simp
    rfl
   refine hK.out _ _ ⟨((cell_far (p := ⟨gb525, _, none⟩) NB522_525.out _).trans (((cell_far (p := ⟨gb525, _, none⟩) NB522_525.out _).trans (hHeld.1)))), ((cell_far (p := ⟨gb525, _, none⟩) NB522_525.out _).trans (((cell_far (p := ⟨gb525, _, none⟩) NB522_525.out _).trans (hHeld.2.1)))), ((cell_far (p := ⟨gb525, _, none⟩) NB523_525.out _).trans (((cell_far (p := ⟨gb525, _, none⟩) NB523_525.out _).trans (hHeld.2.2.1)))), ((cell_far (p := ⟨gb525, _, none⟩) NB523_525.out _).trans (((cell_far (p := ⟨gb525, _, none⟩) NB523_525.out _).trans (hHeld.2.2.2))))⟩ (fun hHeld => ?_)
   clear hK K
   refine done_ (done_of HT_.out (by kernel_rfl)) ?_
   have hnb35 := NB524_522.out
   have hnc35 := NB522_524.out
   have hnb36 := NB524_523.out
   have hnc36 := NB523_524.out
   have hnb37 := NB524_525.out
   have hnc37 := NB525_524.out
   have hcz38_0 : w30.cell? ⟨gb524, 0, none⟩ = some (.int .u64 0) := (blk_cell BK524.out 0).trans rfl
   have hcz38_1 : w30.cell? ⟨gb524, 1, none⟩ = some (.int .u64 0) := (blk_cell BK524.out 1).trans rfl
   have hfz38_0 := blk_frozen BK524.out 0
   have hfz38_1 := blk_frozen BK524.out 1
   have hnb39 := NB525_522.out
   have hnc39 := NB522_525.out
   have hnb40 := NB525_523.out
   have hnc40 := NB523_525.out
   have hcz41_0 : w30.cell? ⟨gb525, 0, none⟩ = some (.int .u64 0) := (blk_cell BK525.out 0).trans rfl
   have hcz41_1 : w30.cell? ⟨gb525, 1, none⟩ = some (.int .u64 0) := (blk_cell BK525.out 1).trans rfl
   have hfz41_0 := blk_frozen BK525.out 0
   have hfz41_1 := blk_frozen BK525.out 1
   try go_wp2_with (first | ((with_reducible refine gate_callee (f := 44) rfl ?_); refine goesL_ (some 22) rfl rfl Try.func44 (by kernel_rfl) rfl #[.agg #[.int .u64 (Go.bits .xor .u64 a0_0 9223372036854775808), .int .u64 a0_1], .agg #[.int .u64 (Go.bits .xor .u64 a1_0 9223372036854775808), .int .u64 a1_1]] rfl (by (try simp only [List.map_toArray, List.map_cons, List.map_nil]); first | done | rfl | (simp only [List.length_drop, List.length_take]; rfl) | (go_simp; simp only [u8_w, w64_u8]; done) | (go_simp; simp only [u8_w, w64_u8]; rfl)) ?_; (with_reducible refine (wide_less.calls (Go.bits .xor .u64 a0_0 9223372036854775808) a0_1 (Go.bits .xor .u64 a1_0 9223372036854775808) a1_1 false _ A3.out).mono ?_); rintro e w42 ⟨rfl, hb⟩; refine ⟨_, rfl, ?_⟩; have n0_ := Aside0.mk (blk_below (g := gb522) (o := .cells #[.int .u64 a0_0, .int .u64 a0_1] 24 (0, 0)) (bF BK522) hb); have n1_ := Aside0.mk (blk_below (g := gb523) (o := .cells #[.int .u64 a1_0, .int .u64 a1_1] 24 (0, 0)) (bF BK523) hb); have n2_ := Aside0.mk (blk_below (g := gb524) (o := .cells #[.int .u64 (Go.bits .xor .u64 a0_0 9223372036854775808), .int .u64 a0_1] 60 (0, 0)) (by (with_reducible repeat (first | refine blk_drewN ?_ _ | refine blk_drew ?_ | refine blk_alloc ?_ _)); refine blk_far ?_ NB524_525.out _; (with_reducible repeat (first | refine blk_drewN ?_ _ | refine blk_drew ?_ | refine blk_alloc ?_ _)); refine blk_far ?_ NB524_525.out _; (with_reducible repeat (first | refine blk_drewN ?_ _ | refine blk_drew ?_ | refine blk_alloc ?_ _)); refine blk_put (cs := #[.int .u64 (Go.bits .xor .u64 a0_0 9223372036854775808), .int .u64 0]) ?_ 1 _ rfl; (with_reducible repeat (first | refine blk_drewN ?_ _ | refine blk_drew ?_ | refine blk_alloc ?_ _)); refine blk_put (cs := #[.int .u64 0, .int .u64 0]) ?_ 0 _ rfl; (with_reducible repeat (first | refine blk_drewN ?_ _ | refine blk_drew ?_ | refine blk_alloc ?_ _)); exact BK524.out) hb); have n3_ := Aside0.mk (blk_below (g := gb525) (o := .cells #[.int .u64 (Go.bits .xor .u64 a1_0 9223372036854775808), .int .u64 a1_1] 60 (0, 0)) (by (with_reducible repeat (first | refine blk_drewN ?_ _ | refine blk_drew ?_ | refine blk_alloc ?_ _)); refine blk_put (cs := #[.int .u64 (Go.bits .xor .u64 a1_0 9223372036854775808), .int .u64 0]) ?_ 1 _ rfl; (with_reducible repeat (first | refine blk_drewN ?_ _ | refine blk_drew ?_ | refine blk_alloc ?_ _)); refine blk_put (cs := #[.int .u64 0, .int .u64 0]) ?_ 0 _ rfl; (with_reducible repeat (first | refine blk_drewN ?_ _ | refine blk_drew ?_ | refine blk_alloc ?_ _)); refine blk_far ?_ NB525_524.out _; (with_reducible repeat (first | refine blk_drewN ?_ _ | refine blk_drew ?_ | refine blk_alloc ?_ _)); refine blk_far ?_ NB525_524.out _; (with_reducible repeat (first | refine blk_drewN ?_ _ | refine blk_drew ?_ | refine blk_alloc ?_ _)); exact BK525.out) hb); have n4_ := Aside0.mk (below_step (bL HB) hb); clear BK522 BK523 BK524 BK525 HB; have BK522 := n0_; have BK523 := n1_; have BK524 := n2_; have BK525 := n3_; have HB := n4_; clear n0_ n1_ n2_ n3_ n4_; (try clear hb); (try clear hb2); (try clear hk); (try clear hi); have hcz43_0 : w42.cell? ⟨gb525, 0, none⟩ = some (.int .u64 (Go.bits .xor .u64 a1_0 9223372036854775808)) := (blk_cell BK525.out 0).trans rfl; have hcz43_1 : w42.cell? ⟨gb525, 1, none⟩ = some (.int .u64 a1_1) := (blk_cell BK525.out 1).trans rfl; have hfz43_0 := blk_frozen BK525.out 0; have hfz43_1 := blk_frozen BK525.out 1; have hcz44_0 : w42.cell? ⟨gb524, 0, none⟩ = some (.int .u64 (Go.bits .xor .u64 a0_0 9223372036854775808)) := (blk_cell BK524.out 0).trans rfl; have hcz44_1 : w42.cell? ⟨gb524, 1, none⟩ = some (.int .u64 a0_1) := (blk_cell BK524.out 1).trans rfl; have hfz44_0 := blk_frozen BK524.out 0; have hfz44_1 := blk_frozen BK524.out 1) | ((with_reducible refine gate_callee (f := 44) rfl ?_); refine goesL_ (some 26) rfl rfl Try.func44 (by kernel_rfl) rfl #[.agg #[.int .u64 (Go.bits .xor .u64 a1_0 9223372036854775808), .int .u64 a1_1], .agg #[.int .u64 (Go.bits .xor .u64 a0_0 9223372036854775808), .int .u64 a0_1]] rfl (by (try simp only [List.map_toArray, List.map_cons, List.map_nil]); first | done | rfl | (simp only [List.length_drop, List.length_take]; rfl) | (go_simp; simp only [u8_w, w64_u8]; done) | (go_simp; simp only [u8_w, w64_u8]; rfl)) ?_; (with_reducible refine (wide_less.calls (Go.bits .xor .u64 a1_0 9223372036854775808) a1_1 (Go.bits .xor .u64 a0_0 9223372036854775808) a0_1 true _ A23.out).mono ?_); rintro e w45 ⟨rfl, hb⟩; refine ⟨_, rfl, ?_⟩; have n0_ := blkB BK522 hb; have n1_ := blkB BK523 hb; have n2_ := blkB BK524 hb; have n3_ := blkB BK525 hb; have n4_ := Aside0.mk (below_step (bL HB) hb); clear BK522 BK523 BK524 BK525 HB; have BK522 := n0_; have BK523 := n1_; have BK524 := n2_; have BK525 := n3_; have HB := n4_; clear n0_ n1_ n2_ n3_ n4_; (try clear hb); (try clear hb2); (try clear hk); (try clear hi)))
   go_ret
   exact ⟨by first | rfl | (simp [errW_none, errW_some] <;> rfl) | (simp [*, errW_none, errW_some] <;> rfl), by repeat (first | (with_reducible first | exact HB.out | apply below_alloc | apply pw_below_drewN | apply below_drew1 | refine below_set ?_ GE522.out | refine below_set ?_ GE523.out | refine below_set ?_ GE524.out | refine below_set ?_ GE525.out) | exact HB.out)⟩
  ·replace c24 := Bool.eq_false_iff.mpr c24
   subst c24
   have H1 : (some 0) = some r := by rw [if_neg (show ¬ (false = true) by decide)] at H; exact H
   clear H
   have H := H1
   clear H1
   obtain rfl := Option.some.inj H
   go_enter Try.func27, Try.ntmps27
   try go_wp2_with (first | ((with_reducible refine gate_dst (N := 2) rfl ?_); refine box_event ?hg (N := 2) ?hd (cs := #[.int .u64 a0_0, .int .u64 a0_1]) (t := 24) ?hr ?_; (case hd => rfl); (case hg => rfl); (case hr => first | (go_simp; done) | (go_simp; rfl)); intro gb522 hg w46 hbox hb; have n0_ := Aside0.mk (below_step (bL HB) hb); have n1_ := Aside0.mk (hbox); have n2_ := Aside0.mk ((by rw [hg]; exact (below_size (bL HB)) : w.heap.size ≤ gb522)); have n3_ := Aside0.mk ((by rw [hg]; exact (below_size (bL HB)) : w.heap.size ≤ gb522)); clear HB; have HB := n0_; have BK522 := n1_; have GW522 := n2_; have GE522 := n3_; clear n0_ n1_ n2_ n3_; clear hb hbox hg) | ((with_reducible refine gate_dst (N := 3) rfl ?_); refine box_event ?hg (N := 3) ?hd (cs := #[.int .u64 a1_0, .int .u64 a1_1]) (t := 24) ?hr ?_; (case hd => rfl); (case hg => rfl); (case hr => first | (go_simp; done) | (go_simp; rfl)); intro gb523 hg w47 hbox hb; have n0_ := blkB BK522 hb; have n1_ := Aside0.mk (below_step (bL HB) hb); have n2_ := Aside0.mk (hbox); have n3_ := Aside0.mk ((by rw [hg]; exact (below_size (bL HB)) : w.heap.size ≤ gb523)); have n4_ := Aside0.mk ((by rw [hg]; exact (below_size (bL HB)) : w.heap.size ≤ gb523)); have n5_ := blkL BK522 hg; have n6_ := blkG BK522 hg; clear BK522 HB; have BK522 := n0_; have HB := n1_; have BK523 := n2_; have GW523 := n3_; have GE523 := n4_; have NB522_523 := n5_; have NB523_522 := n6_; clear n0_ n1_ n2_ n3_ n4_ n5_ n6_; clear hb hbox hg))
   have n0_ := Aside0.mk (blk_drew BK522.out)
   have n1_ := Aside0.mk (blk_drew BK523.out)
   have n2_ := Aside0.mk (below_drew1 HB.out)
   clear BK522
   clear BK523
   clear HB
   have BK522 := n0_
   have BK523 := n1_
   have HB := n2_
   clear n0_ n1_ n2_
   refine start_ (n := 16) (S := fun w' => w'.cell? ⟨gb522, 0, none⟩ = some (.int .u64 a0_0) ∧ w'.cell? ⟨gb522, 1, none⟩ = some (.int .u64 a0_1) ∧ w'.cell? ⟨gb523, 0, none⟩ = some (.int .u64 a1_0) ∧ w'.cell? ⟨gb523, 1, none⟩ = some (.int .u64 a1_1)) (ds := []) ba_33_0 (by kernel_rfl) rfl rfl ⟨(blk_cell BK522.out 0).trans rfl, (blk_cell BK522.out 1).trans rfl, (blk_cell BK523.out 0).trans rfl, (blk_cell BK523.out 1).trans rfl⟩ (fun hHeld => ?_); refine with_tabW wide_Cmp.tab1 wide_Cmp.bits1 (fun HT_ HW_ => ?_)
   generalize w47.drew = w48 at BK522 BK523 HB hHeld ⊢
   refine pure_ (i := 0) (N := some 7) (v := ?_) (a' := ?_) ba_33_1 rfl rfl (any_of HT_.out (by kernel_rfl)) (fun _ _ _ h => h) (Or.inl ⟨by rfl, ?_⟩) ?_ ?_
   rotate_left
   ·intro w'
    go_simp
    with_reducible rfl
   rotate_left
   ·simp only [Act.put, List.setIfInBounds_toArray, List.set_cons_zero, List.set_cons_succ, i64_w, i32_w]
    rfl
   refine pure_ (i := 3) (N := some 10) (v := ?_) (a' := ?_) ba_33_2 rfl rfl (any_of HT_.out (by kernel_rfl)) (fun _ _ _ h => h) (Or.inl ⟨by rfl, ?_⟩) ?_ ?_
   rotate_left
   ·intro w'
    go_simp
    with_reducible rfl
   rotate_left
   ·simp only [Act.put, List.setIfInBounds_toArray, List.set_cons_zero, List.set_cons_succ, i64_w, i32_w]
    rfl
   refine pure_ (i := 6) (N := some 13) (v := ?_) (a' := ?_) ba_33_3 rfl rfl (any_of HT_.out (by kernel_rfl)) (fun _ _ _ h => h) (Or.inl ⟨by rfl, ?_⟩) ?_ ?_
   rotate_left
   ·intro w'
    go_simp
    with_reducible rfl
   rotate_left
   ·simp only [Act.put, List.setIfInBounds_toArray, List.set_cons_zero, List.set_cons_succ, i64_w, i32_w]
    rfl
   refine pure_ (i := 9) (N := some 16) (v := ?_) (a' := ?_) ba_33_4 rfl rfl (any_of HT_.out (by kernel_rfl)) (fun _ _ _ h => h) (Or.inl ⟨by rfl, ?_⟩) ?_ ?_
   rotate_left
   ·intro w'
    go_simp
    with_reducible rfl
   rotate_left
   ·simp only [Act.put, List.setIfInBounds_toArray, List.set_cons_zero, List.set_cons_succ, i64_w, i32_w]
    rfl
   refine take_ (i := 1) (N := some 8) (v := ?_) (a' := ?_) ba_33_5 rfl rfl (take_ofW HT_.out HW_.out (by kernel_rfl)) (fun _ _ _ h => h) (Or.inl ⟨by rfl, ?_⟩) hHeld ?_ ?_
   rotate_left
   ·rintro w' ⟨s0, s1, s2, s3⟩
    go_simp
    with_reducible rfl
   rotate_left
   ·simp only [Act.put, List.setIfInBounds_toArray, List.set_cons_zero, List.set_cons_succ, i64_w, i32_w]
    rfl
   refine pure_ (i := 2) (N := some 9) (v := ?_) (a' := ?_) ba_33_6 rfl rfl (any_of HT_.out (by kernel_rfl)) (fun _ _ _ h => h) (Or.inl ⟨by rfl, ?_⟩) ?_ ?_
   rotate_left
   ·intro w'
    go_simp
    with_reducible rfl
   rotate_left
   ·simp only [Act.put, List.setIfInBounds_toArray, List.set_cons_zero, List.set_cons_succ, i64_w, i32_w]
    rfl
   refine take_ (i := 4) (N := some 11) (v := ?_) (a' := ?_) ba_33_7 rfl rfl (take_ofW HT_.out HW_.out (by kernel_rfl)) (fun _ _ _ h => h) (Or.inl ⟨by rfl, ?_⟩) hHeld ?_ ?_
   rotate_left
   ·rintro w' ⟨s0, s1, s2, s3⟩
    go_simp
    with_reducible rfl
   rotate_left
   ·simp only [Act.put, List.setIfInBounds_toArray, List.set_cons_zero, List.set_cons_succ, i64_w, i32_w]
    rfl
   refine pure_ (i := 5) (N := some 12) (v := ?_) (a' := ?_) ba_33_8 rfl rfl (any_of HT_.out (by kernel_rfl)) (fun _ _ _ h => h) (Or.inl ⟨by rfl, ?_⟩) ?_ ?_
   rotate_left
   ·intro w'
    go_simp
    with_reducible rfl
   rotate_left
   ·simp only [Act.put, List.setIfInBounds_toArray, List.set_cons_zero, List.set_cons_succ, i64_w, i32_w]
    rfl
   refine take_ (i := 7) (N := some 14) (v := ?_) (a' := ?_) ba_33_9 rfl rfl (take_ofW HT_.out HW_.out (by kernel_rfl)) (fun _ _ _ h => h) (Or.inl ⟨by rfl, ?_⟩) hHeld ?_ ?_
   rotate_left
   ·rintro w' ⟨s0, s1, s2, s3⟩
    go_simp
    with_reducible rfl
   rotate_left
   ·simp only [Act.put, List.setIfInBounds_toArray, List.set_cons_zero, List.set_cons_succ, i64_w, i32_w]
    rfl
   refine pure_ (i := 8) (N := some 15) (v := ?_) (a' := ?_) ba_33_10 rfl rfl (any_of HT_.out (by kernel_rfl)) (fun _ _ _ h => h) (Or.inl ⟨by rfl, ?_⟩) ?_ ?_
   rotate_left
   ·intro w'
    go_simp
    with_reducible rfl
   rotate_left
   ·simp only [Act.put, List.setIfInBounds_toArray, List.set_cons_zero, List.set_cons_succ, i64_w, i32_w]
    rfl
   refine take_ (i := 10) (N := some 17) (v := ?_) (a' := ?_) ba_33_11 rfl rfl (take_ofW HT_.out HW_.out (by kernel_rfl)) (fun _ _ _ h => h) (Or.inl ⟨by rfl, ?_⟩) hHeld ?_ ?_
   rotate_left
   ·rintro w' ⟨s0, s1, s2, s3⟩
    go_simp
    with_reducible rfl
   rotate_left
   ·simp only [Act.put, List.setIfInBounds_toArray, List.set_cons_zero, List.set_cons_succ, i64_w, i32_w]
    rfl
   refine pure_ (i := 11) (N := some 18) (v := ?_) (a' := ?_) ba_33_12 rfl rfl (any_of HT_.out (by kernel_rfl)) (fun _ _ _ h => h) (Or.inl ⟨by rfl, ?_⟩) ?_ ?_
   rotate_left
   ·intro w'
    go_simp
    with_reducible rfl
   rotate_left
   ·simp only [Act.put, List.setIfInBounds_toArray, List.set_cons_zero, List.set_cons_succ, i64_w, i32_w]
    rfl
   refine join_ (σ := Nat × Nat) 2 ba_33_13 (fun s_ => [(5, .pointer (some ⟨s_.1, 0, none⟩)), (6, .pointer (some ⟨s_.2, 0, none⟩))]) (fun s_ w' => (w'.cell? ⟨gb522, 0, none⟩ = some (.int .u64 a0_0) ∧ w'.cell? ⟨gb522, 1, none⟩ = some (.int .u64 a0_1) ∧ w'.cell? ⟨gb523, 0, none⟩ = some (.int .u64 a1_0) ∧ w'.cell? ⟨gb523, 1, none⟩ = some (.int .u64 a1_1)) ∧ (w'.heap[gb522]? = some (.cells #[.int .u64 a0_0, .int .u64 a0_1] 24 (0, 0))) ∧ (w'.heap[gb523]? = some (.cells #[.int .u64 a1_0, .int .u64 a1_1] 24 (0, 0))) ∧ (w'.heap[s_.1]? = some (.cells #[.int .u64 0, .int .u64 0] 60 (0, 0))) ∧ (w'.heap[s_.2]? = some (.cells #[.int .u64 0, .int .u64 0] 60 (0, 0))) ∧ (w.heap.size ≤ s_.1) ∧ (w.heap.size ≤ s_.1) ∧ (gb522 ≠ s_.1) ∧ (s_.1 ≠ gb522) ∧ (gb523 ≠ s_.1) ∧ (s_.1 ≠ gb523) ∧ (s_.2 ≠ s_.1) ∧ (s_.1 ≠ s_.2) ∧ (w.heap.size ≤ s_.2) ∧ (w.heap.size ≤ s_.2) ∧ (gb522 ≠ s_.2) ∧ (s_.2 ≠ gb522) ∧ (gb523 ≠ s_.2) ∧ (s_.2 ≠ gb523) ∧ (Below w.heap.size w w')) ?_ ?_
   rotate_left
   ·intro hCont
    refine two_ (i := 12) (j := 13) (Ni := some 5) (Nj := some 6) ba_33_14 ba_33_15 rfl rfl rfl rfl (two_of HT_.out (by kernel_rfl)) (by decide) (by decide) (fun K hK => ?_) (fun K hK => ?_)
    ·skip
     refine box_step ?hg (N := 5) ?hd (cs := #[.int .u64 0, .int .u64 0]) (t := 60) ?hr ?_; (case hd => rfl); (case hg => rfl); (case hr => first | (go_simp; done) | (go_simp; rfl))
     intro gb524 hg w49 hbox hb
     have n0_ := blkB BK522 hb
     have n1_ := blkB BK523 hb
     have n2_ := Aside0.mk (below_step (bL HB) hb)
     have n3_ := Aside0.mk (hbox)
     have n4_ := Aside0.mk ((by rw [hg]; exact (below_size (bL HB)) : w.heap.size ≤ gb524))
     have n5_ := Aside0.mk ((by rw [hg]; exact (below_size (bL HB)) : w.heap.size ≤ gb524))
     have n6_ := blkL BK522 hg
     have n7_ := blkG BK522 hg
     have n8_ := blkL BK523 hg
     have n9_ := blkG BK523 hg
     clear BK522
     clear BK523
     clear HB
     have BK522 := n0_
     have BK523 := n1_
     have HB := n2_
     have BK524 := n3_
     have GW524 := n4_
     have GE524 := n5_
     have NB522_524 := n6_
     have NB524_522 := n7_
     have NB523_524 := n8_
     have NB524_523 := n9_
     clear n0_ n1_ n2_ n3_ n4_ n5_ n6_ n7_ n8_ n9_
     clear hb hbox hg
     refine hK.out _ _ ⟨(blk_cell BK522.out 0).trans rfl, (blk_cell BK522.out 1).trans rfl, (blk_cell BK523.out 0).trans rfl, (blk_cell BK523.out 1).trans rfl⟩ (fun hHeld => ?_)
     clear hK K
     refine norm_ (a' := ?_) ?_ ?_
     rotate_left
     ·show Act.put _ (some 5) _ = _
      simp only [Act.put, List.setIfInBounds_toArray, List.set_cons_zero, List.set_cons_succ, i64_w, i32_w]
      rfl
     refine one_ (i := 13) (N := some 6) ba_33_13 rfl rfl (one_of HT_.out (by kernel_rfl)) (by decide) (fun K hK => ?_)
     refine box_step ?hg (N := 6) ?hd (cs := #[.int .u64 0, .int .u64 0]) (t := 60) ?hr ?_; (case hd => rfl); (case hg => rfl); (case hr => first | (go_simp; done) | (go_simp; rfl))
     intro gb525 hg w50 hbox hb
     have n0_ := blkB BK522 hb
     have n1_ := blkB BK523 hb
     have n2_ := blkB BK524 hb
     have n3_ := Aside0.mk (below_step (bL HB) hb)
     have n4_ := Aside0.mk (hbox)
     have n5_ := Aside0.mk ((by rw [hg]; exact (below_size (bL HB)) : w.heap.size ≤ gb525))
     have n6_ := Aside0.mk ((by rw [hg]; exact (below_size (bL HB)) : w.heap.size ≤ gb525))
     have n7_ := blkL BK522 hg
     have n8_ := blkG BK522 hg
     have n9_ := blkL BK523 hg
     have n10_ := blkG BK523 hg
     have n11_ := blkL BK524 hg
     have n12_ := blkG BK524 hg
     clear BK522
     clear BK523
     clear BK524
     clear HB
     have BK522 := n0_
     have BK523 := n1_
     have BK524 := n2_
     have HB := n3_
     have BK525 := n4_
     have GW525 := n5_
     have GE525 := n6_
     have NB522_525 := n7_
     have NB525_522 := n8_
     have NB523_525 := n9_
     have NB525_523 := n10_
     have NB524_525 := n11_
     have NB525_524 := n12_
     clear n0_ n1_ n2_ n3_ n4_ n5_ n6_ n7_ n8_ n9_ n10_ n11_ n12_
     clear hb hbox hg
     refine hK.out _ _ ⟨(blk_cell BK522.out 0).trans rfl, (blk_cell BK522.out 1).trans rfl, (blk_cell BK523.out 0).trans rfl, (blk_cell BK523.out 1).trans rfl⟩ (fun hHeld => ?_)
     clear hK K
     refine norm_ (a' := ?_) ?_ ?_
     rotate_left
     ·show Act.put _ (some 6) _ = _
      simp only [Act.put, List.setIfInBounds_toArray, List.set_cons_zero, List.set_cons_succ, i64_w, i32_w]
      rfl
     exact norm_ (by simp only [putAll, Act.put, List.setIfInBounds_toArray, List.set_cons_zero, List.set_cons_succ]) (hCont (gb524, gb525) _ ⟨hHeld, (bN BK522), (bN BK523), (bN BK524), (bN BK525), GW524.out, GE524.out, NB522_524.out, NB524_522.out, NB523_524.out, NB524_523.out, NB525_524.out, NB524_525.out, GW525.out, GE525.out, NB522_525.out, NB525_522.out, NB523_525.out, NB525_523.out, (bL HB)⟩)
    ·skip
     refine box_step ?hg (N := 6) ?hd (cs := #[.int .u64 0, .int .u64 0]) (t := 60) ?hr ?_; (case hd => rfl); (case hg => rfl); (case hr => first | (go_simp; done) | (go_simp; rfl))
     intro gb525 hg w49 hbox hb
     have n0_ := blkB BK522 hb
     have n1_ := blkB BK523 hb
     have n2_ := Aside0.mk (below_step (bL HB) hb)
     have n3_ := Aside0.mk (hbox)
     have n4_ := Aside0.mk ((by rw [hg]; exact (below_size (bL HB)) : w.heap.size ≤ gb525))
     have n5_ := Aside0.mk ((by rw [hg]; exact (below_size (bL HB)) : w.heap.size ≤ gb525))
     have n6_ := blkL BK522 hg
     have n7_ := blkG BK522 hg
     have n8_ := blkL BK523 hg
     have n9_ := blkG BK523 hg
     clear BK522
     clear BK523
     clear HB
     have BK522 := n0_
     have BK523 := n1_
     have HB := n2_
     have BK525 := n3_
     have GW525 := n4_
     have GE525 := n5_
     have NB522_525 := n6_
     have NB525_522 := n7_
     have NB523_525 := n8_
     have NB525_523 := n9_
     clear n0_ n1_ n2_ n3_ n4_ n5_ n6_ n7_ n8_ n9_
     clear hb hbox hg
     refine hK.out _ _ ⟨(blk_cell BK522.out 0).trans rfl, (blk_cell BK522.out 1).trans rfl, (blk_cell BK523.out 0).trans rfl, (blk_cell BK523.out 1).trans rfl⟩ (fun hHeld => ?_)
     clear hK K
     refine norm_ (a' := ?_) ?_ ?_
     rotate_left
     ·show Act.put _ (some 6) _ = _
      simp only [Act.put, List.setIfInBounds_toArray, List.set_cons_zero, List.set_cons_succ, i64_w, i32_w]
      rfl
     refine one_ (i := 12) (N := some 5) ba_33_13 rfl rfl (one_of HT_.out (by kernel_rfl)) (by decide) (fun K hK => ?_)
     refine box_step ?hg (N := 5) ?hd (cs := #[.int .u64 0, .int .u64 0]) (t := 60) ?hr ?_; (case hd => rfl); (case hg => rfl); (case hr => first | (go_simp; done) | (go_simp; rfl))
     intro gb524 hg w50 hbox hb
     have n0_ := blkB BK522 hb
     have n1_ := blkB BK523 hb
     have n2_ := blkB BK525 hb
     have n3_ := Aside0.mk (below_step (bL HB) hb)
     have n4_ := Aside0.mk (hbox)
     have n5_ := Aside0.mk ((by rw [hg]; exact (below_size (bL HB)) : w.heap.size ≤ gb524))
     have n6_ := Aside0.mk ((by rw [hg]; exact (below_size (bL HB)) : w.heap.size ≤ gb524))
     have n7_ := blkL BK522 hg
     have n8_ := blkG BK522 hg
     have n9_ := blkL BK523 hg
     have n10_ := blkG BK523 hg
     have n11_ := blkL BK525 hg
     have n12_ := blkG BK525 hg
     clear BK522
     clear BK523
     clear BK525
     clear HB
     have BK522 := n0_
     have BK523 := n1_
     have BK525 := n2_
     have HB := n3_
     have BK524 := n4_
     have GW524 := n5_
     have GE524 := n6_
     have NB522_524 := n7_
     have NB524_522 := n8_
     have NB523_524 := n9_
     have NB524_523 := n10_
     have NB525_524 := n11_
     have NB524_525 := n12_
     clear n0_ n1_ n2_ n3_ n4_ n5_ n6_ n7_ n8_ n9_ n10_ n11_ n12_
     clear hb hbox hg
     refine hK.out _ _ ⟨(blk_cell BK522.out 0).trans rfl, (blk_cell BK522.out 1).trans rfl, (blk_cell BK523.out 0).trans rfl, (blk_cell BK523.out 1).trans rfl⟩ (fun hHeld => ?_)
     clear hK K
     refine norm_ (a' := ?_) ?_ ?_
     rotate_left
     ·show Act.put _ (some 5) _ = _
      simp only [Act.put, List.setIfInBounds_toArray, List.set_cons_zero, List.set_cons_succ, i64_w, i32_w]
      rfl
     exact norm_ (by simp only [putAll, Act.put, List.setIfInBounds_toArray, List.set_cons_zero, List.set_cons_succ]) (hCont (gb524, gb525) _ ⟨hHeld, (bN BK522), (bN BK523), (bN BK524), (bN BK525), GW524.out, GE524.out, NB522_524.out, NB524_522.out, NB523_524.out, NB524_523.out, NB525_524.out, NB524_525.out, GW525.out, GE525.out, NB522_525.out, NB525_522.out, NB523_525.out, NB525_523.out, (bL HB)⟩)
   rintro ⟨gb524, gb525⟩ w51 ⟨hS_, h0_, h1_, h2_, h3_, h4_, h5_, h6_, h7_, h8_, h9_, h10_, h11_, h12_, h13_, h14_, h15_, h16_, h17_, h18_⟩
   have n0_ : Aside0 (w51.heap[gb522]? = some (.cells #[.int .u64 a0_0, .int .u64 a0_1] 24 (0, 0))) := ⟨h0_⟩
   have n1_ : Aside0 (w51.heap[gb523]? = some (.cells #[.int .u64 a1_0, .int .u64 a1_1] 24 (0, 0))) := ⟨h1_⟩
   have n2_ : Aside0 (w51.heap[gb524]? = some (.cells #[.int .u64 0, .int .u64 0] 60 (0, 0))) := ⟨h2_⟩
   have n3_ : Aside0 (w51.heap[gb525]? = some (.cells #[.int .u64 0, .int .u64 0] 60 (0, 0))) := ⟨h3_⟩
   have n4_ : Aside0 (w.heap.size ≤ gb524) := ⟨h4_⟩
   have n5_ : Aside0 (w.heap.size ≤ gb524) := ⟨h5_⟩
   have n6_ : Aside0 (gb522 ≠ gb524) := ⟨h6_⟩
   have n7_ : Aside0 (gb524 ≠ gb522) := ⟨h7_⟩
   have n8_ : Aside0 (gb523 ≠ gb524) := ⟨h8_⟩
   have n9_ : Aside0 (gb524 ≠ gb523) := ⟨h9_⟩
   have n10_ : Aside0 (gb525 ≠ gb524) := ⟨h10_⟩
   have n11_ : Aside0 (gb524 ≠ gb525) := ⟨h11_⟩
   have n12_ : Aside0 (w.heap.size ≤ gb525) := ⟨h12_⟩
   have n13_ : Aside0 (w.heap.size ≤ gb525) := ⟨h13_⟩
   have n14_ : Aside0 (gb522 ≠ gb525) := ⟨h14_⟩
   have n15_ : Aside0 (gb525 ≠ gb522) := ⟨h15_⟩
   have n16_ : Aside0 (gb523 ≠ gb525) := ⟨h16_⟩
   have n17_ : Aside0 (gb525 ≠ gb523) := ⟨h17_⟩
   have n18_ : Aside0 (Below w.heap.size w w51) := ⟨h18_⟩
   clear BK522
   clear BK523
   clear HB
   clear h0_ h1_ h2_ h3_ h4_ h5_ h6_ h7_ h8_ h9_ h10_ h11_ h12_ h13_ h14_ h15_ h16_ h17_ h18_
   have BK522 := n0_
   have BK523 := n1_
   have BK524 := n2_
   have BK525 := n3_
   have GW524 := n4_
   have GE524 := n5_
   have NB522_524 := n6_
   have NB524_522 := n7_
   have NB523_524 := n8_
   have NB524_523 := n9_
   have NB525_524 := n10_
   have NB524_525 := n11_
   have GW525 := n12_
   have GE525 := n13_
   have NB522_525 := n14_
   have NB525_522 := n15_
   have NB523_525 := n16_
   have NB525_523 := n17_
   have HB := n18_
   clear n0_ n1_ n2_ n3_ n4_ n5_ n6_ n7_ n8_ n9_ n10_ n11_ n12_ n13_ n14_ n15_ n16_ n17_ n18_
   have hHeld : w51.cell? ⟨gb522, 0, none⟩ = some (.int .u64 a0_0) ∧ w51.cell? ⟨gb522, 1, none⟩ = some (.int .u64 a0_1) ∧ w51.cell? ⟨gb523, 0, none⟩ = some (.int .u64 a1_0) ∧ w51.cell? ⟨gb523, 1, none⟩ = some (.int .u64 a1_1) := hS_
   refine norm_ (a' := ?_) ?_ ?_
   rotate_left
   ·simp only [putAll, Act.put, List.setIfInBounds_toArray, List.set_cons_zero, List.set_cons_succ]
    rfl
   refine one_ (i := 14) (N := none) ba_33_16 rfl rfl (one_of HT_.out (by kernel_rfl)) (by decide) (fun K hK => ?_)
   have hs52 : w51.cell? ⟨gb524, 0, none⟩ = some (.int .u64 0) := (blk_cell BK524.out 0).trans rfl
   have hfs52 := blk_frozen BK524.out 0
   have hns52_0 := NB522_524.out
   have hns52_1 := NB523_524.out
   have hns52_3 := NB525_524.out
   have hms52_0 := NB524_522.out
   have hms52_1 := NB524_523.out
   have hms52_3 := NB524_525.out
   have hs53 : w51.cell? ⟨gb524, 1, none⟩ = some (.int .u64 0) := (blk_cell BK524.out 1).trans rfl
   have hfs53 := blk_frozen BK524.out 1
   have hns53_0 := NB522_524.out
   have hns53_1 := NB523_524.out
   have hns53_3 := NB525_524.out
   have hms53_0 := NB524_522.out
   have hms53_1 := NB524_523.out
   have hms53_3 := NB524_525.out
   refine skip_ (w1 := ?_) (by rfl) rfl ?_ ?_
   rotate_left
   ·go_simp
    rfl
   refine hK.out _ _ ⟨((cell_far (p := ⟨gb524, _, none⟩) NB522_524.out _).trans (((cell_far (p := ⟨gb524, _, none⟩) NB522_524.out _).trans (hHeld.1)))), ((cell_far (p := ⟨gb524, _, none⟩) NB522_524.out _).trans (((cell_far (p := ⟨gb524, _, none⟩) NB522_524.out _).trans (hHeld.2.1)))), ((cell_far (p := ⟨gb524, _, none⟩) NB523_524.out _).trans (((cell_far (p := ⟨gb524, _, none⟩) NB523_524.out _).trans (hHeld.2.2.1)))), ((cell_far (p := ⟨gb524, _, none⟩) NB523_524.out _).trans (((cell_far (p := ⟨gb524, _, none⟩) NB523_524.out _).trans (hHeld.2.2.2))))⟩ (fun hHeld => ?_)
   clear hK K
   refine one_ (i := 15) (N := none) ba_33_17 rfl rfl (one_of HT_.out (by kernel_rfl)) (by decide) (fun K hK => ?_)
   have hs54 : w51.cell? ⟨gb525, 0, none⟩ = some (.int .u64 0) := (blk_cell BK525.out 0).trans rfl
   have hfs54 := blk_frozen BK525.out 0
   have hns54_0 := NB522_525.out
   have hns54_1 := NB523_525.out
   have hns54_2 := NB524_525.out
   have hms54_0 := NB525_522.out
   have hms54_1 := NB525_523.out
   have hms54_2 := NB525_524.out
   have hs55 : w51.cell? ⟨gb525, 1, none⟩ = some (.int .u64 0) := (blk_cell BK525.out 1).trans rfl
   have hfs55 := blk_frozen BK525.out 1
   have hns55_0 := NB522_525.out
   have hns55_1 := NB523_525.out
   have hns55_2 := NB524_525.out
   have hms55_0 := NB525_522.out
   have hms55_1 := NB525_523.out
   have hms55_2 := NB525_524.out
   refine skip_ (w1 := ?_) (by rfl) rfl ?_ ?_
   rotate_left
   ·go_simp
    rfl
   refine hK.out _ _ ⟨((cell_far (p := ⟨gb525, _, none⟩) NB522_525.out _).trans (((cell_far (p := ⟨gb525, _, none⟩) NB522_525.out _).trans (hHeld.1)))), ((cell_far (p := ⟨gb525, _, none⟩) NB522_525.out _).trans (((cell_far (p := ⟨gb525, _, none⟩) NB522_525.out _).trans (hHeld.2.1)))), ((cell_far (p := ⟨gb525, _, none⟩) NB523_525.out _).trans (((cell_far (p := ⟨gb525, _, none⟩) NB523_525.out _).trans (hHeld.2.2.1)))), ((cell_far (p := ⟨gb525, _, none⟩) NB523_525.out _).trans (((cell_far (p := ⟨gb525, _, none⟩) NB523_525.out _).trans (hHeld.2.2.2))))⟩ (fun hHeld => ?_)
   clear hK K
   refine done_ (done_of HT_.out (by kernel_rfl)) ?_
   have hnb56 := NB524_522.out
   have hnc56 := NB522_524.out
   have hnb57 := NB524_523.out
   have hnc57 := NB523_524.out
   have hnb58 := NB524_525.out
   have hnc58 := NB525_524.out
   have hcz59_0 : w51.cell? ⟨gb524, 0, none⟩ = some (.int .u64 0) := (blk_cell BK524.out 0).trans rfl
   have hcz59_1 : w51.cell? ⟨gb524, 1, none⟩ = some (.int .u64 0) := (blk_cell BK524.out 1).trans rfl
   have hfz59_0 := blk_frozen BK524.out 0
   have hfz59_1 := blk_frozen BK524.out 1
   have hnb60 := NB525_522.out
   have hnc60 := NB522_525.out
   have hnb61 := NB525_523.out
   have hnc61 := NB523_525.out
   have hcz62_0 : w51.cell? ⟨gb525, 0, none⟩ = some (.int .u64 0) := (blk_cell BK525.out 0).trans rfl
   have hcz62_1 : w51.cell? ⟨gb525, 1, none⟩ = some (.int .u64 0) := (blk_cell BK525.out 1).trans rfl
   have hfz62_0 := blk_frozen BK525.out 0
   have hfz62_1 := blk_frozen BK525.out 1
   try go_wp2_with (first | ((with_reducible refine gate_callee (f := 44) rfl ?_); refine goesL_ (some 22) rfl rfl Try.func44 (by kernel_rfl) rfl #[.agg #[.int .u64 (Go.bits .xor .u64 a0_0 9223372036854775808), .int .u64 a0_1], .agg #[.int .u64 (Go.bits .xor .u64 a1_0 9223372036854775808), .int .u64 a1_1]] rfl (by (try simp only [List.map_toArray, List.map_cons, List.map_nil]); first | done | rfl | (simp only [List.length_drop, List.length_take]; rfl) | (go_simp; simp only [u8_w, w64_u8]; done) | (go_simp; simp only [u8_w, w64_u8]; rfl)) ?_; (with_reducible refine (wide_less.calls (Go.bits .xor .u64 a0_0 9223372036854775808) a0_1 (Go.bits .xor .u64 a1_0 9223372036854775808) a1_1 false _ A3.out).mono ?_); rintro e w63 ⟨rfl, hb⟩; refine ⟨_, rfl, ?_⟩; have n0_ := Aside0.mk (blk_below (g := gb522) (o := .cells #[.int .u64 a0_0, .int .u64 a0_1] 24 (0, 0)) (bF BK522) hb); have n1_ := Aside0.mk (blk_below (g := gb523) (o := .cells #[.int .u64 a1_0, .int .u64 a1_1] 24 (0, 0)) (bF BK523) hb); have n2_ := Aside0.mk (blk_below (g := gb524) (o := .cells #[.int .u64 (Go.bits .xor .u64 a0_0 9223372036854775808), .int .u64 a0_1] 60 (0, 0)) (by (with_reducible repeat (first | refine blk_drewN ?_ _ | refine blk_drew ?_ | refine blk_alloc ?_ _)); refine blk_far ?_ NB524_525.out _; (with_reducible repeat (first | refine blk_drewN ?_ _ | refine blk_drew ?_ | refine blk_alloc ?_ _)); refine blk_far ?_ NB524_525.out _; (with_reducible repeat (first | refine blk_drewN ?_ _ | refine blk_drew ?_ | refine blk_alloc ?_ _)); refine blk_put (cs := #[.int .u64 (Go.bits .xor .u64 a0_0 9223372036854775808), .int .u64 0]) ?_ 1 _ rfl; (with_reducible repeat (first | refine blk_drewN ?_ _ | refine blk_drew ?_ | refine blk_alloc ?_ _)); refine blk_put (cs := #[.int .u64 0, .int .u64 0]) ?_ 0 _ rfl; (with_reducible repeat (first | refine blk_drewN ?_ _ | refine blk_drew ?_ | refine blk_alloc ?_ _)); exact BK524.out) hb); have n3_ := Aside0.mk (blk_below (g := gb525) (o := .cells #[.int .u64 (Go.bits .xor .u64 a1_0 9223372036854775808), .int .u64 a1_1] 60 (0, 0)) (by (with_reducible repeat (first | refine blk_drewN ?_ _ | refine blk_drew ?_ | refine blk_alloc ?_ _)); refine blk_put (cs := #[.int .u64 (Go.bits .xor .u64 a1_0 9223372036854775808), .int .u64 0]) ?_ 1 _ rfl; (with_reducible repeat (first | refine blk_drewN ?_ _ | refine blk_drew ?_ | refine blk_alloc ?_ _)); refine blk_put (cs := #[.int .u64 0, .int .u64 0]) ?_ 0 _ rfl; (with_reducible repeat (first | refine blk_drewN ?_ _ | refine blk_drew ?_ | refine blk_alloc ?_ _)); refine blk_far ?_ NB525_524.out _; (with_reducible repeat (first | refine blk_drewN ?_ _ | refine blk_drew ?_ | refine blk_alloc ?_ _)); refine blk_far ?_ NB525_524.out _; (with_reducible repeat (first | refine blk_drewN ?_ _ | refine blk_drew ?_ | refine blk_alloc ?_ _)); exact BK525.out) hb); have n4_ := Aside0.mk (below_step (bL HB) hb); clear BK522 BK523 BK524 BK525 HB; have BK522 := n0_; have BK523 := n1_; have BK524 := n2_; have BK525 := n3_; have HB := n4_; clear n0_ n1_ n2_ n3_ n4_; (try clear hb); (try clear hb2); (try clear hk); (try clear hi); have hcz64_0 : w63.cell? ⟨gb525, 0, none⟩ = some (.int .u64 (Go.bits .xor .u64 a1_0 9223372036854775808)) := (blk_cell BK525.out 0).trans rfl; have hcz64_1 : w63.cell? ⟨gb525, 1, none⟩ = some (.int .u64 a1_1) := (blk_cell BK525.out 1).trans rfl; have hfz64_0 := blk_frozen BK525.out 0; have hfz64_1 := blk_frozen BK525.out 1; have hcz65_0 : w63.cell? ⟨gb524, 0, none⟩ = some (.int .u64 (Go.bits .xor .u64 a0_0 9223372036854775808)) := (blk_cell BK524.out 0).trans rfl; have hcz65_1 : w63.cell? ⟨gb524, 1, none⟩ = some (.int .u64 a0_1) := (blk_cell BK524.out 1).trans rfl; have hfz65_0 := blk_frozen BK524.out 0; have hfz65_1 := blk_frozen BK524.out 1) | ((with_reducible refine gate_callee (f := 44) rfl ?_); refine goesL_ (some 26) rfl rfl Try.func44 (by kernel_rfl) rfl #[.agg #[.int .u64 (Go.bits .xor .u64 a1_0 9223372036854775808), .int .u64 a1_1], .agg #[.int .u64 (Go.bits .xor .u64 a0_0 9223372036854775808), .int .u64 a0_1]] rfl (by (try simp only [List.map_toArray, List.map_cons, List.map_nil]); first | done | rfl | (simp only [List.length_drop, List.length_take]; rfl) | (go_simp; simp only [u8_w, w64_u8]; done) | (go_simp; simp only [u8_w, w64_u8]; rfl)) ?_; (with_reducible refine (wide_less.calls (Go.bits .xor .u64 a1_0 9223372036854775808) a1_1 (Go.bits .xor .u64 a0_0 9223372036854775808) a0_1 false _ A23.out).mono ?_); rintro e w66 ⟨rfl, hb⟩; refine ⟨_, rfl, ?_⟩; have n0_ := blkB BK522 hb; have n1_ := blkB BK523 hb; have n2_ := blkB BK524 hb; have n3_ := blkB BK525 hb; have n4_ := Aside0.mk (below_step (bL HB) hb); clear BK522 BK523 BK524 BK525 HB; have BK522 := n0_; have BK523 := n1_; have BK524 := n2_; have BK525 := n3_; have HB := n4_; clear n0_ n1_ n2_ n3_ n4_; (try clear hb); (try clear hb2); (try clear hk); (try clear hi)))
   go_ret
   exact ⟨by first | rfl | (simp [errW_none, errW_some] <;> rfl) | (simp [*, errW_none, errW_some] <;> rfl), by repeat (first | (with_reducible first | exact HB.out | apply below_alloc | apply pw_below_drewN | apply below_drew1 | refine below_set ?_ GE522.out | refine below_set ?_ GE523.out | refine below_set ?_ GE524.out | refine below_set ?_ GE525.out) | exact HB.out)⟩

end Go.Proofs.Ytjnaebcdidilgaa.Q
