/- Functions of the program as Lean functions, and their walks: printed by print.py as this session changed it (mkprint.py). Lean checks it. No condition. (halved) -/
import Derived.Test.YtjnaebcdidilgaaQx0
import Derived.Test.YtjnaebcdidilgaaQx8
namespace Go.Proofs.Ytjnaebcdidilgaa.Q
open Go.RowKit Go.Proofs.YtjnaebcdidilgaaW.PrintWords Go.Proofs.YtjnaebcdidilgaaW.PrintLast Go.Proofs.YtjnaebcdidilgaaW.PrintMore
attribute [local go_sem] max2_int min2_int max_two min_two max_three min_three max_four min_four   -- for this text's walks alone
attribute [local go_sem] Instr.field asAgg
set_option linter.unusedVariables false
set_option linter.unusedSimpArgs false

/-! ### wide_part: function 37 -/
mutual
def wide_part.l0 : Nat → Int → Int → Int → Int → Int → Int → Int → Int → Int → Option (Int × Int × Int × Int)
 | 0, _, _, _, _, _, _, _, _, _ => none
 | k + 1, x6, x160000, x160001, x161000, x161001, x162000, x162001, x163000, x163001 => if x6 ≥ 0 then (if 0 ≤ (Int.tmod x6 64) then (if x6 ≥ 64 then (wide_part.j1 k x6 (Go.bits .and .u64 (shr .u64 x160000 (Int.tmod x6 64)) 1) x160000 x160001 x161000 x161001 x162000 x162001 x163000 x163001) else (wide_part.j1 k x6 (Go.bits .and .u64 (shr .u64 x160001 (Int.tmod x6 64)) 1) x160000 x160001 x161000 x161001 x162000 x162001 x163000 x163001)) else (none)) else (some (x162000, x162001, x163000, x163001))
def wide_part.j1 : Nat → Int → Int → Int → Int → Int → Int → Int → Int → Int → Int → Option (Int × Int × Int × Int)
 | 0, _, _, _, _, _, _, _, _, _, _ => none
 | k + 1, x6, x7, x160000, x160001, x161000, x161001, x162000, x162001, x163000, x163001 => if (Go.bits .and .u64 x163000 9223372036854775808) = 0 then ((wide_less.f (Go.bits .or .u64 (IntKind.u64.wrap (x163000 * 2)) (x163001 / 9223372036854775808)) (Go.bits .or .u64 (IntKind.u64.wrap (x163001 * 2)) x7) x161000 x161001).bind fun t163 => (wide_part.j2 k x6 ((Go.bits .and .u64 x163000 9223372036854775808) != 0) t163 x160000 x160001 x161000 x161001 x162000 x162001 (Go.bits .or .u64 (IntKind.u64.wrap (x163000 * 2)) (x163001 / 9223372036854775808)) (Go.bits .or .u64 (IntKind.u64.wrap (x163001 * 2)) x7))) else (wide_part.j2 k x6 ((Go.bits .and .u64 x163000 9223372036854775808) != 0) false x160000 x160001 x161000 x161001 x162000 x162001 (Go.bits .or .u64 (IntKind.u64.wrap (x163000 * 2)) (x163001 / 9223372036854775808)) (Go.bits .or .u64 (IntKind.u64.wrap (x163001 * 2)) x7))
def wide_part.j2 : Nat → Int → Bool → Bool → Int → Int → Int → Int → Int → Int → Int → Int → Option (Int × Int × Int × Int)
 | 0, _, _, _, _, _, _, _, _, _, _, _ => none
 | k + 1, x6, x8, x50, x160000, x160001, x161000, x161001, x162000, x162001, x163000, x163001 => if x50 = true then (wide_part.l0 k (wrap64 (x6 - 1)) x160000 x160001 x161000 x161001 x162000 x162001 x163000 x163001) else ((wide_minus.f x163000 x163001 x161000 x161001).bind fun bt164 => (if x6 ≥ 64 then (if 0 ≤ (Int.tmod x6 64) then (wide_part.l0 k (wrap64 (x6 - 1)) x160000 x160001 x161000 x161001 (Go.bits .or .u64 x162000 (shl .u64 1 (Int.tmod x6 64))) x162001 bt164.1 bt164.2) else (none)) else (if 0 ≤ x6 then (wide_part.l0 k (wrap64 (x6 - 1)) x160000 x160001 x161000 x161001 x162000 (Go.bits .or .u64 x162001 (shl .u64 1 x6)) bt164.1 bt164.2) else (none))))
end
def wide_part.f (k : Nat) (a0_0 : Int) (a0_1 : Int) (a1_0 : Int) (a1_1 : Int) : Option (Int × Int × Int × Int) := wide_part.l0 k 127 a0_0 a0_1 a1_0 a1_1 0 0 0 0
theorem wide_part.mono_l : ∀ k, (∀ y0 y1 y2 y3 y4 y5 y6 y7 y8, LeO (wide_part.l0 k y0 y1 y2 y3 y4 y5 y6 y7 y8) (wide_part.l0 (k + 1) y0 y1 y2 y3 y4 y5 y6 y7 y8)) ∧ (∀ y0 y1 y2 y3 y4 y5 y6 y7 y8 y9, LeO (wide_part.j1 k y0 y1 y2 y3 y4 y5 y6 y7 y8 y9) (wide_part.j1 (k + 1) y0 y1 y2 y3 y4 y5 y6 y7 y8 y9)) ∧ (∀ y0 y1 y2 y3 y4 y5 y6 y7 y8 y9 y10, LeO (wide_part.j2 k y0 y1 y2 y3 y4 y5 y6 y7 y8 y9 y10) (wide_part.j2 (k + 1) y0 y1 y2 y3 y4 y5 y6 y7 y8 y9 y10))
 | 0 => ⟨fun _ _ _ _ _ _ _ _ _ r h => by simp [wide_part.l0] at h, fun _ _ _ _ _ _ _ _ _ _ r h => by simp [wide_part.j1] at h, fun _ _ _ _ _ _ _ _ _ _ _ r h => by simp [wide_part.j2] at h⟩
 | k + 1 => by
  obtain ⟨ih0, ih1, ih2⟩ := wide_part.mono_l k
  refine ⟨?_, ?_, ?_⟩
  ·intro y0 y1 y2 y3 y4 y5 y6 y7 y8
   unfold wide_part.l0
   repeat' first
   | (with_reducible exact ih0 _ _ _ _ _ _ _ _ _)
   | (with_reducible exact ih1 _ _ _ _ _ _ _ _ _ _)
   | (with_reducible exact ih2 _ _ _ _ _ _ _ _ _ _ _)
   | (with_reducible exact LeO.refl _)
   | (with_reducible exact LeO.none _)
   | (with_reducible refine LeO.ite ?_ ?_)
   | (with_reducible refine LeO.bind ?_ (fun _ => ?_))
  ·intro y0 y1 y2 y3 y4 y5 y6 y7 y8 y9
   unfold wide_part.j1
   repeat' first
   | (with_reducible exact ih0 _ _ _ _ _ _ _ _ _)
   | (with_reducible exact ih1 _ _ _ _ _ _ _ _ _ _)
   | (with_reducible exact ih2 _ _ _ _ _ _ _ _ _ _ _)
   | (with_reducible exact LeO.refl _)
   | (with_reducible exact LeO.none _)
   | (with_reducible refine LeO.ite ?_ ?_)
   | (with_reducible refine LeO.bind ?_ (fun _ => ?_))
  ·intro y0 y1 y2 y3 y4 y5 y6 y7 y8 y9 y10
   unfold wide_part.j2
   repeat' first
   | (with_reducible exact ih0 _ _ _ _ _ _ _ _ _)
   | (with_reducible exact ih1 _ _ _ _ _ _ _ _ _ _)
   | (with_reducible exact ih2 _ _ _ _ _ _ _ _ _ _ _)
   | (with_reducible exact LeO.refl _)
   | (with_reducible exact LeO.none _)
   | (with_reducible refine LeO.ite ?_ ?_)
   | (with_reducible refine LeO.bind ?_ (fun _ => ?_))
theorem wide_part.mono : ∀ a0 a1 a2 a3 k, LeO (wide_part.f k a0 a1 a2 a3) (wide_part.f (k + 1) a0 a1 a2 a3) := by
 intro a0 a1 a2 a3 k
 obtain ⟨ih0, ih1, ih2⟩ := wide_part.mono_l k
 unfold wide_part.f
 repeat' first
   | (with_reducible exact ih0 _ _ _ _ _ _ _ _ _)
   | (with_reducible exact ih1 _ _ _ _ _ _ _ _ _ _)
   | (with_reducible exact ih2 _ _ _ _ _ _ _ _ _ _ _)
   | (with_reducible exact LeO.refl _)
   | (with_reducible exact LeO.none _)
   | (with_reducible refine LeO.ite ?_ ?_)
   | (with_reducible refine LeO.bind ?_ (fun _ => ?_))
def wide_part.T12 : Bool × List (List Nat × List Nat) := (true, [([], []), ([0], [0]), ([], []), ([2], [2]), ([3], [3]), ([1, 4], [1, 4]), ([0, 1, 2, 3, 4, 5], []), ([6, 5, 0, 1, 2, 3, 4, 5], [5, 6])])
def wide_part.B12 : List Nat := [0, 1, 0, 4, 12, 31, 63, 127]
theorem wide_part.tab12 : rtab .any (opsOf Try.f37 12) = wide_part.T12 := by kernel_rfl
theorem wide_part.bits12 : waitsOk wide_part.T12.2 wide_part.B12 = true := by kernel_rfl
set_option maxHeartbeats 8000000 in
set_option maxRecDepth 100000 in
theorem wide_part.calls (k : Nat) (a0_0 : Int) (a0_1 : Int) (a1_0 : Int) (a1_1 : Int) (r1 : Int) (r2 : Int) (r3 : Int) (r4 : Int) (w : World) (h : wide_part.f k a0_0 a0_1 a1_0 a1_1 = some (r1, r2, r3, r4)) :
  Calls Try.prog 37 #[.agg #[.int .u64 a0_0, .int .u64 a0_1], .agg #[.int .u64 a1_0, .int .u64 a1_1]] w fun e w' => e = .returned (.tuple #[.agg #[.int .u64 r1, .int .u64 r2], .agg #[.int .u64 r3, .int .u64 r4]]) ∧ Below w.heap.size w w' := by
 have hu60 := Try.underlying60
 have HB := Aside0.mk (Below.refl w.heap.size w)
 have H : (wide_part.l0 k 127 a0_0 a0_1 a1_0 a1_1 0 0 0 0) = some (r1, r2, r3, r4) := h
 clear h
 have H' := Aside0.mk H
 clear H
 go_enter Try.func37, Try.ntmps37
 go_wp2_with (first | ((with_reducible refine gate_dst (N := 2) rfl ?_); refine box_event ?hg (N := 2) ?hd (cs := #[.int .u64 a0_0, .int .u64 a0_1]) (t := 60) ?hr ?_; (case hd => rfl); (case hg => rfl); (case hr => first | (go_simp; done) | (go_simp; rfl)); intro gb159 hg w3 hbox hb; have n0_ := Aside0.mk (below_step (bL HB) hb); have n1_ := Aside0.mk (hbox); have n2_ := Aside0.mk ((by rw [hg]; exact (below_size (bL HB)) : w.heap.size ≤ gb159)); have n3_ := Aside0.mk ((by rw [hg]; exact (below_size (bL HB)) : w.heap.size ≤ gb159)); clear HB; have HB := n0_; have BK159 := n1_; have GW159 := n2_; have GE159 := n3_; clear n0_ n1_ n2_ n3_; clear hb hbox hg) | ((with_reducible refine gate_dst (N := 3) rfl ?_); refine box_event ?hg (N := 3) ?hd (cs := #[.int .u64 a1_0, .int .u64 a1_1]) (t := 60) ?hr ?_; (case hd => rfl); (case hg => rfl); (case hr => first | (go_simp; done) | (go_simp; rfl)); intro gb160 hg w4 hbox hb; have n0_ := blkB BK159 hb; have n1_ := Aside0.mk (below_step (bL HB) hb); have n2_ := Aside0.mk (hbox); have n3_ := Aside0.mk ((by rw [hg]; exact (below_size (bL HB)) : w.heap.size ≤ gb160)); have n4_ := Aside0.mk ((by rw [hg]; exact (below_size (bL HB)) : w.heap.size ≤ gb160)); have n5_ := blkL BK159 hg; have n6_ := blkG BK159 hg; clear BK159 HB; have BK159 := n0_; have HB := n1_; have BK160 := n2_; have GW160 := n3_; have GE160 := n4_; have NB159_160 := n5_; have NB160_159 := n6_; clear n0_ n1_ n2_ n3_ n4_ n5_ n6_; clear hb hbox hg) | ((with_reducible refine gate_dst (N := 4) rfl ?_); refine box_event ?hg (N := 4) ?hd (cs := #[.int .u64 0, .int .u64 0]) (t := 60) ?hr ?_; (case hd => rfl); (case hg => rfl); (case hr => first | (go_simp; done) | (go_simp; rfl)); intro gb161 hg w5 hbox hb; have n0_ := blkB BK159 hb; have n1_ := blkB BK160 hb; have n2_ := Aside0.mk (below_step (bL HB) hb); have n3_ := Aside0.mk (hbox); have n4_ := Aside0.mk ((by rw [hg]; exact (below_size (bL HB)) : w.heap.size ≤ gb161)); have n5_ := Aside0.mk ((by rw [hg]; exact (below_size (bL HB)) : w.heap.size ≤ gb161)); have n6_ := blkL BK159 hg; have n7_ := blkG BK159 hg; have n8_ := blkL BK160 hg; have n9_ := blkG BK160 hg; clear BK159 BK160 HB; have BK159 := n0_; have BK160 := n1_; have HB := n2_; have BK161 := n3_; have GW161 := n4_; have GE161 := n5_; have NB159_161 := n6_; have NB161_159 := n7_; have NB160_161 := n8_; have NB161_160 := n9_; clear n0_ n1_ n2_ n3_ n4_ n5_ n6_ n7_ n8_ n9_; clear hb hbox hg) | ((with_reducible refine gate_dst (N := 5) rfl ?_); refine box_event ?hg (N := 5) ?hd (cs := #[.int .u64 0, .int .u64 0]) (t := 60) ?hr ?_; (case hd => rfl); (case hg => rfl); (case hr => first | (go_simp; done) | (go_simp; rfl)); intro gb162 hg w6 hbox hb; have n0_ := blkB BK159 hb; have n1_ := blkB BK160 hb; have n2_ := blkB BK161 hb; have n3_ := Aside0.mk (below_step (bL HB) hb); have n4_ := Aside0.mk (hbox); have n5_ := Aside0.mk ((by rw [hg]; exact (below_size (bL HB)) : w.heap.size ≤ gb162)); have n6_ := Aside0.mk ((by rw [hg]; exact (below_size (bL HB)) : w.heap.size ≤ gb162)); have n7_ := blkL BK159 hg; have n8_ := blkG BK159 hg; have n9_ := blkL BK160 hg; have n10_ := blkG BK160 hg; have n11_ := blkL BK161 hg; have n12_ := blkG BK161 hg; clear BK159 BK160 BK161 HB; have BK159 := n0_; have BK160 := n1_; have BK161 := n2_; have HB := n3_; have BK162 := n4_; have GW162 := n5_; have GE162 := n6_; have NB159_162 := n7_; have NB162_159 := n8_; have NB160_162 := n9_; have NB162_160 := n10_; have NB161_162 := n11_; have NB162_161 := n12_; clear n0_ n1_ n2_ n3_ n4_ n5_ n6_ n7_ n8_ n9_ n10_ n11_ n12_; clear hb hbox hg))
 go_loopg [6] k (fun kq v6 w' => ∃ (x6_1 : Int) (x162000_1 : Int) (x162001_1 : Int) (x163000_1 : Int) (x163001_1 : Int), v6 = .int .i64 x6_1 ∧ Aside0 (wide_part.l0 kq x6_1 a0_0 a0_1 a1_0 a1_1 x162000_1 x162001_1 x163000_1 x163001_1 = some (r1, r2, r3, r4)) ∧ Aside0 (kq ≤ k) ∧ Aside0 (w'.heap[gb159]? = some (.cells #[.int .u64 a0_0, .int .u64 a0_1] 60 (0, 0))) ∧ Aside0 (w'.heap[gb160]? = some (.cells #[.int .u64 a1_0, .int .u64 a1_1] 60 (0, 0))) ∧ Aside0 (w'.heap[gb161]? = some (.cells #[.int .u64 x162000_1, .int .u64 x162001_1] 60 (0, 0))) ∧ Aside0 (w'.heap[gb162]? = some (.cells #[.int .u64 x163000_1, .int .u64 x163001_1] 60 (0, 0))) ∧ Aside0 (Below w.heap.size w w'))
 case atStart => exact ⟨(127), (0), (0), (0), (0), (by first | rfl | (simp; done) | (simp [*]; done)), H', ⟨Nat.le_refl _⟩, ⟨bN BK159⟩, ⟨bN BK160⟩, ⟨bN BK161⟩, ⟨bN BK162⟩, ⟨by repeat (first | (with_reducible first | exact HB.out | apply below_alloc | apply pw_below_drewN | apply below_drew1 | refine below_set ?_ GE159.out | refine below_set ?_ GE160.out | refine below_set ?_ GE161.out | refine below_set ?_ GE162.out) | exact HB.out)⟩⟩
 case round =>
  clear H'
  try clear p2
  try clear c3
  obtain ⟨x6_1, x162000_1, x162001_1, x163000_1, x163001_1, rfl, HA, HK1, BK159, BK160, BK161, BK162, HB⟩ := hrel
  cases gk with
  | zero => exact absurd HA.out (by simp [wide_part.l0])
  | succ k1 =>
   have H := HA.out
   clear HA
   simp only [wide_part.l0] at H
   by_cases c7 : x6_1 ≥ 0
   ·rw [if_pos c7] at H
    have c7b0 : decide (0 ≤ x6_1) = true := decide_eq_true c7
    clear c7
    obtain ⟨ji8, hji8⟩ : ∃ j_ : Int, (Int.tmod x6_1 64) = j_ := ⟨_, rfl⟩
    replace H : (if 0 ≤ (ji8) then (if x6_1 ≥ 64 then (wide_part.j1 k1 x6_1 (Go.bits .and .u64 (shr .u64 a0_0 (ji8)) 1) a0_0 a0_1 a1_0 a1_1 x162000_1 x162001_1 x163000_1 x163001_1) else (wide_part.j1 k1 x6_1 (Go.bits .and .u64 (shr .u64 a0_1 (ji8)) 1) a0_0 a0_1 a1_0 a1_1 x162000_1 x162001_1 x163000_1 x163001_1)) else (none)) = some (r1, r2, r3, r4) := by first | (rw [hji8] at H; exact H) | (simp only [hji8] at H ⊢; exact H)
    by_cases c9 : 0 ≤ (ji8)
    ·rw [if_pos c9] at H
     have c9b0 := eq_true c9
     have c9b1 : decide (0 ≤ (ji8)) = true := decide_eq_true c9
     clear c9
     obtain ⟨ji10, hji10⟩ : ∃ j_ : Int, (shr .u64 a0_1 (ji8)) = j_ := ⟨_, rfl⟩
     replace H : (if x6_1 ≥ 64 then (wide_part.j1 k1 x6_1 (Go.bits .and .u64 (shr .u64 a0_0 (ji8)) 1) a0_0 a0_1 a1_0 a1_1 x162000_1 x162001_1 x163000_1 x163001_1) else (wide_part.j1 k1 x6_1 (Go.bits .and .u64 (ji10) 1) a0_0 a0_1 a1_0 a1_1 x162000_1 x162001_1 x163000_1 x163001_1)) = some (r1, r2, r3, r4) := by first | (rw [hji10] at H; exact H) | (simp only [hji10] at H ⊢; exact H)
     have hji10_ : (a0_1 / 2 ^ min (ji8).toNat 64) = ji10 := hji10
     have hji10z : (ji8) ≤ 64 → (a0_1 / 2 ^ (ji8).toNat) = ji10 := shr_small hji10
     have HC11 := Aside0.mk H
     clear H
     have hnb12 := NB159_160.out
     have hnc12 := NB160_159.out
     have hnb13 := NB159_161.out
     have hnc13 := NB161_159.out
     have hnb14 := NB159_162.out
     have hnc14 := NB162_159.out
     have hcz15_0 : wr.cell? ⟨gb159, 0, none⟩ = some (.int .u64 a0_0) := (blk_cell BK159.out 0).trans rfl
     have hcz15_1 : wr.cell? ⟨gb159, 1, none⟩ = some (.int .u64 a0_1) := (blk_cell BK159.out 1).trans rfl
     have hfz15_0 := blk_frozen BK159.out 0
     have hfz15_1 := blk_frozen BK159.out 1
     go_upto_if 20 with (fail)
     go_cut [7] (fun v7 wc => ∃ (kq : Nat) (x7_10 : Int), v7 = .int .u64 x7_10 ∧ Aside0 (wide_part.j1 kq x6_1 x7_10 a0_0 a0_1 a1_0 a1_1 x162000_1 x162001_1 x163000_1 x163001_1 = some (r1, r2, r3, r4)) ∧ Aside0 (kq ≤ k1) ∧ Aside0 (wc.heap[gb159]? = some (.cells #[.int .u64 a0_0, .int .u64 a0_1] 60 (0, 0))) ∧ Aside0 (wc.heap[gb160]? = some (.cells #[.int .u64 a1_0, .int .u64 a1_1] 60 (0, 0))) ∧ Aside0 (wc.heap[gb161]? = some (.cells #[.int .u64 x162000_1, .int .u64 x162001_1] 60 (0, 0))) ∧ Aside0 (wc.heap[gb162]? = some (.cells #[.int .u64 x163000_1, .int .u64 x163001_1] 60 (0, 0))) ∧ Aside0 (Below w.heap.size w wc))
     case first =>
      have H := HC11.out
      clear HC11
      by_cases c16 : x6_1 ≥ 64
      ·rw [if_pos c16] at H
       have c16b0 : decide (64 ≤ x6_1) = true := decide_eq_true c16
       clear c16
       (first | rw [c16b0] | (simp only [i64_w, i32_w]; rw [c16b0]) | skip)
       have c17b0 := eq_true (of_decide_eq_true (by first | (with_reducible assumption) | assumption) : 0 ≤ (ji8))
       obtain ⟨ji18, hji18⟩ : ∃ j_ : Int, (shr .u64 a0_0 (ji8)) = j_ := ⟨_, rfl⟩
       replace H : (wide_part.j1 k1 x6_1 (Go.bits .and .u64 (ji18) 1) a0_0 a0_1 a1_0 a1_1 x162000_1 x162001_1 x163000_1 x163001_1) = some (r1, r2, r3, r4) := by first | (rw [hji18] at H; exact H) | (simp only [hji18] at H ⊢; exact H)
       have hji18_ : (a0_0 / 2 ^ min (ji8).toNat 64) = ji18 := hji18
       have hji18z : (ji8) ≤ 64 → (a0_0 / 2 ^ (ji8).toNat) = ji18 := shr_small hji18
       have H' := Aside0.mk H
       clear H
       have hnb19 := NB159_160.out
       have hnc19 := NB160_159.out
       have hnb20 := NB159_161.out
       have hnc20 := NB161_159.out
       have hnb21 := NB159_162.out
       have hnc21 := NB162_159.out
       have hcz22_0 : wr.cell? ⟨gb159, 0, none⟩ = some (.int .u64 a0_0) := (blk_cell BK159.out 0).trans rfl
       have hcz22_1 : wr.cell? ⟨gb159, 1, none⟩ = some (.int .u64 a0_1) := (blk_cell BK159.out 1).trans rfl
       have hfz22_0 := blk_frozen BK159.out 0
       have hfz22_1 := blk_frozen BK159.out 1
       go_wp2
       go_meet
       case rel => exact ⟨_, (Go.bits .and .u64 (ji18) 1), (by first | rfl | (simp; done) | (simp only [← hji18] <;> (first | rfl | simp)) | (simp [*]; done)), H', ⟨by have := HK1.out; first | omega | exact Nat.le_refl _⟩, ⟨bN BK159⟩, ⟨bN BK160⟩, ⟨bN BK161⟩, ⟨bN BK162⟩, ⟨by repeat (first | (with_reducible first | exact HB.out | apply below_alloc | apply pw_below_drewN | apply below_drew1 | refine below_set ?_ GE159.out | refine below_set ?_ GE160.out | refine below_set ?_ GE161.out | refine below_set ?_ GE162.out) | exact HB.out)⟩⟩
      ·rw [if_neg c16] at H
       have c16b0 : decide (64 ≤ x6_1) = false := decide_eq_false c16
       clear c16
       (first | rw [c16b0] | (simp only [i64_w, i32_w]; rw [c16b0]) | skip)
       have H' := Aside0.mk H
       clear H
       go_wp2
       go_meet
       case rel => exact ⟨_, (Go.bits .and .u64 (ji10) 1), (by first | rfl | (simp; done) | (simp only [← hji10] <;> (first | rfl | simp)) | (simp [*]; done)), H', ⟨by have := HK1.out; first | omega | exact Nat.le_refl _⟩, ⟨bN BK159⟩, ⟨bN BK160⟩, ⟨bN BK161⟩, ⟨bN BK162⟩, ⟨by repeat (first | (with_reducible first | exact HB.out | apply below_alloc | apply pw_below_drewN | apply below_drew1 | refine below_set ?_ GE159.out | refine below_set ?_ GE160.out | refine below_set ?_ GE161.out | refine below_set ?_ GE162.out) | exact HB.out)⟩⟩
     case rest =>
      clear HC11
      try clear c1
      try clear c2
      try clear p2
      try clear c3
      try clear c7
      try clear c7b0
      try clear c9
      try clear c9b0
      try clear c9b1
      try clear c12
      try clear c13
      try clear c14
      try clear c16
      try clear c16b0
      try clear c17
      try clear c17b0
      try clear c19
      try clear c20
      try clear c21
      try clear hcz15_0
      try clear hcz15_1
      try clear hcz22_0
      try clear hcz22_1
      try clear hfz15_0
      try clear hfz15_1
      try clear hfz22_0
      try clear hfz22_1
      try clear p2
      obtain ⟨kq, x7_10, rfl, HA, HJ10, BK159, BK160, BK161, BK162, HB⟩ := hcut
      cases kq with
      | zero => exact absurd HA.out (by simp [wide_part.j1])
      | succ kj10 =>
       have H := HA.out
       clear HA
       simp only [wide_part.j1] at H
       have HC23 := Aside0.mk H
       clear H
       have hnb24 := NB162_159.out
       have hnc24 := NB159_162.out
       have hnb25 := NB162_160.out
       have hnc25 := NB160_162.out
       have hnb26 := NB162_161.out
       have hnc26 := NB161_162.out
       have hcz27_0 : wc.cell? ⟨gb162, 0, none⟩ = some (.int .u64 x163000_1) := (blk_cell BK162.out 0).trans rfl
       have hcz27_1 : wc.cell? ⟨gb162, 1, none⟩ = some (.int .u64 x163001_1) := (blk_cell BK162.out 1).trans rfl
       have hfz27_0 := blk_frozen BK162.out 0
       have hfz27_1 := blk_frozen BK162.out 1
       go_upto_region 9 with (fail)
       go_cut [8, 50] (fun v8 v50 wc => ∃ (kq : Nat) (x8_22 : Bool) (x50_22 : Bool), v8 = .bool x8_22 ∧ v50 = .bool x50_22 ∧ Aside0 (wide_part.j2 kq x6_1 x8_22 x50_22 a0_0 a0_1 a1_0 a1_1 x162000_1 x162001_1 (Go.bits .or .u64 (IntKind.u64.wrap (x163000_1 * 2)) (x163001_1 / 9223372036854775808)) (Go.bits .or .u64 (IntKind.u64.wrap (x163001_1 * 2)) x7_10) = some (r1, r2, r3, r4)) ∧ Aside0 (kq ≤ kj10) ∧ Aside0 (wc.heap[gb159]? = some (.cells #[.int .u64 a0_0, .int .u64 a0_1] 60 (0, 0))) ∧ Aside0 (wc.heap[gb160]? = some (.cells #[.int .u64 a1_0, .int .u64 a1_1] 60 (0, 0))) ∧ Aside0 (wc.heap[gb161]? = some (.cells #[.int .u64 x162000_1, .int .u64 x162001_1] 60 (0, 0))) ∧ Aside0 (wc.heap[gb162]? = some (.cells #[.int .u64 (Go.bits .or .u64 (IntKind.u64.wrap (x163000_1 * 2)) (x163001_1 / 9223372036854775808)), .int .u64 (Go.bits .or .u64 (IntKind.u64.wrap (x163001_1 * 2)) x7_10)] 60 (0, 0))) ∧ Aside0 (Below w.heap.size w wc))
       case first =>
        have H := HC23.out
        clear HC23
        by_cases c28 : (Go.bits .and .u64 x163000_1 9223372036854775808) = 0
        ·rw [if_pos c28] at H
         have c28b0 : ((Go.bits .and .u64 x163000_1 9223372036854775808) == 0) = true := beq_iff_eq.mpr c28
         have c28b1 : ((Go.bits .and .u64 x163000_1 9223372036854775808) != 0) = false := bne_eq_false_iff_eq.mpr c28
         clear c28
         (first | rw [c28b0] | (simp only [i64_w, i32_w]; rw [c28b0]) | skip)
         replace H := Option.bind_eq_some_iff.mp H
         obtain ⟨t163, A290, H⟩ := H
         replace H : (wide_part.j2 kj10 x6_1 ((Go.bits .and .u64 x163000_1 9223372036854775808) != 0) t163 a0_0 a0_1 a1_0 a1_1 x162000_1 x162001_1 (Go.bits .or .u64 (IntKind.u64.wrap (x163000_1 * 2)) (x163001_1 / 9223372036854775808)) (Go.bits .or .u64 (IntKind.u64.wrap (x163001_1 * 2)) x7_10)) = some (r1, r2, r3, r4) := H
         have A29 := Aside0.mk A290
         clear A290
         have H' := Aside0.mk H
         clear H
         have hnb30 := NB162_159.out
         have hnc30 := NB159_162.out
         have hnb31 := NB162_160.out
         have hnc31 := NB160_162.out
         have hnb32 := NB162_161.out
         have hnc32 := NB161_162.out
         have hcz33_0 : wc.cell? ⟨gb162, 0, none⟩ = some (.int .u64 x163000_1) := (blk_cell BK162.out 0).trans rfl
         have hcz33_1 : wc.cell? ⟨gb162, 1, none⟩ = some (.int .u64 x163001_1) := (blk_cell BK162.out 1).trans rfl
         have hfz33_0 := blk_frozen BK162.out 0
         have hfz33_1 := blk_frozen BK162.out 1
         have hnb34 := NB160_159.out
         have hnc34 := NB159_160.out
         have hnb35 := NB160_161.out
         have hnc35 := NB161_160.out
         have hcz36_0 : wc.cell? ⟨gb160, 0, none⟩ = some (.int .u64 a1_0) := (blk_cell BK160.out 0).trans rfl
         have hcz36_1 : wc.cell? ⟨gb160, 1, none⟩ = some (.int .u64 a1_1) := (blk_cell BK160.out 1).trans rfl
         have hfz36_0 := blk_frozen BK160.out 0
         have hfz36_1 := blk_frozen BK160.out 1
         go_wp2_with (first | (go_at_call 44; (with_reducible refine (wide_less.calls (Go.bits .or .u64 (IntKind.u64.wrap (x163000_1 * 2)) (x163001_1 / 9223372036854775808)) (Go.bits .or .u64 (IntKind.u64.wrap (x163001_1 * 2)) x7_10) a1_0 a1_1 t163 _ A29.out).mono ?_); rintro e w37 ⟨rfl, hb⟩; have n0_ := Aside0.mk (blk_below (g := gb159) (o := .cells #[.int .u64 a0_0, .int .u64 a0_1] 60 (0, 0)) (bF BK159) hb); have n1_ := Aside0.mk (blk_below (g := gb160) (o := .cells #[.int .u64 a1_0, .int .u64 a1_1] 60 (0, 0)) (bF BK160) hb); have n2_ := Aside0.mk (blk_below (g := gb161) (o := .cells #[.int .u64 x162000_1, .int .u64 x162001_1] 60 (0, 0)) (bF BK161) hb); have n3_ := Aside0.mk (blk_below (g := gb162) (o := .cells #[.int .u64 (Go.bits .or .u64 (IntKind.u64.wrap (x163000_1 * 2)) (x163001_1 / 9223372036854775808)), .int .u64 (Go.bits .or .u64 (IntKind.u64.wrap (x163001_1 * 2)) x7_10)] 60 (0, 0)) (by (with_reducible repeat (first | refine blk_drewN ?_ _ | refine blk_drew ?_ | refine blk_alloc ?_ _)); refine blk_put (cs := #[.int .u64 (Go.bits .or .u64 (IntKind.u64.wrap (x163000_1 * 2)) (x163001_1 / 9223372036854775808)), .int .u64 x163001_1]) ?_ 1 _ rfl; (with_reducible repeat (first | refine blk_drewN ?_ _ | refine blk_drew ?_ | refine blk_alloc ?_ _)); refine blk_put (cs := #[.int .u64 x163000_1, .int .u64 x163001_1]) ?_ 0 _ rfl; (with_reducible repeat (first | refine blk_drewN ?_ _ | refine blk_drew ?_ | refine blk_alloc ?_ _)); exact BK162.out) hb); have n4_ := Aside0.mk (below_step (bL HB) hb); clear BK159 BK160 BK161 BK162 HB; have BK159 := n0_; have BK160 := n1_; have BK161 := n2_; have BK162 := n3_; have HB := n4_; clear n0_ n1_ n2_ n3_ n4_; (try clear hb); (try clear hb2); (try clear hk); (try clear hi)))
         go_meet
         case rel => exact ⟨_, (((Go.bits .and .u64 x163000_1 9223372036854775808) != 0)), (t163), (by first | rfl | (simp; done) | (simp [*]; done)), (by first | rfl | (simp; done) | (simp [*]; done)), H', ⟨by have := HK1.out; have := HJ10.out; first | omega | exact Nat.le_refl _⟩, ⟨bN BK159⟩, ⟨bN BK160⟩, ⟨bN BK161⟩, ⟨bN BK162⟩, ⟨by repeat (first | (with_reducible first | exact HB.out | apply below_alloc | apply pw_below_drewN | apply below_drew1 | refine below_set ?_ GE159.out | refine below_set ?_ GE160.out | refine below_set ?_ GE161.out | refine below_set ?_ GE162.out) | exact HB.out)⟩⟩
        ·rw [if_neg c28] at H
         have c28b0 : ((Go.bits .and .u64 x163000_1 9223372036854775808) == 0) = false := beq_eq_false_iff_ne.mpr c28
         have c28b1 : ((Go.bits .and .u64 x163000_1 9223372036854775808) != 0) = true := bne_iff_ne.mpr c28
         (first | rw [c28b0] | (simp only [i64_w, i32_w]; rw [c28b0]) | skip)
         have H' := Aside0.mk H
         clear H
         go_wp2
         go_meet
         case rel => exact ⟨_, (((Go.bits .and .u64 x163000_1 9223372036854775808) != 0)), (false), (by first | rfl | (simp; done) | (simp [*]; done)), (by first | rfl | (simp; done) | (simp [*]; done)), H', ⟨by have := HK1.out; have := HJ10.out; first | omega | exact Nat.le_refl _⟩, ⟨by (with_reducible repeat (first | refine blk_drewN ?_ _ | refine blk_drew ?_ | refine blk_alloc ?_ _)); refine blk_far ?_ NB159_162.out _; (with_reducible repeat (first | refine blk_drewN ?_ _ | refine blk_drew ?_ | refine blk_alloc ?_ _)); refine blk_far ?_ NB159_162.out _; (with_reducible repeat (first | refine blk_drewN ?_ _ | refine blk_drew ?_ | refine blk_alloc ?_ _)); exact BK159.out⟩, ⟨by (with_reducible repeat (first | refine blk_drewN ?_ _ | refine blk_drew ?_ | refine blk_alloc ?_ _)); refine blk_far ?_ NB160_162.out _; (with_reducible repeat (first | refine blk_drewN ?_ _ | refine blk_drew ?_ | refine blk_alloc ?_ _)); refine blk_far ?_ NB160_162.out _; (with_reducible repeat (first | refine blk_drewN ?_ _ | refine blk_drew ?_ | refine blk_alloc ?_ _)); exact BK160.out⟩, ⟨by (with_reducible repeat (first | refine blk_drewN ?_ _ | refine blk_drew ?_ | refine blk_alloc ?_ _)); refine blk_far ?_ NB161_162.out _; (with_reducible repeat (first | refine blk_drewN ?_ _ | refine blk_drew ?_ | refine blk_alloc ?_ _)); refine blk_far ?_ NB161_162.out _; (with_reducible repeat (first | refine blk_drewN ?_ _ | refine blk_drew ?_ | refine blk_alloc ?_ _)); exact BK161.out⟩, ⟨by (with_reducible repeat (first | refine blk_drewN ?_ _ | refine blk_drew ?_ | refine blk_alloc ?_ _)); refine blk_put (cs := #[.int .u64 (Go.bits .or .u64 (IntKind.u64.wrap (x163000_1 * 2)) (x163001_1 / 9223372036854775808)), .int .u64 x163001_1]) ?_ 1 _ rfl; (with_reducible repeat (first | refine blk_drewN ?_ _ | refine blk_drew ?_ | refine blk_alloc ?_ _)); refine blk_put (cs := #[.int .u64 x163000_1, .int .u64 x163001_1]) ?_ 0 _ rfl; (with_reducible repeat (first | refine blk_drewN ?_ _ | refine blk_drew ?_ | refine blk_alloc ?_ _)); exact BK162.out⟩, ⟨by repeat (first | (with_reducible first | exact HB.out | apply below_alloc | apply pw_below_drewN | apply below_drew1 | refine below_set ?_ GE159.out | refine below_set ?_ GE160.out | refine below_set ?_ GE161.out | refine below_set ?_ GE162.out) | exact HB.out)⟩⟩
       case rest =>
        clear HC23
        try clear c1
        try clear c2
        try clear p2
        try clear c3
        try clear c7
        try clear c7b0
        try clear c9
        try clear c9b0
        try clear c9b1
        try clear c12
        try clear c13
        try clear c14
        try clear c16
        try clear c16b0
        try clear c17
        try clear c17b0
        try clear c19
        try clear c20
        try clear c21
        try clear c24
        try clear c25
        try clear c26
        try clear c28
        try clear c28b0
        try clear c28b1
        try clear c30
        try clear c31
        try clear c32
        try clear c34
        try clear c35
        try clear c37
        try clear hcz15_0
        try clear hcz15_1
        try clear hcz22_0
        try clear hcz22_1
        try clear hcz27_0
        try clear hcz27_1
        try clear hcz33_0
        try clear hcz33_1
        try clear hcz36_0
        try clear hcz36_1
        try clear hfz15_0
        try clear hfz15_1
        try clear hfz22_0
        try clear hfz22_1
        try clear hfz27_0
        try clear hfz27_1
        try clear hfz33_0
        try clear hfz33_1
        try clear hfz36_0
        try clear hfz36_1
        try clear p2
        obtain ⟨kq, x8_22, x50_22, rfl, rfl, HA, HJ22, BK159, BK160, BK161, BK162, HB⟩ := hcut
        cases kq with
        | zero => exact absurd HA.out (by simp [wide_part.j2])
        | succ kj22 =>
         have H := HA.out
         clear HA
         simp only [wide_part.j2] at H
         by_cases c38 : x50_22 = true
         ·subst c38
          have H1 : (wide_part.l0 kj22 (wrap64 (x6_1 - 1)) a0_0 a0_1 a1_0 a1_1 x162000_1 x162001_1 (Go.bits .or .u64 (IntKind.u64.wrap (x163000_1 * 2)) (x163001_1 / 9223372036854775808)) (Go.bits .or .u64 (IntKind.u64.wrap (x163001_1 * 2)) x7_10)) = some (r1, r2, r3, r4) := by rw [if_pos rfl] at H; exact H
          clear H
          have H := H1
          clear H1
          have H' := Aside0.mk H
          clear H
          go_wp2
          go_roundg kj22
          case measure => have := HK1.out; have := HJ10.out; have := HJ22.out; omega
          case rel => exact ⟨(wrap64 (x6_1 - 1)), (x162000_1), (x162001_1), ((Go.bits .or .u64 (IntKind.u64.wrap (x163000_1 * 2)) (x163001_1 / 9223372036854775808))), ((Go.bits .or .u64 (IntKind.u64.wrap (x163001_1 * 2)) x7_10)), (by first | rfl | (simp; done) | (simp [*]; done)), H', ⟨by have := HK1.out; have := HJ10.out; have := HJ22.out; omega⟩, ⟨bN BK159⟩, ⟨bN BK160⟩, ⟨bN BK161⟩, ⟨bN BK162⟩, ⟨by repeat (first | (with_reducible first | exact HB.out | apply below_alloc | apply pw_below_drewN | apply below_drew1 | refine below_set ?_ GE159.out | refine below_set ?_ GE160.out | refine below_set ?_ GE161.out | refine below_set ?_ GE162.out) | exact HB.out)⟩⟩
         ·replace c38 := Bool.eq_false_iff.mpr c38
          subst c38
          have H1 : ((wide_minus.f (Go.bits .or .u64 (IntKind.u64.wrap (x163000_1 * 2)) (x163001_1 / 9223372036854775808)) (Go.bits .or .u64 (IntKind.u64.wrap (x163001_1 * 2)) x7_10) a1_0 a1_1).bind fun bt164 => (if x6_1 ≥ 64 then (if 0 ≤ (Int.tmod x6_1 64) then (wide_part.l0 kj22 (wrap64 (x6_1 - 1)) a0_0 a0_1 a1_0 a1_1 (Go.bits .or .u64 x162000_1 (shl .u64 1 (Int.tmod x6_1 64))) x162001_1 bt164.1 bt164.2) else (none)) else (if 0 ≤ x6_1 then (wide_part.l0 kj22 (wrap64 (x6_1 - 1)) a0_0 a0_1 a1_0 a1_1 x162000_1 (Go.bits .or .u64 x162001_1 (shl .u64 1 x6_1)) bt164.1 bt164.2) else (none)))) = some (r1, r2, r3, r4) := by rw [if_neg (show ¬ (false = true) by decide)] at H; exact H
          clear H
          have H := H1
          clear H1
          replace H := Option.bind_eq_some_iff.mp H
          obtain ⟨⟨t164, t165⟩, A390, H⟩ := H
          replace H : (if x6_1 ≥ 64 then (if 0 ≤ (Int.tmod x6_1 64) then (wide_part.l0 kj22 (wrap64 (x6_1 - 1)) a0_0 a0_1 a1_0 a1_1 (Go.bits .or .u64 x162000_1 (shl .u64 1 (Int.tmod x6_1 64))) x162001_1 t164 t165) else (none)) else (if 0 ≤ x6_1 then (wide_part.l0 kj22 (wrap64 (x6_1 - 1)) a0_0 a0_1 a1_0 a1_1 x162000_1 (Go.bits .or .u64 x162001_1 (shl .u64 1 x6_1)) t164 t165) else (none))) = some (r1, r2, r3, r4) := H
          have A39 := Aside0.mk A390
          clear A390
          by_cases c40 : x6_1 ≥ 64
          ·rw [if_pos c40] at H
           have c40b0 : decide (64 ≤ x6_1) = true := decide_eq_true c40
           clear c40
           replace H : (if 0 ≤ (ji8) then (wide_part.l0 kj22 (wrap64 (x6_1 - 1)) a0_0 a0_1 a1_0 a1_1 (Go.bits .or .u64 x162000_1 (shl .u64 1 (ji8))) x162001_1 t164 t165) else (none)) = some (r1, r2, r3, r4) := by first | (rw [hji8] at H; exact H) | (simp only [hji8] at H ⊢; exact H)
           by_cases c41 : 0 ≤ (ji8)
           ·rw [if_pos c41] at H
            have c41b0 := eq_true c41
            have c41b1 : decide (0 ≤ (ji8)) = true := decide_eq_true c41
            clear c41
            obtain ⟨ji42, hji42⟩ : ∃ j_ : Int, (shl .u64 1 (ji8)) = j_ := ⟨_, rfl⟩
            replace H : (wide_part.l0 kj22 (wrap64 (x6_1 - 1)) a0_0 a0_1 a1_0 a1_1 (Go.bits .or .u64 x162000_1 (ji42)) x162001_1 t164 t165) = some (r1, r2, r3, r4) := by first | (rw [hji42] at H; exact H) | (simp only [hji42] at H ⊢; exact H)
            (try rw [hji42] at A39)
            have hji42_ : (IntKind.u64.wrap (1 * 2 ^ min (ji8).toNat 64)) = ji42 := hji42
            have hji42z : (ji8) ≤ 64 → (IntKind.u64.wrap (1 * 2 ^ (ji8).toNat)) = ji42 := shl_small hji42
            have hji42u : (IntKind.u64.wrap (2 ^ min (ji8).toNat 64)) = ji42 := by have h_ := hji42_; rw [Int.one_mul] at h_; exact h_
            have hji42v : (ji8) ≤ 64 → (IntKind.u64.wrap (2 ^ (ji8).toNat)) = ji42 := fun hle_ => by have h_ := hji42z hle_; rw [Int.one_mul] at h_; exact h_
            have H' := Aside0.mk H
            clear H
            have hnb43 := NB162_159.out
            have hnc43 := NB159_162.out
            have hnb44 := NB162_160.out
            have hnc44 := NB160_162.out
            have hnb45 := NB162_161.out
            have hnc45 := NB161_162.out
            have hcz46_0 : wc.cell? ⟨gb162, 0, none⟩ = some (.int .u64 (Go.bits .or .u64 (IntKind.u64.wrap (x163000_1 * 2)) (x163001_1 / 9223372036854775808))) := (blk_cell BK162.out 0).trans rfl
            have hcz46_1 : wc.cell? ⟨gb162, 1, none⟩ = some (.int .u64 (Go.bits .or .u64 (IntKind.u64.wrap (x163001_1 * 2)) x7_10)) := (blk_cell BK162.out 1).trans rfl
            have hfz46_0 := blk_frozen BK162.out 0
            have hfz46_1 := blk_frozen BK162.out 1
            have hnb47 := NB160_159.out
            have hnc47 := NB159_160.out
            have hnb48 := NB160_161.out
            have hnc48 := NB161_160.out
            have hcz49_0 : wc.cell? ⟨gb160, 0, none⟩ = some (.int .u64 a1_0) := (blk_cell BK160.out 0).trans rfl
            have hcz49_1 : wc.cell? ⟨gb160, 1, none⟩ = some (.int .u64 a1_1) := (blk_cell BK160.out 1).trans rfl
            have hfz49_0 := blk_frozen BK160.out 0
            have hfz49_1 := blk_frozen BK160.out 1
            try go_wp2_with (first | ((with_reducible refine gate_callee (f := 48) rfl ?_); refine goesL_ (some 53) rfl rfl Try.func48 (by kernel_rfl) rfl #[.agg #[.int .u64 (Go.bits .or .u64 (IntKind.u64.wrap (x163000_1 * 2)) (x163001_1 / 9223372036854775808)), .int .u64 (Go.bits .or .u64 (IntKind.u64.wrap (x163001_1 * 2)) x7_10)], .agg #[.int .u64 a1_0, .int .u64 a1_1]] rfl (by (try simp only [List.map_toArray, List.map_cons, List.map_nil]); first | done | rfl | (simp only [List.length_drop, List.length_take]; rfl) | (go_simp; simp only [u8_w, w64_u8]; done) | (go_simp; simp only [u8_w, w64_u8]; rfl)) ?_; (with_reducible refine (wide_minus.calls (Go.bits .or .u64 (IntKind.u64.wrap (x163000_1 * 2)) (x163001_1 / 9223372036854775808)) (Go.bits .or .u64 (IntKind.u64.wrap (x163001_1 * 2)) x7_10) a1_0 a1_1 t164 t165 _ A39.out).mono ?_); rintro e w50 ⟨rfl, hb⟩; refine ⟨_, rfl, ?_⟩; have n0_ := blkB BK159 hb; have n1_ := blkB BK160 hb; have n2_ := blkB BK161 hb; have n3_ := blkB BK162 hb; have n4_ := Aside0.mk (below_step (bL HB) hb); clear BK159 BK160 BK161 BK162 HB; have BK159 := n0_; have BK160 := n1_; have BK161 := n2_; have BK162 := n3_; have HB := n4_; clear n0_ n1_ n2_ n3_ n4_; (try clear hb); (try clear hb2); (try clear hk); (try clear hi); have hcz51_0 : w50.cell? ⟨gb162, 0, none⟩ = some (.int .u64 (Go.bits .or .u64 (IntKind.u64.wrap (x163000_1 * 2)) (x163001_1 / 9223372036854775808))) := (blk_cell BK162.out 0).trans rfl; have hcz51_1 : w50.cell? ⟨gb162, 1, none⟩ = some (.int .u64 (Go.bits .or .u64 (IntKind.u64.wrap (x163001_1 * 2)) x7_10)) := (blk_cell BK162.out 1).trans rfl; have hfz51_0 := blk_frozen BK162.out 0; have hfz51_1 := blk_frozen BK162.out 1))
            have n0_ : Aside0 (((w50.setCell ⟨gb162, 0, none⟩ (.int .u64 t164)).setCell ⟨gb162, 1, none⟩ (.int .u64 t165)).heap[gb159]? = some (.cells #[.int .u64 a0_0, .int .u64 a0_1] 60 (0, 0))) := ⟨by (with_reducible repeat (first | refine blk_drewN ?_ _ | refine blk_drew ?_ | refine blk_alloc ?_ _)); refine blk_far ?_ NB159_162.out _; (with_reducible repeat (first | refine blk_drewN ?_ _ | refine blk_drew ?_ | refine blk_alloc ?_ _)); refine blk_far ?_ NB159_162.out _; (with_reducible repeat (first | refine blk_drewN ?_ _ | refine blk_drew ?_ | refine blk_alloc ?_ _)); exact BK159.out⟩
            have n1_ : Aside0 (((w50.setCell ⟨gb162, 0, none⟩ (.int .u64 t164)).setCell ⟨gb162, 1, none⟩ (.int .u64 t165)).heap[gb160]? = some (.cells #[.int .u64 a1_0, .int .u64 a1_1] 60 (0, 0))) := ⟨by (with_reducible repeat (first | refine blk_drewN ?_ _ | refine blk_drew ?_ | refine blk_alloc ?_ _)); refine blk_far ?_ NB160_162.out _; (with_reducible repeat (first | refine blk_drewN ?_ _ | refine blk_drew ?_ | refine blk_alloc ?_ _)); refine blk_far ?_ NB160_162.out _; (with_reducible repeat (first | refine blk_drewN ?_ _ | refine blk_drew ?_ | refine blk_alloc ?_ _)); exact BK160.out⟩
            have n2_ : Aside0 (((w50.setCell ⟨gb162, 0, none⟩ (.int .u64 t164)).setCell ⟨gb162, 1, none⟩ (.int .u64 t165)).heap[gb161]? = some (.cells #[.int .u64 x162000_1, .int .u64 x162001_1] 60 (0, 0))) := ⟨by (with_reducible repeat (first | refine blk_drewN ?_ _ | refine blk_drew ?_ | refine blk_alloc ?_ _)); refine blk_far ?_ NB161_162.out _; (with_reducible repeat (first | refine blk_drewN ?_ _ | refine blk_drew ?_ | refine blk_alloc ?_ _)); refine blk_far ?_ NB161_162.out _; (with_reducible repeat (first | refine blk_drewN ?_ _ | refine blk_drew ?_ | refine blk_alloc ?_ _)); exact BK161.out⟩
            have n3_ : Aside0 (((w50.setCell ⟨gb162, 0, none⟩ (.int .u64 t164)).setCell ⟨gb162, 1, none⟩ (.int .u64 t165)).heap[gb162]? = some (.cells #[.int .u64 t164, .int .u64 t165] 60 (0, 0))) := ⟨by (with_reducible repeat (first | refine blk_drewN ?_ _ | refine blk_drew ?_ | refine blk_alloc ?_ _)); refine blk_put (cs := #[.int .u64 t164, .int .u64 (Go.bits .or .u64 (IntKind.u64.wrap (x163001_1 * 2)) x7_10)]) ?_ 1 _ rfl; (with_reducible repeat (first | refine blk_drewN ?_ _ | refine blk_drew ?_ | refine blk_alloc ?_ _)); refine blk_put (cs := #[.int .u64 (Go.bits .or .u64 (IntKind.u64.wrap (x163000_1 * 2)) (x163001_1 / 9223372036854775808)), .int .u64 (Go.bits .or .u64 (IntKind.u64.wrap (x163001_1 * 2)) x7_10)]) ?_ 0 _ rfl; (with_reducible repeat (first | refine blk_drewN ?_ _ | refine blk_drew ?_ | refine blk_alloc ?_ _)); exact BK162.out⟩
            have n4_ : Aside0 (Below w.heap.size w ((w50.setCell ⟨gb162, 0, none⟩ (.int .u64 t164)).setCell ⟨gb162, 1, none⟩ (.int .u64 t165))) := ⟨by repeat (first | (with_reducible first | exact HB.out | apply below_alloc | apply pw_below_drewN | apply below_drew1 | refine below_set ?_ GE159.out | refine below_set ?_ GE160.out | refine below_set ?_ GE161.out | refine below_set ?_ GE162.out) | exact HB.out)⟩
            (try clear BK159)
            (try clear BK160)
            (try clear BK161)
            (try clear BK162)
            (try clear HB)
            generalize ((w50.setCell ⟨gb162, 0, none⟩ (.int .u64 t164)).setCell ⟨gb162, 1, none⟩ (.int .u64 t165)) = w52 at n0_ n1_ n2_ n3_ n4_ ⊢
            have BK159 := n0_
            have BK160 := n1_
            have BK161 := n2_
            have BK162 := n3_
            have HB := n4_
            clear n0_ n1_ n2_ n3_ n4_
            have n0_ := Aside0.mk (blk_drew BK159.out)
            have n1_ := Aside0.mk (blk_drew BK160.out)
            have n2_ := Aside0.mk (blk_drew BK161.out)
            have n3_ := Aside0.mk (blk_drew BK162.out)
            have n4_ := Aside0.mk (below_drew1 HB.out)
            clear BK159
            clear BK160
            clear BK161
            clear BK162
            clear HB
            have BK159 := n0_
            have BK160 := n1_
            have BK161 := n2_
            have BK162 := n3_
            have HB := n4_
            clear n0_ n1_ n2_ n3_ n4_
            refine start_ (n := 8) (S := fun w' => w'.cell? ⟨gb161, 0, none⟩ = some (.int .u64 x162000_1) ∧ w'.cell? ⟨gb161, 1, none⟩ = some (.int .u64 x162001_1)) (ds := [7]) #[false, false, false, false, false, false, false, false] (by kernel_rfl) rfl rfl ⟨(blk_cell BK161.out 0).trans rfl, (blk_cell BK161.out 1).trans rfl⟩ (fun hHeld => ?_); refine with_tabW wide_part.tab12 wide_part.bits12 (fun HT_ HW_ => ?_)
            generalize w52.drew = w53 at BK159 BK160 BK161 BK162 HB hHeld ⊢
            refine pure_ (i := 0) (N := some 56) (v := ?_) (a' := ?_) #[true, false, false, false, false, false, false, false] rfl rfl (any_of HT_.out (by kernel_rfl)) (fun _ _ _ h => h) (Or.inl ⟨by rfl, ?_⟩) ?_ ?_
            rotate_left
            ·intro w'
             go_simp
             with_reducible rfl
            rotate_left
            ·simp only [Act.put, List.setIfInBounds_toArray, List.set_cons_zero, List.set_cons_succ, i64_w, i32_w]
             rfl
            refine pure_ (i := 2) (N := some 58) (v := ?_) (a' := ?_) #[true, false, true, false, false, false, false, false] rfl rfl (any_of HT_.out (by kernel_rfl)) (fun _ _ _ h => h) (Or.inl ⟨by rfl, ?_⟩) ?_ ?_
            rotate_left
            ·intro w'
             go_simp
             with_reducible rfl
            rotate_left
            ·simp only [Act.put, List.setIfInBounds_toArray, List.set_cons_zero, List.set_cons_succ, i64_w, i32_w]
             rfl
            refine pure_ (i := 3) (N := some 59) (v := ?_) (a' := ?_) #[true, false, true, true, false, false, false, false] rfl rfl (any_of HT_.out (by kernel_rfl)) (fun _ _ _ h => h) (Or.inl ⟨by rfl, ?_⟩) ?_ ?_
            rotate_left
            ·intro w'
             go_simp
             with_reducible rfl
            rotate_left
            ·simp only [Act.put, List.setIfInBounds_toArray, List.set_cons_zero, List.set_cons_succ, i64_w, i32_w]
             rfl
            refine pure_ (i := 4) (N := some 60) (v := ?_) (a' := ?_) #[true, false, true, true, true, false, false, false] rfl rfl (any_of HT_.out (by kernel_rfl)) (fun _ _ _ h => h) (Or.inl ⟨by rfl, ?_⟩) ?_ ?_
            rotate_left
            ·intro w'
             go_simp
             with_reducible rfl
            rotate_left
            ·simp only [Act.put, List.setIfInBounds_toArray, List.set_cons_zero, List.set_cons_succ, i64_w, i32_w]
             rfl
            refine take_ (i := 1) (N := some 57) (v := ?_) (a' := ?_) #[true, true, true, true, true, false, false, false] rfl rfl (take_ofW HT_.out HW_.out (by kernel_rfl)) (fun _ _ _ h => h) (Or.inl ⟨by rfl, ?_⟩) hHeld ?_ ?_
            rotate_left
            ·rintro w' ⟨s0, s1⟩
             go_simp
             with_reducible rfl
            rotate_left
            ·simp only [Act.put, List.setIfInBounds_toArray, List.set_cons_zero, List.set_cons_succ, i64_w, i32_w]
             rfl
            refine pure_ (i := 5) (N := some 61) (v := ?_) (a' := ?_) #[true, true, true, true, true, true, false, false] rfl rfl (any_of HT_.out (by kernel_rfl)) (fun _ _ _ h => h) (Or.inl ⟨by rfl, ?_⟩) ?_ ?_
            rotate_left
            ·intro w'
             go_simp
             with_reducible rfl
            rotate_left
            ·simp only [Act.put, List.setIfInBounds_toArray, List.set_cons_zero, List.set_cons_succ, i64_w, i32_w]
             rfl
            refine pure_ (i := 6) (N := some 62) (v := ?_) (a' := ?_) #[true, true, true, true, true, true, true, false] rfl rfl (any_of HT_.out (by kernel_rfl)) (fun _ _ _ h => h) (Or.inl ⟨by rfl, ?_⟩) ?_ ?_
            rotate_left
            ·intro w'
             go_simp
             with_reducible rfl
            rotate_left
            ·simp only [Act.put, List.setIfInBounds_toArray, List.set_cons_zero, List.set_cons_succ, i64_w, i32_w]
             rfl
            refine last_ (i := 7) (N := none) #[true, true, true, true, true, true, true, true] rfl rfl (one_of HT_.out (by kernel_rfl)) (by decide) (fun K hK => ?_)
            have hs54 : w53.cell? ⟨gb161, 0, none⟩ = some (.int .u64 x162000_1) := (blk_cell BK161.out 0).trans rfl
            have hfs54 := blk_frozen BK161.out 0
            have hns54_0 := NB159_161.out
            have hns54_1 := NB160_161.out
            have hns54_3 := NB162_161.out
            have hms54_0 := NB161_159.out
            have hms54_1 := NB161_160.out
            have hms54_3 := NB161_162.out
            refine skip_ (w1 := ?_) (by rfl) rfl ?_ ?_
            rotate_left
            ·go_simp
             rfl
            refine hK.out _ _ ?_
            clear hK K
            refine done_ (done_of HT_.out (by kernel_rfl)) ?_
            try go_wp2
            go_roundg kj22
            case measure => have := HK1.out; have := HJ10.out; have := HJ22.out; omega
            case rel => exact ⟨(wrap64 (x6_1 - 1)), (Go.bits .or .u64 x162000_1 (ji42)), (x162001_1), (t164), (t165), (by first | rfl | (simp; done) | (simp [*]; done)), H', ⟨by have := HK1.out; have := HJ10.out; have := HJ22.out; omega⟩, ⟨by (with_reducible repeat (first | refine blk_drewN ?_ _ | refine blk_drew ?_ | refine blk_alloc ?_ _)); refine blk_far ?_ NB159_161.out _; (with_reducible repeat (first | refine blk_drewN ?_ _ | refine blk_drew ?_ | refine blk_alloc ?_ _)); exact BK159.out⟩, ⟨by (with_reducible repeat (first | refine blk_drewN ?_ _ | refine blk_drew ?_ | refine blk_alloc ?_ _)); refine blk_far ?_ NB160_161.out _; (with_reducible repeat (first | refine blk_drewN ?_ _ | refine blk_drew ?_ | refine blk_alloc ?_ _)); exact BK160.out⟩, ⟨by (with_reducible repeat (first | refine blk_drewN ?_ _ | refine blk_drew ?_ | refine blk_alloc ?_ _)); refine blk_put (cs := #[.int .u64 x162000_1, .int .u64 x162001_1]) ?_ 0 _ rfl; (with_reducible repeat (first | refine blk_drewN ?_ _ | refine blk_drew ?_ | refine blk_alloc ?_ _)); exact BK161.out⟩, ⟨by (with_reducible repeat (first | refine blk_drewN ?_ _ | refine blk_drew ?_ | refine blk_alloc ?_ _)); refine blk_far ?_ NB162_161.out _; (with_reducible repeat (first | refine blk_drewN ?_ _ | refine blk_drew ?_ | refine blk_alloc ?_ _)); exact BK162.out⟩, ⟨by repeat (first | (with_reducible first | exact HB.out | apply below_alloc | apply pw_below_drewN | apply below_drew1 | refine below_set ?_ GE159.out | refine below_set ?_ GE160.out | refine below_set ?_ GE161.out | refine below_set ?_ GE162.out) | exact HB.out)⟩⟩
           ·rw [if_neg c41] at H
            exact absurd H (by simp)
          ·rw [if_neg c40] at H
           have c40b0 : decide (64 ≤ x6_1) = false := decide_eq_false c40
           clear c40
           by_cases c55 : 0 ≤ x6_1
           ·rw [if_pos c55] at H
            have c55b0 := eq_true c55
            have c55b1 : decide (0 ≤ x6_1) = true := decide_eq_true c55
            clear c55
            obtain ⟨ji56, hji56⟩ : ∃ j_ : Int, (shl .u64 1 x6_1) = j_ := ⟨_, rfl⟩
            replace H : (wide_part.l0 kj22 (wrap64 (x6_1 - 1)) a0_0 a0_1 a1_0 a1_1 x162000_1 (Go.bits .or .u64 x162001_1 (ji56)) t164 t165) = some (r1, r2, r3, r4) := by first | (rw [hji56] at H; exact H) | (simp only [hji56] at H ⊢; exact H)
            (try rw [hji56] at A39)
            have hji56_ : (IntKind.u64.wrap (1 * 2 ^ min x6_1.toNat 64)) = ji56 := hji56
            have hji56z : x6_1 ≤ 64 → (IntKind.u64.wrap (1 * 2 ^ x6_1.toNat)) = ji56 := shl_small hji56
            have hji56u : (IntKind.u64.wrap (2 ^ min x6_1.toNat 64)) = ji56 := by have h_ := hji56_; rw [Int.one_mul] at h_; exact h_
            have hji56v : x6_1 ≤ 64 → (IntKind.u64.wrap (2 ^ x6_1.toNat)) = ji56 := fun hle_ => by have h_ := hji56z hle_; rw [Int.one_mul] at h_; exact h_
            have H' := Aside0.mk H
            clear H
            have hnb57 := NB162_159.out
            have hnc57 := NB159_162.out
            have hnb58 := NB162_160.out
            have hnc58 := NB160_162.out
            have hnb59 := NB162_161.out
            have hnc59 := NB161_162.out
            have hcz60_0 : wc.cell? ⟨gb162, 0, none⟩ = some (.int .u64 (Go.bits .or .u64 (IntKind.u64.wrap (x163000_1 * 2)) (x163001_1 / 9223372036854775808))) := (blk_cell BK162.out 0).trans rfl
            have hcz60_1 : wc.cell? ⟨gb162, 1, none⟩ = some (.int .u64 (Go.bits .or .u64 (IntKind.u64.wrap (x163001_1 * 2)) x7_10)) := (blk_cell BK162.out 1).trans rfl
            have hfz60_0 := blk_frozen BK162.out 0
            have hfz60_1 := blk_frozen BK162.out 1
            have hnb61 := NB160_159.out
            have hnc61 := NB159_160.out
            have hnb62 := NB160_161.out
            have hnc62 := NB161_160.out
            have hcz63_0 : wc.cell? ⟨gb160, 0, none⟩ = some (.int .u64 a1_0) := (blk_cell BK160.out 0).trans rfl
            have hcz63_1 : wc.cell? ⟨gb160, 1, none⟩ = some (.int .u64 a1_1) := (blk_cell BK160.out 1).trans rfl
            have hfz63_0 := blk_frozen BK160.out 0
            have hfz63_1 := blk_frozen BK160.out 1
            try go_wp2_with (first | ((with_reducible refine gate_callee (f := 48) rfl ?_); refine goesL_ (some 53) rfl rfl Try.func48 (by kernel_rfl) rfl #[.agg #[.int .u64 (Go.bits .or .u64 (IntKind.u64.wrap (x163000_1 * 2)) (x163001_1 / 9223372036854775808)), .int .u64 (Go.bits .or .u64 (IntKind.u64.wrap (x163001_1 * 2)) x7_10)], .agg #[.int .u64 a1_0, .int .u64 a1_1]] rfl (by (try simp only [List.map_toArray, List.map_cons, List.map_nil]); first | done | rfl | (simp only [List.length_drop, List.length_take]; rfl) | (go_simp; simp only [u8_w, w64_u8]; done) | (go_simp; simp only [u8_w, w64_u8]; rfl)) ?_; (with_reducible refine (wide_minus.calls (Go.bits .or .u64 (IntKind.u64.wrap (x163000_1 * 2)) (x163001_1 / 9223372036854775808)) (Go.bits .or .u64 (IntKind.u64.wrap (x163001_1 * 2)) x7_10) a1_0 a1_1 t164 t165 _ A39.out).mono ?_); rintro e w64 ⟨rfl, hb⟩; refine ⟨_, rfl, ?_⟩; have n0_ := blkB BK159 hb; have n1_ := blkB BK160 hb; have n2_ := blkB BK161 hb; have n3_ := blkB BK162 hb; have n4_ := Aside0.mk (below_step (bL HB) hb); clear BK159 BK160 BK161 BK162 HB; have BK159 := n0_; have BK160 := n1_; have BK161 := n2_; have BK162 := n3_; have HB := n4_; clear n0_ n1_ n2_ n3_ n4_; (try clear hb); (try clear hb2); (try clear hk); (try clear hi); have hcz65_0 : w64.cell? ⟨gb162, 0, none⟩ = some (.int .u64 (Go.bits .or .u64 (IntKind.u64.wrap (x163000_1 * 2)) (x163001_1 / 9223372036854775808))) := (blk_cell BK162.out 0).trans rfl; have hcz65_1 : w64.cell? ⟨gb162, 1, none⟩ = some (.int .u64 (Go.bits .or .u64 (IntKind.u64.wrap (x163001_1 * 2)) x7_10)) := (blk_cell BK162.out 1).trans rfl; have hfz65_0 := blk_frozen BK162.out 0; have hfz65_1 := blk_frozen BK162.out 1))
            have n0_ : Aside0 (((w64.setCell ⟨gb162, 0, none⟩ (.int .u64 t164)).setCell ⟨gb162, 1, none⟩ (.int .u64 t165)).heap[gb159]? = some (.cells #[.int .u64 a0_0, .int .u64 a0_1] 60 (0, 0))) := ⟨by (with_reducible repeat (first | refine blk_drewN ?_ _ | refine blk_drew ?_ | refine blk_alloc ?_ _)); refine blk_far ?_ NB159_162.out _; (with_reducible repeat (first | refine blk_drewN ?_ _ | refine blk_drew ?_ | refine blk_alloc ?_ _)); refine blk_far ?_ NB159_162.out _; (with_reducible repeat (first | refine blk_drewN ?_ _ | refine blk_drew ?_ | refine blk_alloc ?_ _)); exact BK159.out⟩
            have n1_ : Aside0 (((w64.setCell ⟨gb162, 0, none⟩ (.int .u64 t164)).setCell ⟨gb162, 1, none⟩ (.int .u64 t165)).heap[gb160]? = some (.cells #[.int .u64 a1_0, .int .u64 a1_1] 60 (0, 0))) := ⟨by (with_reducible repeat (first | refine blk_drewN ?_ _ | refine blk_drew ?_ | refine blk_alloc ?_ _)); refine blk_far ?_ NB160_162.out _; (with_reducible repeat (first | refine blk_drewN ?_ _ | refine blk_drew ?_ | refine blk_alloc ?_ _)); refine blk_far ?_ NB160_162.out _; (with_reducible repeat (first | refine blk_drewN ?_ _ | refine blk_drew ?_ | refine blk_alloc ?_ _)); exact BK160.out⟩
            have n2_ : Aside0 (((w64.setCell ⟨gb162, 0, none⟩ (.int .u64 t164)).setCell ⟨gb162, 1, none⟩ (.int .u64 t165)).heap[gb161]? = some (.cells #[.int .u64 x162000_1, .int .u64 x162001_1] 60 (0, 0))) := ⟨by (with_reducible repeat (first | refine blk_drewN ?_ _ | refine blk_drew ?_ | refine blk_alloc ?_ _)); refine blk_far ?_ NB161_162.out _; (with_reducible repeat (first | refine blk_drewN ?_ _ | refine blk_drew ?_ | refine blk_alloc ?_ _)); refine blk_far ?_ NB161_162.out _; (with_reducible repeat (first | refine blk_drewN ?_ _ | refine blk_drew ?_ | refine blk_alloc ?_ _)); exact BK161.out⟩
            have n3_ : Aside0 (((w64.setCell ⟨gb162, 0, none⟩ (.int .u64 t164)).setCell ⟨gb162, 1, none⟩ (.int .u64 t165)).heap[gb162]? = some (.cells #[.int .u64 t164, .int .u64 t165] 60 (0, 0))) := ⟨by (with_reducible repeat (first | refine blk_drewN ?_ _ | refine blk_drew ?_ | refine blk_alloc ?_ _)); refine blk_put (cs := #[.int .u64 t164, .int .u64 (Go.bits .or .u64 (IntKind.u64.wrap (x163001_1 * 2)) x7_10)]) ?_ 1 _ rfl; (with_reducible repeat (first | refine blk_drewN ?_ _ | refine blk_drew ?_ | refine blk_alloc ?_ _)); refine blk_put (cs := #[.int .u64 (Go.bits .or .u64 (IntKind.u64.wrap (x163000_1 * 2)) (x163001_1 / 9223372036854775808)), .int .u64 (Go.bits .or .u64 (IntKind.u64.wrap (x163001_1 * 2)) x7_10)]) ?_ 0 _ rfl; (with_reducible repeat (first | refine blk_drewN ?_ _ | refine blk_drew ?_ | refine blk_alloc ?_ _)); exact BK162.out⟩
            have n4_ : Aside0 (Below w.heap.size w ((w64.setCell ⟨gb162, 0, none⟩ (.int .u64 t164)).setCell ⟨gb162, 1, none⟩ (.int .u64 t165))) := ⟨by repeat (first | (with_reducible first | exact HB.out | apply below_alloc | apply pw_below_drewN | apply below_drew1 | refine below_set ?_ GE159.out | refine below_set ?_ GE160.out | refine below_set ?_ GE161.out | refine below_set ?_ GE162.out) | exact HB.out)⟩
            (try clear BK159)
            (try clear BK160)
            (try clear BK161)
            (try clear BK162)
            (try clear HB)
            generalize ((w64.setCell ⟨gb162, 0, none⟩ (.int .u64 t164)).setCell ⟨gb162, 1, none⟩ (.int .u64 t165)) = w66 at n0_ n1_ n2_ n3_ n4_ ⊢
            have BK159 := n0_
            have BK160 := n1_
            have BK161 := n2_
            have BK162 := n3_
            have HB := n4_
            clear n0_ n1_ n2_ n3_ n4_
            have n0_ := Aside0.mk (blk_drew BK159.out)
            have n1_ := Aside0.mk (blk_drew BK160.out)
            have n2_ := Aside0.mk (blk_drew BK161.out)
            have n3_ := Aside0.mk (blk_drew BK162.out)
            have n4_ := Aside0.mk (below_drew1 HB.out)
            clear BK159
            clear BK160
            clear BK161
            clear BK162
            clear HB
            have BK159 := n0_
            have BK160 := n1_
            have BK161 := n2_
            have BK162 := n3_
            have HB := n4_
            clear n0_ n1_ n2_ n3_ n4_
            refine start_ (n := 7) (S := fun w' => w'.cell? ⟨gb161, 0, none⟩ = some (.int .u64 x162000_1) ∧ w'.cell? ⟨gb161, 1, none⟩ = some (.int .u64 x162001_1)) (ds := [6]) #[false, false, false, false, false, false, false] (by kernel_rfl) rfl rfl ⟨(blk_cell BK161.out 0).trans rfl, (blk_cell BK161.out 1).trans rfl⟩ (fun hHeld => ?_)
            generalize w66.drew = w67 at BK159 BK160 BK161 BK162 HB hHeld ⊢
            refine pure_ (i := 0) (N := some 63) (v := ?_) (a' := ?_) #[true, false, false, false, false, false, false] rfl rfl (by kernel_rfl) (fun _ _ _ h => h) (Or.inl ⟨by rfl, ?_⟩) ?_ ?_
            rotate_left
            ·intro w'
             go_simp
             with_reducible rfl
            rotate_left
            ·simp only [Act.put, List.setIfInBounds_toArray, List.set_cons_zero, List.set_cons_succ, i64_w, i32_w]
             rfl
            refine pure_ (i := 2) (N := some 65) (v := ?_) (a' := ?_) #[true, false, true, false, false, false, false] rfl rfl (by kernel_rfl) (fun _ _ _ h => h) (Or.inl ⟨by rfl, ?_⟩) ?_ ?_
            rotate_left
            ·intro w'
             go_simp
             with_reducible rfl
            rotate_left
            ·simp only [Act.put, List.setIfInBounds_toArray, List.set_cons_zero, List.set_cons_succ, i64_w, i32_w]
             rfl
            refine pure_ (i := 3) (N := some 66) (v := ?_) (a' := ?_) #[true, false, true, true, false, false, false] rfl rfl (by kernel_rfl) (fun _ _ _ h => h) (Or.inl ⟨by rfl, ?_⟩) ?_ ?_
            rotate_left
            ·intro w'
             go_simp
             with_reducible rfl
            rotate_left
            ·simp only [Act.put, List.setIfInBounds_toArray, List.set_cons_zero, List.set_cons_succ, i64_w, i32_w]
             rfl
            refine take_ (i := 1) (N := some 64) (v := ?_) (a' := ?_) #[true, true, true, true, false, false, false] rfl rfl (by kernel_rfl) (fun _ _ _ h => h) (Or.inl ⟨by rfl, ?_⟩) hHeld ?_ ?_
            rotate_left
            ·rintro w' ⟨s0, s1⟩
             go_simp
             with_reducible rfl
            rotate_left
            ·simp only [Act.put, List.setIfInBounds_toArray, List.set_cons_zero, List.set_cons_succ, i64_w, i32_w]
             rfl
            refine pure_ (i := 4) (N := some 67) (v := ?_) (a' := ?_) #[true, true, true, true, true, false, false] rfl rfl (by kernel_rfl) (fun _ _ _ h => h) (Or.inl ⟨by rfl, ?_⟩) ?_ ?_
            rotate_left
            ·intro w'
             go_simp
             with_reducible rfl
            rotate_left
            ·simp only [Act.put, List.setIfInBounds_toArray, List.set_cons_zero, List.set_cons_succ, i64_w, i32_w]
             rfl
            refine pure_ (i := 5) (N := some 68) (v := ?_) (a' := ?_) #[true, true, true, true, true, true, false] rfl rfl (by kernel_rfl) (fun _ _ _ h => h) (Or.inl ⟨by rfl, ?_⟩) ?_ ?_
            rotate_left
            ·intro w'
             go_simp
             with_reducible rfl
            rotate_left
            ·simp only [Act.put, List.setIfInBounds_toArray, List.set_cons_zero, List.set_cons_succ, i64_w, i32_w]
             rfl
            refine last_ (i := 6) (N := none) #[true, true, true, true, true, true, true] rfl rfl (by kernel_rfl) (by decide) (fun K hK => ?_)
            have hs68 : w67.cell? ⟨gb161, 1, none⟩ = some (.int .u64 x162001_1) := (blk_cell BK161.out 1).trans rfl
            have hfs68 := blk_frozen BK161.out 1
            have hns68_0 := NB159_161.out
            have hns68_1 := NB160_161.out
            have hns68_3 := NB162_161.out
            have hms68_0 := NB161_159.out
            have hms68_1 := NB161_160.out
            have hms68_3 := NB161_162.out
            refine skip_ (w1 := ?_) (by rfl) rfl ?_ ?_
            rotate_left
            ·go_simp
             rfl
            refine hK.out _ _ ?_
            clear hK K
            refine done_ (by kernel_rfl) ?_
            try go_wp2
            go_roundg kj22
            case measure => have := HK1.out; have := HJ10.out; have := HJ22.out; omega
            case rel => exact ⟨(wrap64 (x6_1 - 1)), (x162000_1), (Go.bits .or .u64 x162001_1 (ji56)), (t164), (t165), (by first | rfl | (simp; done) | (simp [*]; done)), H', ⟨by have := HK1.out; have := HJ10.out; have := HJ22.out; omega⟩, ⟨by (with_reducible repeat (first | refine blk_drewN ?_ _ | refine blk_drew ?_ | refine blk_alloc ?_ _)); refine blk_far ?_ NB159_161.out _; (with_reducible repeat (first | refine blk_drewN ?_ _ | refine blk_drew ?_ | refine blk_alloc ?_ _)); exact BK159.out⟩, ⟨by (with_reducible repeat (first | refine blk_drewN ?_ _ | refine blk_drew ?_ | refine blk_alloc ?_ _)); refine blk_far ?_ NB160_161.out _; (with_reducible repeat (first | refine blk_drewN ?_ _ | refine blk_drew ?_ | refine blk_alloc ?_ _)); exact BK160.out⟩, ⟨by (with_reducible repeat (first | refine blk_drewN ?_ _ | refine blk_drew ?_ | refine blk_alloc ?_ _)); refine blk_put (cs := #[.int .u64 x162000_1, .int .u64 x162001_1]) ?_ 1 _ rfl; (with_reducible repeat (first | refine blk_drewN ?_ _ | refine blk_drew ?_ | refine blk_alloc ?_ _)); exact BK161.out⟩, ⟨by (with_reducible repeat (first | refine blk_drewN ?_ _ | refine blk_drew ?_ | refine blk_alloc ?_ _)); refine blk_far ?_ NB162_161.out _; (with_reducible repeat (first | refine blk_drewN ?_ _ | refine blk_drew ?_ | refine blk_alloc ?_ _)); exact BK162.out⟩, ⟨by repeat (first | (with_reducible first | exact HB.out | apply below_alloc | apply pw_below_drewN | apply below_drew1 | refine below_set ?_ GE159.out | refine below_set ?_ GE160.out | refine below_set ?_ GE161.out | refine below_set ?_ GE162.out) | exact HB.out)⟩⟩
           ·rw [if_neg c55] at H
            exact absurd H (by simp)
    ·rw [if_neg c9] at H
     exact absurd H (by simp)
   ·rw [if_neg c7] at H
    have c7b0 : decide (0 ≤ x6_1) = false := decide_eq_false c7
    clear c7
    simp only [Option.some.injEq, Prod.mk.injEq] at H
    obtain ⟨rfl, rfl, rfl, rfl⟩ := H
    have hnb69 := NB161_159.out
    have hnc69 := NB159_161.out
    have hnb70 := NB161_160.out
    have hnc70 := NB160_161.out
    have hnb71 := NB161_162.out
    have hnc71 := NB162_161.out
    have hcz72_0 : wr.cell? ⟨gb161, 0, none⟩ = some (.int .u64 x162000_1) := (blk_cell BK161.out 0).trans rfl
    have hcz72_1 : wr.cell? ⟨gb161, 1, none⟩ = some (.int .u64 x162001_1) := (blk_cell BK161.out 1).trans rfl
    have hfz72_0 := blk_frozen BK161.out 0
    have hfz72_1 := blk_frozen BK161.out 1
    have hnb73 := NB162_159.out
    have hnc73 := NB159_162.out
    have hnb74 := NB162_160.out
    have hnc74 := NB160_162.out
    have hcz75_0 : wr.cell? ⟨gb162, 0, none⟩ = some (.int .u64 x163000_1) := (blk_cell BK162.out 0).trans rfl
    have hcz75_1 : wr.cell? ⟨gb162, 1, none⟩ = some (.int .u64 x163001_1) := (blk_cell BK162.out 1).trans rfl
    have hfz75_0 := blk_frozen BK162.out 0
    have hfz75_1 := blk_frozen BK162.out 1
    try go_wp2
    go_region
    try go_wp2
    refine bodyPost_ret (results_cc rfl _ _ gb161 gb162 60 60 #[.int .u64 x162000_1, .int .u64 x162001_1] #[.int .u64 x163000_1, .int .u64 x163001_1] (0, 0) (0, 0) _ _ rfl (by (with_reducible repeat (first | refine blk_drewN ?_ _ | refine blk_drew ?_ | refine blk_alloc ?_ _)); refine blk_far ?_ NB161_162.out _; (with_reducible repeat (first | refine blk_drewN ?_ _ | refine blk_drew ?_ | refine blk_alloc ?_ _)); refine blk_far ?_ NB161_162.out _; (with_reducible repeat (first | refine blk_drewN ?_ _ | refine blk_drew ?_ | refine blk_alloc ?_ _)); refine blk_put (cs := #[.int .u64 x162000_1, .int .u64 x162001_1]) ?_ 1 _ rfl; (with_reducible repeat (first | refine blk_drewN ?_ _ | refine blk_drew ?_ | refine blk_alloc ?_ _)); refine blk_put (cs := #[.int .u64 x162000_1, .int .u64 x162001_1]) ?_ 0 _ rfl; (with_reducible repeat (first | refine blk_drewN ?_ _ | refine blk_drew ?_ | refine blk_alloc ?_ _)); exact BK161.out) Try.underlying60 rfl (by kernel_rfl) rfl (by (with_reducible repeat (first | refine blk_drewN ?_ _ | refine blk_drew ?_ | refine blk_alloc ?_ _)); refine blk_put (cs := #[.int .u64 x163000_1, .int .u64 x163001_1]) ?_ 1 _ rfl; (with_reducible repeat (first | refine blk_drewN ?_ _ | refine blk_drew ?_ | refine blk_alloc ?_ _)); refine blk_put (cs := #[.int .u64 x163000_1, .int .u64 x163001_1]) ?_ 0 _ rfl; (with_reducible repeat (first | refine blk_drewN ?_ _ | refine blk_drew ?_ | refine blk_alloc ?_ _)); refine blk_far ?_ NB162_161.out _; (with_reducible repeat (first | refine blk_drewN ?_ _ | refine blk_drew ?_ | refine blk_alloc ?_ _)); refine blk_far ?_ NB162_161.out _; (with_reducible repeat (first | refine blk_drewN ?_ _ | refine blk_drew ?_ | refine blk_alloc ?_ _)); exact BK162.out) Try.underlying60 rfl (by kernel_rfl)) rfl ?_
    exact ⟨by first | rfl | (simp [errW_none, errW_some] <;> rfl) | (simp [*, errW_none, errW_some] <;> rfl), by repeat (first | (with_reducible first | exact HB.out | apply below_alloc | apply pw_below_drewN | apply below_drew1 | refine below_set ?_ GE159.out | refine below_set ?_ GE160.out | refine below_set ?_ GE161.out | refine below_set ?_ GE162.out) | exact HB.out)⟩

end Go.Proofs.Ytjnaebcdidilgaa.Q
