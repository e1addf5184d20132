/- Functions of the program as Lean functions, and their walks: printed by print.py as this session changed it (mkprint.py). Lean checks it. No condition. (halved) -/
import Derived.Test.YtjnaebcdidilgaaQx0
import Derived.Test.YtjnaebcdidilgaaQx14
import Derived.Test.YtjnaebcdidilgaaQx15
import Derived.Test.YtjnaebcdidilgaaQx19
namespace Go.Proofs.Ytjnaebcdidilgaa.Q
open Go.RowKit Go.Proofs.YtjnaebcdidilgaaW.PrintWords Go.Proofs.YtjnaebcdidilgaaW.PrintLast Go.Proofs.YtjnaebcdidilgaaW.PrintMore
attribute [local go_sem] max2_int min2_int max_two min_two max_three min_three max_four min_four   -- for this text's walks alone
attribute [local go_sem] Instr.field asAgg
set_option linter.unusedVariables false
set_option linter.unusedSimpArgs false

/-! ### lorgnetteref01_Quo: function 29 -/
mutual
def lorgnetteref01_Quo.l0 : Nat → List Int → List Int → Int → Bool → List Int → Bool → List Int → Option (Bool × List Int × Bool × List Int)
 | 0, _, _, _, _, _, _, _ => none
 | k + 1, x6, x7, x8, x354000, x354001, x355000, x355001 => if x8 ≥ 0 then (if 0 ≤ x8 then (if x8 < (x354001.length : Int) then ((some (([rd x354001 x8] : List Int) : List Int)).bind fun y372 => (if y372.length + x7.length < 17592186044416 then ((lorgnetteref01_trim.f k false (y372 ++ x7)).bind fun bt378 => (lorgnetteref01_Quo.l1 k x6 bt378.2 x8 x354000 x354001 x355000 x355001)) else (none))) else (none)) else (none)) else ((lorgnetteref01_trim.f k (x354000 != x355000) x6).bind fun bt363 => ((lorgnetteref01_trim.f k x354000 x7).bind fun bt367 => (some (bt363.1, bt363.2, bt367.1, bt367.2))))
def lorgnetteref01_Quo.l1 : Nat → List Int → List Int → Int → Bool → List Int → Bool → List Int → Option (Bool × List Int × Bool × List Int)
 | 0, _, _, _, _, _, _, _ => none
 | k + 1, x6, x7, x8, x354000, x354001, x355000, x355001 => (lorgnetteref01_more.f k x7 x355001).bind fun t382 => (if t382 ≥ 0 then ((lorgnetteref01_minus.f k x7 x355001).bind fun t383 => ((lorgnetteref01_trim.f k false t383).bind fun bt386 => (if 0 ≤ x8 then (if x8 < (x6.length : Int) then (lorgnetteref01_Quo.l1 k (x6.set (x8 : Int).toNat (wrap64 ((rd x6 x8) + 1))) bt386.2 x8 x354000 x354001 x355000 x355001) else (none)) else (none)))) else (lorgnetteref01_Quo.l0 k x6 x7 (wrap64 (x8 - 1)) x354000 x354001 x355000 x355001))
end
def lorgnetteref01_Quo.f (k : Nat) (a0_0 : Bool) (l0_1 : List Int) (a1_0 : Bool) (l1_1 : List Int) : Option (Bool × List Int × Bool × List Int) := if 0 ≤ (l0_1.length : Int) then (if ((l0_1.length : Int) : Int).toNat ≤ 35184372088832 then (lorgnetteref01_Quo.l0 k (List.replicate ((l0_1.length : Int) : Int).toNat 0) (([] : List Int)) (wrap64 ((l0_1.length : Int) - 1)) a0_0 l0_1 a1_0 l1_1) else (none)) else (none)
theorem lorgnetteref01_Quo.mono_l : ∀ k, (∀ y0 y1 y2 y3 y4 y5 y6, LeO (lorgnetteref01_Quo.l0 k y0 y1 y2 y3 y4 y5 y6) (lorgnetteref01_Quo.l0 (k + 1) y0 y1 y2 y3 y4 y5 y6)) ∧ (∀ y0 y1 y2 y3 y4 y5 y6, LeO (lorgnetteref01_Quo.l1 k y0 y1 y2 y3 y4 y5 y6) (lorgnetteref01_Quo.l1 (k + 1) y0 y1 y2 y3 y4 y5 y6))
 | 0 => ⟨fun _ _ _ _ _ _ _ r h => by simp [lorgnetteref01_Quo.l0] at h, fun _ _ _ _ _ _ _ r h => by simp [lorgnetteref01_Quo.l1] at h⟩
 | k + 1 => by
  obtain ⟨ih0, ih1⟩ := lorgnetteref01_Quo.mono_l k
  refine ⟨?_, ?_⟩
  ·intro y0 y1 y2 y3 y4 y5 y6
   unfold lorgnetteref01_Quo.l0
   repeat' first
   | (with_reducible exact ih0 _ _ _ _ _ _ _)
   | (with_reducible exact ih1 _ _ _ _ _ _ _)
   | (with_reducible exact lorgnetteref01_minus.mono _ _ _)
   | (with_reducible exact lorgnetteref01_more.mono _ _ _)
   | (with_reducible exact lorgnetteref01_trim.mono _ _ _)
   | (with_reducible exact LeO.refl _)
   | (with_reducible exact LeO.none _)
   | (with_reducible refine LeO.ite ?_ ?_)
   | (with_reducible refine LeO.bind ?_ (fun _ => ?_))
  ·intro y0 y1 y2 y3 y4 y5 y6
   unfold lorgnetteref01_Quo.l1
   repeat' first
   | (with_reducible exact ih0 _ _ _ _ _ _ _)
   | (with_reducible exact ih1 _ _ _ _ _ _ _)
   | (with_reducible exact lorgnetteref01_minus.mono _ _ _)
   | (with_reducible exact lorgnetteref01_more.mono _ _ _)
   | (with_reducible exact lorgnetteref01_trim.mono _ _ _)
   | (with_reducible exact LeO.refl _)
   | (with_reducible exact LeO.none _)
   | (with_reducible refine LeO.ite ?_ ?_)
   | (with_reducible refine LeO.bind ?_ (fun _ => ?_))
theorem lorgnetteref01_Quo.mono : ∀ a0 a1 a2 a3 k, LeO (lorgnetteref01_Quo.f k a0 a1 a2 a3) (lorgnetteref01_Quo.f (k + 1) a0 a1 a2 a3) := by
 intro a0 a1 a2 a3 k
 obtain ⟨ih0, ih1⟩ := lorgnetteref01_Quo.mono_l k
 unfold lorgnetteref01_Quo.f
 repeat' first
   | (with_reducible exact ih0 _ _ _ _ _ _ _)
   | (with_reducible exact ih1 _ _ _ _ _ _ _)
   | (with_reducible exact lorgnetteref01_minus.mono _ _ _)
   | (with_reducible exact lorgnetteref01_more.mono _ _ _)
   | (with_reducible exact lorgnetteref01_trim.mono _ _ _)
   | (with_reducible exact LeO.refl _)
   | (with_reducible exact LeO.none _)
   | (with_reducible refine LeO.ite ?_ ?_)
   | (with_reducible refine LeO.bind ?_ (fun _ => ?_))
def lorgnetteref01_Quo.T10 : Bool × List (List Nat × List Nat) := (true, [([], []), ([0], [0]), ([], []), ([2], [2]), ([1, 3], [1, 3]), ([], []), ([4, 5], [4, 5]), ([6], [6]), ([], []), ([8], [8]), ([], []), ([9, 10], [9, 10]), ([11, 7], [11]), ([7, 12, 0, 1, 2, 3, 4, 5, 6, 7], [7]), ([12, 13, 0, 1, 2, 3, 4, 5, 6, 7, 8, 9, 10, 11, 12, 13], [12])])
def lorgnetteref01_Quo.B10 : List Nat := [0, 1, 0, 4, 15, 0, 63, 127, 0, 256, 0, 1792, 4095, 8191, 16383]
theorem lorgnetteref01_Quo.tab10 : rtab .any (opsOf Try.f29 10) = lorgnetteref01_Quo.T10 := by kernel_rfl
theorem lorgnetteref01_Quo.bits10 : waitsOk lorgnetteref01_Quo.T10.2 lorgnetteref01_Quo.B10 = true := by kernel_rfl
set_option maxHeartbeats 8000000 in
set_option maxRecDepth 100000 in
theorem lorgnetteref01_Quo.calls (k : Nat) (a0_0 : Bool) (A0_1 : Option Addr) (c0_1 : Nat) (l0_1 : List Int) (a1_0 : Bool) (A1_1 : Option Addr) (c1_1 : Nat) (l1_1 : List Int) (r1 : Bool) (r2 : List Int) (r3 : Bool) (r4 : List Int) (w : World) (hr0_1 : Kd.C (Kd.int .i64) w A0_1 l0_1.length l0_1) (hc0_1 : l0_1.length ≤ c0_1) (hr1_1 : Kd.C (Kd.int .i64) w A1_1 l1_1.length l1_1) (hc1_1 : l1_1.length ≤ c1_1) (h : lorgnetteref01_Quo.f k a0_0 l0_1 a1_0 l1_1 = some (r1, r2, r3, r4)) :
  Calls Try.prog 29 #[.agg #[.bool a0_0, .slice A0_1 l0_1.length c0_1], .agg #[.bool a1_0, .slice A1_1 l1_1.length c1_1]] w fun e w' => ∃ v1_ v3_ : Value, e = .returned (.tuple #[.agg #[.bool r1, v1_], .agg #[.bool r3, v3_]]) ∧ Kd.R (Kd.int .i64) 3 w' w.heap.size (fun k_ => some k_ ≠ (v3_ : Value).ownBlock) v1_ r2 ∧ Kd.R (Kd.int .i64) 3 w' w.heap.size (fun k_ => some k_ ≠ (v1_ : Value).ownBlock) v3_ r4 ∧ Below w.heap.size w w' := by
 have hu28 := Try.underlying28
 have hu26 := Try.underlying26
 have HR0_1 := Aside0.mk hr0_1
 have HC0_1 := Aside0.mk hc0_1
 clear hr0_1 hc0_1
 have HR1_1 := Aside0.mk hr1_1
 have HC1_1 := Aside0.mk hc1_1
 clear hr1_1 hc1_1
 have HB := Aside0.mk (Below.refl w.heap.size w)
 have H : (if 0 ≤ (l0_1.length : Int) then (if ((l0_1.length : Int) : Int).toNat ≤ 35184372088832 then (lorgnetteref01_Quo.l0 k (List.replicate ((l0_1.length : Int) : Int).toNat 0) (([] : List Int)) (wrap64 ((l0_1.length : Int) - 1)) a0_0 l0_1 a1_0 l1_1) else (none)) else (none)) = some (r1, r2, r3, r4) := h
 clear h
 by_cases c3 : 0 ≤ (l0_1.length : Int)
 ·rw [if_pos c3] at H
  have c3b0 := eq_true c3
  have c3b1 : decide (0 ≤ (l0_1.length : Int)) = true := decide_eq_true c3
  clear c3
  by_cases c4 : ((l0_1.length : Int) : Int).toNat ≤ 35184372088832
  ·rw [if_pos c4] at H
   have c4b0 := eq_true c4
   have c4b1 : decide (((l0_1.length : Int) : Int).toNat ≤ 35184372088832) = true := decide_eq_true c4
   clear c4
   obtain ⟨y357, hy357⟩ : ∃ y_ : List Int, y_ = (List.replicate ((l0_1.length : Int) : Int).toNat 0) := ⟨_, rfl⟩
   replace H : (lorgnetteref01_Quo.l0 k y357 (([] : List Int)) (wrap64 ((l0_1.length : Int) - 1)) a0_0 l0_1 a1_0 l1_1) = some (r1, r2, r3, r4) := by first | (rw [hy357]; with_reducible exact H) | (have H2_ := (Option.bind_some _ _).symm.trans H; rw [hy357]; with_reducible exact H2_) | (have H2_ := (Option.bind_some _ _).symm.trans H; with_reducible exact H2_) | with_reducible exact H | (rw [hy357]; exact H) | exact H
   have Ny357 := Aside0.mk hy357
   clear hy357
   obtain ⟨y360, hy360⟩ : ∃ y_ : List Int, y_ = (([] : List Int)) := ⟨_, rfl⟩
   replace H : (lorgnetteref01_Quo.l0 k y357 y360 (wrap64 ((l0_1.length : Int) - 1)) a0_0 l0_1 a1_0 l1_1) = some (r1, r2, r3, r4) := by first | (rw [hy360]; with_reducible exact H) | (have H2_ := (Option.bind_some _ _).symm.trans H; rw [hy360]; with_reducible exact H2_) | (have H2_ := (Option.bind_some _ _).symm.trans H; with_reducible exact H2_) | with_reducible exact H | (rw [hy360]; exact H) | exact H
   have Ny360 := Aside0.mk hy360
   clear hy360
   have H' := Aside0.mk H
   clear H
   go_enter Try.func29, Try.ntmps29
   go_wp2_with (first | ((with_reducible refine gate_dst (N := 2) rfl ?_); refine box_event ?hg (N := 2) ?hd (cs := #[.bool a0_0, .slice A0_1 l0_1.length c0_1]) (t := 28) ?hr ?_; (case hd => rfl); (case hg => rfl); (case hr => first | (go_simp; done) | (go_simp; rfl)); intro gb353 hg w5 hbox hb; have n0_ := Aside0.mk (below_step (bL HB) hb); have n1_ := Aside0.mk (hbox); have n2_ := Aside0.mk ((by rw [hg]; exact (below_size (bL HB)) : w.heap.size ≤ gb353)); have n3_ := Aside0.mk ((by rw [hg]; exact (below_size (bL HB)) : w.heap.size ≤ gb353)); clear HB; have HB := n0_; have BK353 := n1_; have GW353 := n2_; have GE353 := n3_; clear n0_ n1_ n2_ n3_; clear hb hbox hg) | ((with_reducible refine gate_dst (N := 3) rfl ?_); refine box_event ?hg (N := 3) ?hd (cs := #[.bool a1_0, .slice A1_1 l1_1.length c1_1]) (t := 28) ?hr ?_; (case hd => rfl); (case hg => rfl); (case hr => first | (go_simp; done) | (go_simp; rfl)); intro gb354 hg w6 hbox hb; have n0_ := blkB BK353 hb; have n1_ := Aside0.mk (below_step (bL HB) hb); have n2_ := Aside0.mk (hbox); have n3_ := Aside0.mk ((by rw [hg]; exact (below_size (bL HB)) : w.heap.size ≤ gb354)); have n4_ := Aside0.mk ((by rw [hg]; exact (below_size (bL HB)) : w.heap.size ≤ gb354)); have n5_ := blkL BK353 hg; have n6_ := blkG BK353 hg; clear BK353 HB; have BK353 := n0_; have HB := n1_; have BK354 := n2_; have GW354 := n3_; have GE354 := n4_; have NB353_354 := n5_; have NB354_353 := n6_; clear n0_ n1_ n2_ n3_ n4_ n5_ n6_; clear hb hbox hg) | ((with_reducible refine gate_dst (N := 4) rfl ?_); refine box_event ?hg (N := 4) ?hd (cs := #[.bool false, .slice none 0 0]) (t := 28) ?hr ?_; (case hd => rfl); (case hg => rfl); (case hr => first | (go_simp; done) | (go_simp; rfl)); intro gb355 hg w7 hbox hb; have n0_ := blkB BK353 hb; have n1_ := blkB BK354 hb; have n2_ := Aside0.mk (below_step (bL HB) hb); have n3_ := Aside0.mk (hbox); have n4_ := Aside0.mk ((by rw [hg]; exact (below_size (bL HB)) : w.heap.size ≤ gb355)); have n5_ := Aside0.mk ((by rw [hg]; exact (below_size (bL HB)) : w.heap.size ≤ gb355)); have n6_ := blkL BK353 hg; have n7_ := blkG BK353 hg; have n8_ := blkL BK354 hg; have n9_ := blkG BK354 hg; clear BK353 BK354 HB; have BK353 := n0_; have BK354 := n1_; have HB := n2_; have BK355 := n3_; have GW355 := n4_; have GE355 := n5_; have NB353_355 := n6_; have NB355_353 := n7_; have NB354_355 := n8_; have NB355_354 := n9_; clear n0_ n1_ n2_ n3_ n4_ n5_ n6_ n7_ n8_ n9_; clear hb hbox hg) | ((with_reducible refine gate_dst (N := 5) rfl ?_); refine box_event ?hg (N := 5) ?hd (cs := #[.bool false, .slice none 0 0]) (t := 28) ?hr ?_; (case hd => rfl); (case hg => rfl); (case hr => first | (go_simp; done) | (go_simp; rfl)); intro gb356 hg w8 hbox hb; have n0_ := blkB BK353 hb; have n1_ := blkB BK354 hb; have n2_ := blkB BK355 hb; have n3_ := Aside0.mk (below_step (bL HB) hb); have n4_ := Aside0.mk (hbox); have n5_ := Aside0.mk ((by rw [hg]; exact (below_size (bL HB)) : w.heap.size ≤ gb356)); have n6_ := Aside0.mk ((by rw [hg]; exact (below_size (bL HB)) : w.heap.size ≤ gb356)); have n7_ := blkL BK353 hg; have n8_ := blkG BK353 hg; have n9_ := blkL BK354 hg; have n10_ := blkG BK354 hg; have n11_ := blkL BK355 hg; have n12_ := blkG BK355 hg; clear BK353 BK354 BK355 HB; have BK353 := n0_; have BK354 := n1_; have BK355 := n2_; have HB := n3_; have BK356 := n4_; have GW356 := n5_; have GE356 := n6_; have NB353_356 := n7_; have NB356_353 := n8_; have NB354_356 := n9_; have NB356_354 := n10_; have NB355_356 := n11_; have NB356_355 := n12_; clear n0_ n1_ n2_ n3_ n4_ n5_ n6_ n7_ n8_ n9_ n10_ n11_ n12_; clear hb hbox hg; have hnb9 := NB353_354.out; have hnc9 := NB354_353.out; have hnb10 := NB353_355.out; have hnc10 := NB355_353.out; have hnb11 := NB353_356.out; have hnc11 := NB356_353.out; have hcz12_0 : w8.cell? ⟨gb353, 0, none⟩ = some (.bool a0_0) := (blk_cell BK353.out 0).trans rfl; have hcz12_1 : w8.cell? ⟨gb353, 1, none⟩ = some (.slice A0_1 l0_1.length c0_1) := (blk_cell BK353.out 1).trans rfl; have hfz12_0 := blk_frozen BK353.out 0; have hfz12_1 := blk_frozen BK353.out 1) | ((with_reducible refine gate_dst (N := 12) rfl ?_); refine Kd.R_make (Kd.int .i64) _ 3 rfl (N := 12) rfl 26 _ _ rfl (l0_1.length : Int) rfl rfl Try.underlying26 (.int .i64 0) 8 info3 rfl (by decide) (by omega) 0 (ok := fun _ => True) (okp := fun _ => True) rfl (fun _ hk => hk) trivial (of_decide_eq_true (by first | (with_reducible assumption) | assumption)) (Nat.le_trans (Nat.mul_le_mul_right _ (of_decide_eq_true (by first | (with_reducible assumption) | assumption) : (l0_1.length : Int).toNat ≤ 35184372088832)) (by omega)) (Below.refl _ _) (Nat.le_refl _) ?_; intro v358 w13 ho14 hb hg_ hnew_; clear hg_ hnew_; (first | rw [← Ny357.out] at ho14 | (simp only [Int.reduceToNat] at ho14; rw [← Ny357.out] at ho14)); have n0_ := Aside0.mk (Kd.R_lower ho14 (below_size (bL HB))); have n1_ := blkB BK353 hb; have n2_ := blkB BK354 hb; have n3_ := blkB BK355 hb; have n4_ := blkB BK356 hb; have n5_ := Aside0.mk (below_step (bL HB) hb); clear BK353 BK354 BK355 BK356 HB; have HO359 := n0_; have BK353 := n1_; have BK354 := n2_; have BK355 := n3_; have BK356 := n4_; have HB := n5_; clear n0_ n1_ n2_ n3_ n4_ n5_; clear hb ho14) | ((with_reducible refine gate_dst (N := 13) rfl ?_); refine Kd.R_lit (Kd.int .i64) _ 3 ?hg (N := 13) ?hd (xs := ([] : List Int)) (inner := []) (ok := fun _ => True) (okp := fun _ => True) ?hr ?hp (fun _ hk => hk) trivial (Below.refl _ _) (Nat.le_refl _) (by simp) ?_; (case hd => rfl); (case hg => rfl); (case hr => first | (go_simp; done) | (go_simp; rfl)); (case hp => exact (Reps.none _ _)); intro v361 w15 ho16 hb hg_ hnew_; clear hg_ hnew_; (first | rw [← Ny360.out] at ho16 | (simp only [Int.reduceToNat] at ho16; rw [← Ny360.out] at ho16)); have n0_ := Aside0.mk (Kd.R_elder' (rN HO359) (Kd.R_base ho16) hb); have n1_ := Aside0.mk (Kd.R_lower (Kd.R_new' ho16 (Kd.R_lt (rN HO359))) (below_size (bL HB))); have n2_ := blkB BK353 hb; have n3_ := blkB BK354 hb; have n4_ := blkB BK355 hb; have n5_ := blkB BK356 hb; have n6_ := Aside0.mk (below_step (bL HB) hb); clear HO359 BK353 BK354 BK355 BK356 HB; have HO359 := n0_; have HO362 := n1_; have BK353 := n2_; have BK354 := n3_; have BK355 := n4_; have BK356 := n5_; have HB := n6_; clear n0_ n1_ n2_ n3_ n4_ n5_ n6_; clear hb ho16; have hcz17_0 : w15.cell? ⟨gb353, 0, none⟩ = some (.bool a0_0) := (blk_cell BK353.out 0).trans rfl; have hcz17_1 : w15.cell? ⟨gb353, 1, none⟩ = some (.slice A0_1 l0_1.length c0_1) := (blk_cell BK353.out 1).trans rfl; have hfz17_0 := blk_frozen BK353.out 0; have hfz17_1 := blk_frozen BK353.out 1))
   go_loopg [7, 8] k (fun kq v7 v8 w' => ∃ (x6_1 : List Int) (x7_1 : List Int) (x8_1 : Int), v8 = .int .i64 x8_1 ∧ Aside0 (lorgnetteref01_Quo.l0 kq x6_1 x7_1 x8_1 a0_0 l0_1 a1_0 l1_1 = some (r1, r2, r3, r4)) ∧ Aside0 (kq ≤ k) ∧ Aside0 (Kd.R (Kd.int .i64) 3 w' w.heap.size (fun k_ => some k_ ≠ (v7 : Value).ownBlock) v358 x6_1) ∧ Aside0 (Kd.R (Kd.int .i64) 3 w' w.heap.size (fun k_ => some k_ ≠ (v358 : Value).ownBlock) v7 x7_1) ∧ Aside0 (w'.heap[gb353]? = some (.cells #[.bool a0_0, (.slice A0_1 l0_1.length c0_1)] 28 (0, 0))) ∧ Aside0 (w'.heap[gb354]? = some (.cells #[.bool a1_0, (.slice A1_1 l1_1.length c1_1)] 28 (0, 0))) ∧ Aside0 (w'.heap[gb355]? = some (.cells #[.bool false, (.slice none 0 0)] 28 (0, 0))) ∧ Aside0 (w'.heap[gb356]? = some (.cells #[.bool false, (.slice none 0 0)] 28 (0, 0))) ∧ Aside0 (Below w.heap.size w w'))
   case atStart => exact ⟨(y357), (y360), (wrap64 ((l0_1.length : Int) - 1)), (by first | rfl | (simp; done) | (simp [*]; done)), H', ⟨Nat.le_refl _⟩, ⟨by (with_reducible repeat (first | apply Kd.R_alloc | apply Kd.R_drewN | apply Kd.R_drew)); exact Kd.R_mono HO359.out (fun _ hk => hk.2)⟩, ⟨by (with_reducible repeat (first | apply Kd.R_alloc | apply Kd.R_drewN | apply Kd.R_drew)); exact Kd.R_mono HO362.out (fun _ hk => hk.2)⟩, ⟨bN BK353⟩, ⟨bN BK354⟩, ⟨bN BK355⟩, ⟨bN BK356⟩, ⟨by repeat (first | (with_reducible first | exact HB.out | apply below_alloc | apply pw_below_drewN | apply below_drew1 | refine below_set ?_ GE353.out | refine below_set ?_ GE354.out | refine below_set ?_ GE355.out | refine below_set ?_ GE356.out) | exact HB.out)⟩⟩
   case round =>
    clear H'
    try clear c1
    try clear c2
    try clear p2
    try clear c3
    try clear c3b0
    try clear c3b1
    try clear c4
    try clear c4b0
    try clear c4b1
    try clear p6
    try clear c9
    try clear c10
    try clear c11
    try clear hcz12_0
    try clear hcz12_1
    try clear hcz17_0
    try clear hcz17_1
    try clear hfz12_0
    try clear hfz12_1
    try clear hfz17_0
    try clear hfz17_1
    obtain ⟨x6_1, x7_1, x8_1, rfl, HA, HK1, HO_6, HO_7, BK353, BK354, BK355, BK356, HB⟩ := hrel
    cases gk with
    | zero => exact absurd HA.out (by simp [lorgnetteref01_Quo.l0])
    | succ k1 =>
     have H := HA.out
     clear HA
     simp only [lorgnetteref01_Quo.l0] at H
     by_cases c18 : x8_1 ≥ 0
     ·rw [if_pos c18] at H
      have c18b0 : decide (0 ≤ x8_1) = true := decide_eq_true c18
      clear c18
      by_cases c19 : 0 ≤ x8_1
      ·rw [if_pos c19] at H
       have c19b0 : decide (0 ≤ x8_1) = true := decide_eq_true c19
       clear c19
       by_cases c20 : x8_1 < (l0_1.length : Int)
       ·rw [if_pos c20] at H
        have c20b0 : decide (x8_1 < (l0_1.length : Int)) = true := decide_eq_true c20
        clear c20
        obtain ⟨y372, hy372⟩ : ∃ y_ : List Int, y_ = (([rd l0_1 x8_1] : List Int)) := ⟨_, rfl⟩
        replace H : (if y372.length + x7_1.length < 17592186044416 then ((lorgnetteref01_trim.f k1 false (y372 ++ x7_1)).bind fun bt378 => (lorgnetteref01_Quo.l1 k1 x6_1 bt378.2 x8_1 a0_0 l0_1 a1_0 l1_1)) else (none)) = some (r1, r2, r3, r4) := by first | (rw [hy372]; with_reducible exact H) | (have H2_ := (Option.bind_some _ _).symm.trans H; rw [hy372]; with_reducible exact H2_) | (have H2_ := (Option.bind_some _ _).symm.trans H; with_reducible exact H2_) | with_reducible exact H | (rw [hy372]; exact H) | exact H
        have Ny372 := Aside0.mk hy372
        clear hy372
        by_cases c21 : y372.length + x7_1.length < 17592186044416
        ·rw [if_pos c21] at H
         have LMc21 := Aside0.mk c21
         clear c21
         obtain ⟨y375, hy375⟩ : ∃ y_ : List Int, y_ = (y372 ++ x7_1) := ⟨_, rfl⟩
         replace H : ((lorgnetteref01_trim.f k1 false y375).bind fun bt378 => (lorgnetteref01_Quo.l1 k1 x6_1 bt378.2 x8_1 a0_0 l0_1 a1_0 l1_1)) = some (r1, r2, r3, r4) := by first | (rw [hy375]; with_reducible exact H) | (have H2_ := (Option.bind_some _ _).symm.trans H; rw [hy375]; with_reducible exact H2_) | (have H2_ := (Option.bind_some _ _).symm.trans H; with_reducible exact H2_) | with_reducible exact H | (rw [hy375]; exact H) | exact H
         have Ny375 := Aside0.mk hy375
         clear hy375
         replace H := Option.bind_eq_some_iff.mp H
         obtain ⟨⟨t378, t379⟩, A220, H⟩ := H
         replace H : (lorgnetteref01_Quo.l1 k1 x6_1 t379 x8_1 a0_0 l0_1 a1_0 l1_1) = some (r1, r2, r3, r4) := H
         have A22 := Aside0.mk A220
         clear A220
         have H' := Aside0.mk H
         clear H
         have hnb23 := NB353_354.out
         have hnc23 := NB354_353.out
         have hnb24 := NB353_355.out
         have hnc24 := NB355_353.out
         have hnb25 := NB353_356.out
         have hnc25 := NB356_353.out
         have hcz26_0 : wr.cell? ⟨gb353, 0, none⟩ = some (.bool a0_0) := (blk_cell BK353.out 0).trans rfl
         have hcz26_1 : wr.cell? ⟨gb353, 1, none⟩ = some (.slice A0_1 l0_1.length c0_1) := (blk_cell BK353.out 1).trans rfl
         have hfz26_0 := blk_frozen BK353.out 0
         have hfz26_1 := blk_frozen BK353.out 1
         have p371 : 0 ≤ (x8_1 : Int) := of_decide_eq_true (by first | (with_reducible assumption) | assumption)
         have q371 : x8_1 < (l0_1.length : Int) := of_decide_eq_true (by first | (with_reducible assumption) | assumption)
         obtain ⟨ad371, e371, hx371_0⟩ := Kd.at_int HR0_1.out x8_1 p371 q371
         cases e371
         replace hx371_0 := (HB.out.cell (World.block_lt_of_cell? w _ hx371_0)).trans hx371_0
         replace p371 := eq_true p371
         replace q371 := eq_true q371
         go_wp2_with (first | ((with_reducible refine gate_dst (N := 27) rfl ?_); refine Kd.R_lit (Kd.int .i64) _ 3 ?hg (N := 27) ?hd (xs := ([rd l0_1 x8_1] : List Int)) (inner := [.int .i64 (rd l0_1 x8_1)]) (ok := fun _ => True) (okp := fun _ => True) ?hr ?hp (fun _ hk => hk) trivial (Below.refl _ _) (Nat.le_refl _) (by simp) ?_; (case hd => rfl); (case hg => rfl); (case hr => first | (go_simp; done) | (go_simp; rfl)); (case hp => exact (Reps.one (show Kd.M (Kd.int .i64) _ _ _ (rd l0_1 x8_1) [.int .i64 (rd l0_1 x8_1)] from rfl) (Reps.none _ _))); intro v373 w27 ho28 hb hg_ hnew_; clear hg_ hnew_; (first | rw [← Ny372.out] at ho28 | (simp only [Int.reduceToNat] at ho28; rw [← Ny372.out] at ho28)); have n0_ := Aside0.mk (Kd.R_elder' (rN HO_6) (Kd.R_base ho28) hb); have n1_ := Aside0.mk (Kd.R_elder' (rN HO_7) (Kd.R_base ho28) hb); have n2_ := Aside0.mk (Kd.R_lower (Kd.R_new' (Kd.R_new' ho28 (Kd.R_lt (rN HO_6))) (Kd.R_lt (rN HO_7))) (below_size (bL HB))); have n3_ := blkB BK353 hb; have n4_ := blkB BK354 hb; have n5_ := blkB BK355 hb; have n6_ := blkB BK356 hb; have n7_ := Aside0.mk (below_step (bL HB) hb); clear HO_6 HO_7 BK353 BK354 BK355 BK356 HB; have HO_6 := n0_; have HO_7 := n1_; have HO374 := n2_; have BK353 := n3_; have BK354 := n4_; have BK355 := n5_; have BK356 := n6_; have HB := n7_; clear n0_ n1_ n2_ n3_ n4_ n5_ n6_ n7_; clear hb ho28; obtain ⟨Ao30, co30, eo30⟩ := Kd.R_slice HO_7.out; subst eo30) | ((with_reducible refine gate_builtin (b := .append) (xs := #[.tmp 27, .tmp 28]) rfl ?_); at_builtin; refine Kd.R_append_rows (Kd.int .i64) (w0 := w) w.heap.size rfl (.tmp 27) (.tmp 28) 26 3 (.int .i64 0) 8 rfl Try.underlying26 info3 rfl (by decide) (by omega) v373 y372 x7_1 _ _ _ (fun k_ => some k_ ≠ (v358 : Value).ownBlock ∧ some k_ ≠ (.slice Ao30 x7_1.length co30 : Value).ownBlock) (fun _ => False) rfl rfl ?aO ?aR (fun _ _ h => h) (fun _ h => h.elim) ?aF ?aB ?aS ?aL ?_; (case aR => repeat (first | exact (Kd.R_reads' HO_7.out).2.2 | (with_reducible refine Kd.C_alloc ?_ _) | (with_reducible refine Kd.C_drewN ?_ _) | (with_reducible refine Kd.C_drew ?_))); (case aB => exact (bL HB)); (case aF => exact (fun k_ hk => ⟨Kd.fresh' (Kd.R_lt (rN HO_6)) k_ hk, Kd.fresh' (Kd.R_lt (rN HO_7)) k_ hk⟩)); (case aO => exact (by (with_reducible repeat (first | apply Kd.R_alloc | apply Kd.R_drewN | apply Kd.R_drew)); exact Kd.R_mono HO374.out (fun _ hk => ⟨hk.1.2, hk.2⟩))); (case aS => exact (below_size (bL HB))); (case aL => have := LMc21.out; omega); intro v376 w29 ho hb hg hat; rw [← Ny375.out] at ho; have n0_ := Aside0.mk (Kd.R_after (ok := (fun k_ => some k_ ≠ (.slice Ao30 x7_1.length co30 : Value).ownBlock)) (rN HO_6) hg hat); have n1_ := Aside0.mk (Kd.R_after (ok := (fun k_ => some k_ ≠ (v358 : Value).ownBlock)) (rN HO_7) hg hat); have n2_ := Aside0.mk (blk_grown (g := gb353) (o := .cells #[.bool a0_0, .slice (some ad371) l0_1.length c0_1] 28 (0, 0)) (bN BK353) hg (Kd.R_ne HO374.out BK353.out (by decide))); have n3_ := Aside0.mk (blk_grown (g := gb354) (o := .cells #[.bool a1_0, .slice A1_1 l1_1.length c1_1] 28 (0, 0)) (bN BK354) hg (Kd.R_ne HO374.out BK354.out (by decide))); have n4_ := Aside0.mk (blk_grown (g := gb355) (o := .cells #[.bool false, .slice none 0 0] 28 (0, 0)) (bN BK355) hg (Kd.R_ne HO374.out BK355.out (by decide))); have n5_ := Aside0.mk (blk_grown (g := gb356) (o := .cells #[.bool false, .slice none 0 0] 28 (0, 0)) (bN BK356) hg (Kd.R_ne HO374.out BK356.out (by decide))); have n6_ := Aside0.mk (hb); have n7_ := Aside0.mk (ho); clear HO_6 HO_7 BK353 BK354 BK355 BK356 HB HO374; have HO_6 := n0_; have HO_7 := n1_; have BK353 := n2_; have BK354 := n3_; have BK355 := n4_; have BK356 := n5_; have HB := n6_; have HO377 := n7_; clear n0_ n1_ n2_ n3_ n4_ n5_ n6_ n7_; clear ho hb hg hat; obtain ⟨Ao31, co31, eo31⟩ := Kd.R_slice HO377.out; subst eo31) | ((with_reducible refine gate_callee (f := 30) rfl ?_); refine goesL_ (some 31) rfl rfl Try.func30 (by kernel_rfl) rfl #[.agg #[.bool false, .slice Ao31 y375.length co31]] rfl (by (try simp only [List.map_toArray, List.map_cons, List.map_nil]); first | done | rfl | (simp only [List.length_drop, List.length_take]; rfl) | (go_simp; simp only [u8_w, w64_u8]; done) | (go_simp; simp only [u8_w, w64_u8]; rfl)) ?_; (with_reducible refine (lorgnetteref01_trim.calls k1 false (fun k_ => some k_ = (.slice Ao31 y375.length co31 : Value).ownBlock) (.slice Ao31 y375.length co31) y375 t378 t379 w _ ?side1 ?side2 A22.out).mono ?_); (case side1 => repeat (first | (with_reducible first | exact HB.out | apply below_alloc | apply pw_below_drewN | apply below_drew1 | refine below_set ?_ GE353.out | refine below_set ?_ GE354.out | refine below_set ?_ GE355.out | refine below_set ?_ GE356.out) | exact HB.out)); (case side2 => exact Kd.R_tight rfl HO377.out); rintro e w32 ⟨v380, rfl, ho0, hb, hkp⟩; refine ⟨_, rfl, ?_⟩; have n0_ := Aside0.mk (Kd.R_mono (ok' := fun k_ => some k_ ≠ (.slice Ao30 x7_1.length co30 : Value).ownBlock ∧ some k_ ≠ (v380 : Value).ownBlock) (Kd.R_keptB (HO_6.out) hkp (fun k_ hk_ hs_ => (hk_.2) hs_)) (fun k_ hk_ => ⟨hk_.1.1, fun e_ => Or.elim (ho0.1 k_ e_.symm) (fun hs_ => hk_.2.1 hs_) (fun hn_ => Nat.not_le.2 hk_.2.2 hn_)⟩)); have n1_ := Aside0.mk (Kd.R_mono (ok' := fun k_ => some k_ ≠ (v358 : Value).ownBlock ∧ some k_ ≠ (v380 : Value).ownBlock) (Kd.R_keptB (HO_7.out) hkp (fun k_ hk_ hs_ => (hk_.2) hs_)) (fun k_ hk_ => ⟨hk_.1.1, fun e_ => Or.elim (ho0.1 k_ e_.symm) (fun hs_ => hk_.2.1 hs_) (fun hn_ => Nat.not_le.2 hk_.2.2 hn_)⟩)); have n2_ := Aside0.mk (blk_kept (bN BK353) hkp (fun hs_ => (fun e_ => (Kd.R_ne HO377.out BK353.out (by decide)) e_) hs_)); have n3_ := Aside0.mk (blk_kept (bN BK354) hkp (fun hs_ => (fun e_ => (Kd.R_ne HO377.out BK354.out (by decide)) e_) hs_)); have n4_ := Aside0.mk (blk_kept (bN BK355) hkp (fun hs_ => (fun e_ => (Kd.R_ne HO377.out BK355.out (by decide)) e_) hs_)); have n5_ := Aside0.mk (blk_kept (bN BK356) hkp (fun hs_ => (fun e_ => (Kd.R_ne HO377.out BK356.out (by decide)) e_) hs_)); have n6_ := Aside0.mk (Kd.R_mono (ok' := fun k_ => some k_ ≠ (v358 : Value).ownBlock ∧ some k_ ≠ (.slice Ao30 x7_1.length co30 : Value).ownBlock) ho0 (fun k_ hk_ => ⟨Or.elim hk_ (fun hs_ => fun e_ => (((HO_6.out).1 k_ e_.symm).2) hs_) (fun hn_ => (Kd.fresh' (Kd.R_lt (rN HO_6)) k_ hn_)), Or.elim hk_ (fun hs_ => fun e_ => (((HO_7.out).1 k_ e_.symm).2) hs_) (fun hn_ => (Kd.fresh' (Kd.R_lt (rN HO_7)) k_ hn_))⟩)); have n7_ := Aside0.mk (hb); clear HO_6 HO_7 BK353 BK354 BK355 BK356 HB HO377; have HO_6 := n0_; have HO_7 := n1_; have BK353 := n2_; have BK354 := n3_; have BK355 := n4_; have BK356 := n5_; have HO381 := n6_; have HB := n7_; clear n0_ n1_ n2_ n3_ n4_ n5_ n6_ n7_; (try clear hb); (try clear hkp); (try clear ho0)))
         go_loopg [7] k1 (fun kq v7 w' => ∃ (x6_2 : List Int) (x7_2 : List Int), Aside0 (lorgnetteref01_Quo.l1 kq x6_2 x7_2 x8_1 a0_0 l0_1 a1_0 l1_1 = some (r1, r2, r3, r4)) ∧ Aside0 (kq ≤ k1) ∧ Aside0 (Kd.R (Kd.int .i64) 3 w' w.heap.size (fun k_ => some k_ ≠ (v7 : Value).ownBlock) v358 x6_2) ∧ Aside0 (Kd.R (Kd.int .i64) 3 w' w.heap.size (fun k_ => some k_ ≠ (v358 : Value).ownBlock) v7 x7_2) ∧ Aside0 (w'.heap[gb353]? = some (.cells #[.bool a0_0, (.slice (some ad371) l0_1.length c0_1)] 28 (0, 0))) ∧ Aside0 (w'.heap[gb354]? = some (.cells #[.bool a1_0, (.slice A1_1 l1_1.length c1_1)] 28 (0, 0))) ∧ Aside0 (w'.heap[gb355]? = some (.cells #[.bool false, (.slice none 0 0)] 28 (0, 0))) ∧ Aside0 (w'.heap[gb356]? = some (.cells #[.bool false, (.slice none 0 0)] 28 (0, 0))) ∧ Aside0 (Below w.heap.size w w'))
         case atStart => exact ⟨(x6_1), (t379), H', ⟨Nat.le_refl _⟩, ⟨by (with_reducible repeat (first | apply Kd.R_alloc | apply Kd.R_drewN | apply Kd.R_drew)); exact Kd.R_mono HO_6.out (fun _ hk => hk.2)⟩, ⟨by (with_reducible repeat (first | apply Kd.R_alloc | apply Kd.R_drewN | apply Kd.R_drew)); exact Kd.R_mono HO381.out (fun _ hk => hk.1)⟩, ⟨bN BK353⟩, ⟨bN BK354⟩, ⟨bN BK355⟩, ⟨bN BK356⟩, ⟨by repeat (first | (with_reducible first | exact HB.out | apply below_alloc | apply pw_below_drewN | apply below_drew1 | refine below_set ?_ GE353.out | refine below_set ?_ GE354.out | refine below_set ?_ GE355.out | refine below_set ?_ GE356.out) | exact HB.out)⟩⟩
         case round =>
          clear H'
          try clear c1
          try clear c2
          try clear p2
          try clear c3
          try clear c3b0
          try clear c3b1
          try clear p3
          try clear q3
          try clear hx3
          try clear c4
          try clear c4b0
          try clear c4b1
          try clear p6
          try clear c9
          try clear c10
          try clear c11
          try clear c18
          try clear c18b0
          try clear c19
          try clear c19b0
          try clear c20
          try clear c20b0
          try clear c21
          try clear c23
          try clear c24
          try clear c25
          try clear c29
          try clear c30
          try clear hcz12_0
          try clear hcz12_1
          try clear hcz17_0
          try clear hcz17_1
          try clear hcz26_0
          try clear hcz26_1
          try clear hfz12_0
          try clear hfz12_1
          try clear hfz17_0
          try clear hfz17_1
          try clear hfz26_0
          try clear hfz26_1
          try clear hx371_0
          try clear p2
          try clear p371
          try clear p6
          try clear q371
          obtain ⟨x6_2, x7_2, HA, HK2, HO_6, HO_7, BK353, BK354, BK355, BK356, HB⟩ := hrel
          cases gk with
          | zero => exact absurd HA.out (by simp [lorgnetteref01_Quo.l1])
          | succ k2 =>
           have H := HA.out
           clear HA
           simp only [lorgnetteref01_Quo.l1] at H
           replace H := Option.bind_eq_some_iff.mp H
           obtain ⟨t382, A330, H⟩ := H
           replace H : (if t382 ≥ 0 then ((lorgnetteref01_minus.f k2 x7_2 l1_1).bind fun t383 => ((lorgnetteref01_trim.f k2 false t383).bind fun bt386 => (if 0 ≤ x8_1 then (if x8_1 < (x6_2.length : Int) then (lorgnetteref01_Quo.l1 k2 (x6_2.set (x8_1 : Int).toNat (wrap64 ((rd x6_2 x8_1) + 1))) bt386.2 x8_1 a0_0 l0_1 a1_0 l1_1) else (none)) else (none)))) else (lorgnetteref01_Quo.l0 k2 x6_2 x7_2 (wrap64 (x8_1 - 1)) a0_0 l0_1 a1_0 l1_1)) = some (r1, r2, r3, r4) := H
           have A33 := Aside0.mk A330
           clear A330
           by_cases c34 : t382 ≥ 0
           ·rw [if_pos c34] at H
            have c34b0 : decide (0 ≤ t382) = true := decide_eq_true c34
            clear c34
            replace H := Option.bind_eq_some_iff.mp H
            obtain ⟨t383, A350, H⟩ := H
            replace H : ((lorgnetteref01_trim.f k2 false t383).bind fun bt386 => (if 0 ≤ x8_1 then (if x8_1 < (x6_2.length : Int) then (lorgnetteref01_Quo.l1 k2 (x6_2.set (x8_1 : Int).toNat (wrap64 ((rd x6_2 x8_1) + 1))) bt386.2 x8_1 a0_0 l0_1 a1_0 l1_1) else (none)) else (none))) = some (r1, r2, r3, r4) := H
            have A35 := Aside0.mk A350
            clear A350
            replace H := Option.bind_eq_some_iff.mp H
            obtain ⟨⟨t386, t387⟩, A360, H⟩ := H
            replace H : (if 0 ≤ x8_1 then (if x8_1 < (x6_2.length : Int) then (lorgnetteref01_Quo.l1 k2 (x6_2.set (x8_1 : Int).toNat (wrap64 ((rd x6_2 x8_1) + 1))) t387 x8_1 a0_0 l0_1 a1_0 l1_1) else (none)) else (none)) = some (r1, r2, r3, r4) := H
            have A36 := Aside0.mk A360
            clear A360
            by_cases c37 : 0 ≤ x8_1
            ·rw [if_pos c37] at H
             have c37b0 : decide (0 ≤ x8_1) = true := decide_eq_true c37
             clear c37
             by_cases c38 : x8_1 < (x6_2.length : Int)
             ·rw [if_pos c38] at H
              have c38b0 : decide (x8_1 < (x6_2.length : Int)) = true := decide_eq_true c38
              clear c38
              obtain ⟨y391, hy391⟩ : ∃ y_ : List Int, y_ = (x6_2.set (x8_1 : Int).toNat (wrap64 ((rd x6_2 x8_1) + 1))) := ⟨_, rfl⟩
              replace H : (lorgnetteref01_Quo.l1 k2 y391 t387 x8_1 a0_0 l0_1 a1_0 l1_1) = some (r1, r2, r3, r4) := by first | (rw [hy391]; with_reducible exact H) | (have H2_ := (Option.bind_some _ _).symm.trans H; rw [hy391]; with_reducible exact H2_) | (have H2_ := (Option.bind_some _ _).symm.trans H; with_reducible exact H2_) | with_reducible exact H | (rw [hy391]; exact H) | exact H
              have Ny391 := Aside0.mk hy391
              clear hy391
              have H' := Aside0.mk H
              clear H
              have hnb40 := NB354_353.out
              have hnc40 := NB353_354.out
              have hnb41 := NB354_355.out
              have hnc41 := NB355_354.out
              have hnb42 := NB354_356.out
              have hnc42 := NB356_354.out
              have hcz43_0 : wr.cell? ⟨gb354, 0, none⟩ = some (.bool a1_0) := (blk_cell BK354.out 0).trans rfl
              have hcz43_1 : wr.cell? ⟨gb354, 1, none⟩ = some (.slice A1_1 l1_1.length c1_1) := (blk_cell BK354.out 1).trans rfl
              have hfz43_0 := blk_frozen BK354.out 0
              have hfz43_1 := blk_frozen BK354.out 1
              obtain ⟨Ao44, co44, eo44⟩ := Kd.R_slice HO_7.out
              subst eo44
              go_wp2_with (first | ((with_reducible refine gate_callee (f := 33) rfl ?_); refine goesL_ (some 36) rfl rfl Try.func33 (by kernel_rfl) rfl #[.slice Ao44 x7_2.length co44, .slice A1_1 l1_1.length c1_1] rfl (by (try simp only [List.map_toArray, List.map_cons, List.map_nil]); first | done | rfl | (simp only [List.length_drop, List.length_take]; rfl) | (go_simp; simp only [u8_w, w64_u8]; done) | (go_simp; simp only [u8_w, w64_u8]; rfl)) ?_; (with_reducible refine (lorgnetteref01_more.calls k2 _ _ x7_2 _ _ l1_1 t382 _ ?side1 ?side2 ?side3 ?side4 A33.out).mono ?_); (case side1 => repeat (first | exact (Kd.R_reads' HO_7.out).2.2 | (with_reducible refine Kd.C_alloc ?_ _) | (with_reducible refine Kd.C_drewN ?_ _) | (with_reducible refine Kd.C_drew ?_))); (case side2 => exact (Kd.R_reads' HO_7.out).2.1); (case side3 => repeat (first | exact (Kd.C_below HR1_1.out HB.out) | (with_reducible refine Kd.C_alloc ?_ _) | (with_reducible refine Kd.C_drewN ?_ _) | (with_reducible refine Kd.C_drew ?_))); (case side4 => exact HC1_1.out); rintro e w45 ⟨rfl, hb⟩; refine ⟨_, rfl, ?_⟩; have n0_ := Aside0.mk (Kd.R_below (rN HO_6) hb); have n1_ := Aside0.mk (Kd.R_below (rN HO_7) hb); have n2_ := blkB BK353 hb; have n3_ := blkB BK354 hb; have n4_ := blkB BK355 hb; have n5_ := blkB BK356 hb; have n6_ := Aside0.mk (below_step (bL HB) hb); clear HO_6 HO_7 BK353 BK354 BK355 BK356 HB; have HO_6 := n0_; have HO_7 := n1_; have BK353 := n2_; have BK354 := n3_; have BK355 := n4_; have BK356 := n5_; have HB := n6_; clear n0_ n1_ n2_ n3_ n4_ n5_ n6_; (try clear hb); (try clear hb2); (try clear hk); (try clear hi); have hcz46_0 : w45.cell? ⟨gb354, 0, none⟩ = some (.bool a1_0) := (blk_cell BK354.out 0).trans rfl; have hcz46_1 : w45.cell? ⟨gb354, 1, none⟩ = some (.slice A1_1 l1_1.length c1_1) := (blk_cell BK354.out 1).trans rfl; have hfz46_0 := blk_frozen BK354.out 0; have hfz46_1 := blk_frozen BK354.out 1) | ((with_reducible refine gate_callee (f := 31) rfl ?_); refine goesL_ (some 41) rfl rfl Try.func31 (by kernel_rfl) rfl #[.slice Ao44 x7_2.length co44, .slice A1_1 l1_1.length c1_1] rfl (by (try simp only [List.map_toArray, List.map_cons, List.map_nil]); first | done | rfl | (simp only [List.length_drop, List.length_take]; rfl) | (go_simp; simp only [u8_w, w64_u8]; done) | (go_simp; simp only [u8_w, w64_u8]; rfl)) ?_; (with_reducible refine (lorgnetteref01_minus.calls k2 _ _ x7_2 _ _ l1_1 t383 _ ?side1 ?side2 ?side3 ?side4 A35.out).mono ?_); (case side1 => repeat (first | exact (Kd.R_reads' HO_7.out).2.2 | (with_reducible refine Kd.C_alloc ?_ _) | (with_reducible refine Kd.C_drewN ?_ _) | (with_reducible refine Kd.C_drew ?_))); (case side2 => exact (Kd.R_reads' HO_7.out).2.1); (case side3 => repeat (first | exact (Kd.C_below HR1_1.out HB.out) | (with_reducible refine Kd.C_alloc ?_ _) | (with_reducible refine Kd.C_drewN ?_ _) | (with_reducible refine Kd.C_drew ?_))); (case side4 => exact HC1_1.out); rintro e w47 ⟨v384, rfl, ho0, hb⟩; refine ⟨_, rfl, ?_⟩; have n0_ := Aside0.mk (Kd.R_elder' (rN HO_6) (Kd.R_base ho0) hb); have n1_ := Aside0.mk (Kd.R_elder' (rN HO_7) (Kd.R_base ho0) hb); have n2_ := Aside0.mk (Kd.R_lower (Kd.R_new' (Kd.R_new' ho0 (Kd.R_lt (rN HO_6))) (Kd.R_lt (rN HO_7))) (below_size (bL HB))); have n3_ := blkB BK353 hb; have n4_ := blkB BK354 hb; have n5_ := blkB BK355 hb; have n6_ := blkB BK356 hb; have n7_ := Aside0.mk (below_step (bL HB) hb); clear HO_6 HO_7 BK353 BK354 BK355 BK356 HB; have HO_6 := n0_; have HO_7 := n1_; have HO385 := n2_; have BK353 := n3_; have BK354 := n4_; have BK355 := n5_; have BK356 := n6_; have HB := n7_; clear n0_ n1_ n2_ n3_ n4_ n5_ n6_ n7_; (try clear hb); (try clear hb2); (try clear hk); (try clear hi); (try clear ho0); obtain ⟨Ao48, co48, eo48⟩ := Kd.R_slice HO385.out; subst eo48) | ((with_reducible refine gate_callee (f := 30) rfl ?_); refine goesL_ (some 43) rfl rfl Try.func30 (by kernel_rfl) rfl #[.agg #[.bool false, .slice Ao48 t383.length co48]] rfl (by (try simp only [List.map_toArray, List.map_cons, List.map_nil]); first | done | rfl | (simp only [List.length_drop, List.length_take]; rfl) | (go_simp; simp only [u8_w, w64_u8]; done) | (go_simp; simp only [u8_w, w64_u8]; rfl)) ?_; (with_reducible refine (lorgnetteref01_trim.calls k2 false (fun k_ => some k_ = (.slice Ao48 t383.length co48 : Value).ownBlock) (.slice Ao48 t383.length co48) t383 t386 t387 w _ ?side1 ?side2 A36.out).mono ?_); (case side1 => repeat (first | (with_reducible first | exact HB.out | apply below_alloc | apply pw_below_drewN | apply below_drew1 | refine below_set ?_ GE353.out | refine below_set ?_ GE354.out | refine below_set ?_ GE355.out | refine below_set ?_ GE356.out) | exact HB.out)); (case side2 => exact Kd.R_tight rfl HO385.out); rintro e w49 ⟨v388, rfl, ho0, hb, hkp⟩; refine ⟨_, rfl, ?_⟩; have n0_ := Aside0.mk (Kd.R_mono (ok' := fun k_ => some k_ ≠ (.slice Ao44 x7_2.length co44 : Value).ownBlock ∧ some k_ ≠ (v388 : Value).ownBlock) (Kd.R_keptB (HO_6.out) hkp (fun k_ hk_ hs_ => (hk_.2) hs_)) (fun k_ hk_ => ⟨hk_.1.1, fun e_ => Or.elim (ho0.1 k_ e_.symm) (fun hs_ => hk_.2.1 hs_) (fun hn_ => Nat.not_le.2 hk_.2.2 hn_)⟩)); have n1_ := Aside0.mk (Kd.R_mono (ok' := fun k_ => some k_ ≠ (v358 : Value).ownBlock ∧ some k_ ≠ (v388 : Value).ownBlock) (Kd.R_keptB (HO_7.out) hkp (fun k_ hk_ hs_ => (hk_.2) hs_)) (fun k_ hk_ => ⟨hk_.1.1, fun e_ => Or.elim (ho0.1 k_ e_.symm) (fun hs_ => hk_.2.1 hs_) (fun hn_ => Nat.not_le.2 hk_.2.2 hn_)⟩)); have n2_ := Aside0.mk (blk_kept (bN BK353) hkp (fun hs_ => (fun e_ => (Kd.R_ne HO385.out BK353.out (by decide)) e_) hs_)); have n3_ := Aside0.mk (blk_kept (bN BK354) hkp (fun hs_ => (fun e_ => (Kd.R_ne HO385.out BK354.out (by decide)) e_) hs_)); have n4_ := Aside0.mk (blk_kept (bN BK355) hkp (fun hs_ => (fun e_ => (Kd.R_ne HO385.out BK355.out (by decide)) e_) hs_)); have n5_ := Aside0.mk (blk_kept (bN BK356) hkp (fun hs_ => (fun e_ => (Kd.R_ne HO385.out BK356.out (by decide)) e_) hs_)); have n6_ := Aside0.mk (Kd.R_mono (ok' := fun k_ => some k_ ≠ (v358 : Value).ownBlock ∧ some k_ ≠ (.slice Ao44 x7_2.length co44 : Value).ownBlock) ho0 (fun k_ hk_ => ⟨Or.elim hk_ (fun hs_ => fun e_ => (((HO_6.out).1 k_ e_.symm).2) hs_) (fun hn_ => (Kd.fresh' (Kd.R_lt (rN HO_6)) k_ hn_)), Or.elim hk_ (fun hs_ => fun e_ => (((HO_7.out).1 k_ e_.symm).2) hs_) (fun hn_ => (Kd.fresh' (Kd.R_lt (rN HO_7)) k_ hn_))⟩)); have n7_ := Aside0.mk (hb); clear HO_6 HO_7 BK353 BK354 BK355 BK356 HB HO385; have HO_6 := n0_; have HO_7 := n1_; have BK353 := n2_; have BK354 := n3_; have BK355 := n4_; have BK356 := n5_; have HO389 := n6_; have HB := n7_; clear n0_ n1_ n2_ n3_ n4_ n5_ n6_ n7_; (try clear hb); (try clear hkp); (try clear ho0); obtain ⟨Ao50, co50, eo50⟩ := Kd.R_slice HO_6.out; subst eo50; have p390 : 0 ≤ (x8_1 : Int) := of_decide_eq_true (by first | (with_reducible assumption) | assumption); have q390 : x8_1 < (x6_2.length : Int) := of_decide_eq_true (by first | (with_reducible assumption) | assumption); obtain ⟨ad390, e390, hx390_0⟩ := Kd.at_int (Kd.R_reads' HO_6.out).2.2 x8_1 p390 q390; cases e390; replace p390 := eq_true p390; replace q390 := eq_true q390; have p39 : 0 ≤ (x8_1 : Int) := of_decide_eq_true (by first | (with_reducible assumption) | assumption); have q39 : (x8_1 : Int) < ((x6_2.length : Int) : Int) := of_decide_eq_true (by first | (with_reducible assumption) | assumption); obtain ⟨go39, co39, eo39, gb39, gl39, cl39, HG39⟩ := Kd.R_form HO_6.out (by omega); (first | cases eo39 | (injection eo39 with ea_ en_ ec_; (first | subst ea_ | (injection ea_ with ea_; subst ea_)); subst ec_; clear en_)); have GB39 := Aside0.mk gb39; have GG39 := Aside0.mk HG39; clear gb39 gl39 HG39; (first | simp only [add_plain] at hx390_0 | skip); obtain ⟨hx39_0, hf39_0⟩ := Kd.R_celln 0 HO_6.out (x8_1 : Int) p39 q39; replace p39 := eq_true p39; replace q39 := eq_true q39; obtain ⟨hy51_, hz51_⟩ := Kd.R_celln 0 HO_6.out (x8_1 : Int) (of_decide_eq_true (by first | (with_reducible assumption) | assumption)) (of_decide_eq_true (by first | (with_reducible assumption) | assumption)); have HP51 := Kd.R_putg HO_6.out (x8_1 : Int) (wrap64 ((rd x6_2 x8_1) + 1))) | ((with_reducible refine gate_store (t := 3) (p := 50) rfl ?_); refine store_event (t := 3) (p := 50) (v := ?vo_w52) (w1 := (w49.setCell ⟨go39, (x8_1 : Int).toNat, none⟩ (.int .i64 (wrap64 ((rd x6_2 x8_1) + 1))))) ?hg ?ho ?hn ?hr ?_; (case ho => rfl); (case hg => rfl); (case hn => rfl); (case hr => first | (go_simp; done) | (go_simp; rfl)); intro w52 hw; have hg : w49.grownBy w52 (some go39) := (by rw [hw]; exact HP51.2); have hp_ : Kd.R (Kd.int .i64) 3 w52 w.heap.size (fun k_ => some k_ ≠ (.slice Ao44 x7_2.length co44 : Value).ownBlock ∧ some k_ ≠ (v388 : Value).ownBlock) (.slice (some ⟨go39, 0, none⟩) x6_2.length co50) y391 := (by rw [hw, Ny391.out]; exact HP51.1); clear HP51; have n0_ := Aside0.mk (hp_); have n1_ := Aside0.mk (Kd.R_after (v := (.slice (some ⟨go39, 0, none⟩) x6_2.length co50)) (v1 := (.slice (some ⟨go39, 0, none⟩) x6_2.length co50)) (ok := (fun k_ => some k_ ≠ (v388 : Value).ownBlock)) (by (with_reducible repeat (first | apply Kd.R_alloc | apply Kd.R_drewN | apply Kd.R_drew)); exact Kd.R_mono HO_7.out (fun _ hk => ⟨hk.2, hk.1⟩)) hg (.inl rfl)); have n2_ := Aside0.mk (blk_grown (g := gb353) (o := .cells #[.bool a0_0, .slice (some ad371) l0_1.length c0_1] 28 (0, 0)) (bN BK353) hg (Kd.R_ne HO_6.out BK353.out (by decide))); have n3_ := Aside0.mk (blk_grown (g := gb354) (o := .cells #[.bool a1_0, .slice A1_1 l1_1.length c1_1] 28 (0, 0)) (bN BK354) hg (Kd.R_ne HO_6.out BK354.out (by decide))); have n4_ := Aside0.mk (blk_grown (g := gb355) (o := .cells #[.bool false, .slice none 0 0] 28 (0, 0)) (bN BK355) hg (Kd.R_ne HO_6.out BK355.out (by decide))); have n5_ := Aside0.mk (blk_grown (g := gb356) (o := .cells #[.bool false, .slice none 0 0] 28 (0, 0)) (bN BK356) hg (Kd.R_ne HO_6.out BK356.out (by decide))); have n6_ := Aside0.mk (Kd.R_after (v := (.slice (some ⟨go39, 0, none⟩) x6_2.length co50)) (v1 := (.slice (some ⟨go39, 0, none⟩) x6_2.length co50)) (ok := (fun k_ => some k_ ≠ (.slice Ao44 x7_2.length co44 : Value).ownBlock)) (by (with_reducible repeat (first | apply Kd.R_alloc | apply Kd.R_drewN | apply Kd.R_drew)); exact Kd.R_mono HO389.out (fun _ hk => ⟨hk.2, hk.1⟩)) hg (.inl rfl)); have n7_ := Aside0.mk ((by rw [hw]; exact below_set (HB.out) GB39.out : Below w.heap.size w w52)); clear HO_6 HO_7 BK353 BK354 BK355 BK356 HO389 HB; have HO_6 := n0_; have HO_7 := n1_; have BK353 := n2_; have BK354 := n3_; have BK355 := n4_; have BK356 := n5_; have HO389 := n6_; have HB := n7_; clear n0_ n1_ n2_ n3_ n4_ n5_ n6_ n7_; clear hg hw hp_))
              go_roundg k2
              case measure => have := HK1.out; have := HK2.out; omega
              case rel => exact ⟨(y391), (t387), H', ⟨by have := HK1.out; have := HK2.out; omega⟩, ⟨by (with_reducible repeat (first | apply Kd.R_alloc | apply Kd.R_drewN | apply Kd.R_drew)); exact Kd.R_mono HO_6.out (fun _ hk => hk.2)⟩, ⟨by (with_reducible repeat (first | apply Kd.R_alloc | apply Kd.R_drewN | apply Kd.R_drew)); exact Kd.R_mono HO389.out (fun _ hk => hk.2)⟩, ⟨bN BK353⟩, ⟨bN BK354⟩, ⟨bN BK355⟩, ⟨bN BK356⟩, ⟨by repeat (first | (with_reducible first | exact HB.out | apply below_alloc | apply pw_below_drewN | apply below_drew1 | refine below_set ?_ GE353.out | refine below_set ?_ GE354.out | refine below_set ?_ GE355.out | refine below_set ?_ GE356.out) | exact HB.out)⟩⟩
             ·rw [if_neg c38] at H
              exact absurd H (by simp)
            ·rw [if_neg c37] at H
             exact absurd H (by simp)
           ·rw [if_neg c34] at H
            have c34b0 : decide (0 ≤ t382) = false := decide_eq_false c34
            clear c34
            have H' := Aside0.mk H
            clear H
            have hnb53 := NB354_353.out
            have hnc53 := NB353_354.out
            have hnb54 := NB354_355.out
            have hnc54 := NB355_354.out
            have hnb55 := NB354_356.out
            have hnc55 := NB356_354.out
            have hcz56_0 : wr.cell? ⟨gb354, 0, none⟩ = some (.bool a1_0) := (blk_cell BK354.out 0).trans rfl
            have hcz56_1 : wr.cell? ⟨gb354, 1, none⟩ = some (.slice A1_1 l1_1.length c1_1) := (blk_cell BK354.out 1).trans rfl
            have hfz56_0 := blk_frozen BK354.out 0
            have hfz56_1 := blk_frozen BK354.out 1
            obtain ⟨Ao57, co57, eo57⟩ := Kd.R_slice HO_7.out
            subst eo57
            go_wp2_with (first | ((with_reducible refine gate_callee (f := 33) rfl ?_); refine goesL_ (some 36) rfl rfl Try.func33 (by kernel_rfl) rfl #[.slice Ao57 x7_2.length co57, .slice A1_1 l1_1.length c1_1] rfl (by (try simp only [List.map_toArray, List.map_cons, List.map_nil]); first | done | rfl | (simp only [List.length_drop, List.length_take]; rfl) | (go_simp; simp only [u8_w, w64_u8]; done) | (go_simp; simp only [u8_w, w64_u8]; rfl)) ?_; (with_reducible refine (lorgnetteref01_more.calls k2 _ _ x7_2 _ _ l1_1 t382 _ ?side1 ?side2 ?side3 ?side4 A33.out).mono ?_); (case side1 => repeat (first | exact (Kd.R_reads' HO_7.out).2.2 | (with_reducible refine Kd.C_alloc ?_ _) | (with_reducible refine Kd.C_drewN ?_ _) | (with_reducible refine Kd.C_drew ?_))); (case side2 => exact (Kd.R_reads' HO_7.out).2.1); (case side3 => repeat (first | exact (Kd.C_below HR1_1.out HB.out) | (with_reducible refine Kd.C_alloc ?_ _) | (with_reducible refine Kd.C_drewN ?_ _) | (with_reducible refine Kd.C_drew ?_))); (case side4 => exact HC1_1.out); rintro e w58 ⟨rfl, hb⟩; refine ⟨_, rfl, ?_⟩; have n0_ := Aside0.mk (Kd.R_below (rN HO_6) hb); have n1_ := Aside0.mk (Kd.R_below (rN HO_7) hb); have n2_ := blkB BK353 hb; have n3_ := blkB BK354 hb; have n4_ := blkB BK355 hb; have n5_ := blkB BK356 hb; have n6_ := Aside0.mk (below_step (bL HB) hb); clear HO_6 HO_7 BK353 BK354 BK355 BK356 HB; have HO_6 := n0_; have HO_7 := n1_; have BK353 := n2_; have BK354 := n3_; have BK355 := n4_; have BK356 := n5_; have HB := n6_; clear n0_ n1_ n2_ n3_ n4_ n5_ n6_; (try clear hb); (try clear hb2); (try clear hk); (try clear hi)))
            go_roundg k2
            case measure => have := HK1.out; have := HK2.out; omega
            case rel => exact ⟨(x6_2), (x7_2), (wrap64 (x8_1 - 1)), (by first | rfl | (simp; done) | (simp [*]; done)), H', ⟨by have := HK1.out; have := HK2.out; omega⟩, ⟨by (with_reducible repeat (first | apply Kd.R_alloc | apply Kd.R_drewN | apply Kd.R_drew)); exact HO_6.out⟩, ⟨by (with_reducible repeat (first | apply Kd.R_alloc | apply Kd.R_drewN | apply Kd.R_drew)); exact HO_7.out⟩, ⟨bN BK353⟩, ⟨bN BK354⟩, ⟨bN BK355⟩, ⟨bN BK356⟩, ⟨by repeat (first | (with_reducible first | exact HB.out | apply below_alloc | apply pw_below_drewN | apply below_drew1 | refine below_set ?_ GE353.out | refine below_set ?_ GE354.out | refine below_set ?_ GE355.out | refine below_set ?_ GE356.out) | exact HB.out)⟩⟩
        ·rw [if_neg c21] at H
         exact absurd H (by simp)
       ·rw [if_neg c20] at H
        exact absurd H (by simp)
      ·rw [if_neg c19] at H
       exact absurd H (by simp)
     ·rw [if_neg c18] at H
      have c18b0 : decide (0 ≤ x8_1) = false := decide_eq_false c18
      clear c18
      replace H := Option.bind_eq_some_iff.mp H
      obtain ⟨⟨t363, t364⟩, A590, H⟩ := H
      replace H : ((lorgnetteref01_trim.f k1 a0_0 x7_1).bind fun bt367 => (some (t363, t364, bt367.1, bt367.2))) = some (r1, r2, r3, r4) := H
      have A59 := Aside0.mk A590
      clear A590
      replace H := Option.bind_eq_some_iff.mp H
      obtain ⟨⟨t367, t368⟩, A600, H⟩ := H
      replace H : (some (t363, t364, t367, t368)) = some (r1, r2, r3, r4) := H
      have A60 := Aside0.mk A600
      clear A600
      simp only [Option.some.injEq, Prod.mk.injEq] at H
      obtain ⟨rfl, rfl, rfl, rfl⟩ := H
      try go_wp2
      have n0_ := Aside0.mk (Kd.R_drew HO_6.out)
      have n1_ := Aside0.mk (Kd.R_drew HO_7.out)
      have n2_ := Aside0.mk (blk_drew BK353.out)
      have n3_ := Aside0.mk (blk_drew BK354.out)
      have n4_ := Aside0.mk (blk_drew BK355.out)
      have n5_ := Aside0.mk (blk_drew BK356.out)
      have n6_ := Aside0.mk (below_drew1 HB.out)
      clear HO_6
      clear HO_7
      clear BK353
      clear BK354
      clear BK355
      clear BK356
      clear HB
      have HO_6 := n0_
      have HO_7 := n1_
      have BK353 := n2_
      have BK354 := n3_
      have BK355 := n4_
      have BK356 := n5_
      have HB := n6_
      clear n0_ n1_ n2_ n3_ n4_ n5_ n6_
      obtain ⟨Ao62, co62, eo62⟩ := Kd.R_slice HO_6.out
      (first | subst eo62 | (injection eo62 with f1_ f2_ f3_; have f4_ := f1_.symm; have f5_ := f3_.symm; clear f1_ f2_ f3_; subst f4_; subst f5_))
      obtain ⟨Ao63, co63, eo63⟩ := Kd.R_slice HO_7.out
      (first | subst eo63 | (injection eo63 with f1_ f2_ f3_; have f4_ := f1_.symm; have f5_ := f3_.symm; clear f1_ f2_ f3_; subst f4_; subst f5_))
      refine start_ (n := 15) (S := fun w' => w'.cell? ⟨gb353, 0, none⟩ = some (.bool a0_0) ∧ w'.cell? ⟨gb353, 1, none⟩ = some (.slice A0_1 l0_1.length c0_1) ∧ w'.cell? ⟨gb354, 0, none⟩ = some (.bool a1_0) ∧ w'.cell? ⟨gb354, 1, none⟩ = some (.slice A1_1 l1_1.length c1_1)) (ds := []) #[false, false, false, false, false, false, false, false, false, false, false, false, false, false, false] (by kernel_rfl) rfl rfl ⟨(blk_cell BK353.out 0).trans rfl, (blk_cell BK353.out 1).trans rfl, (blk_cell BK354.out 0).trans rfl, (blk_cell BK354.out 1).trans rfl⟩ (fun hHeld => ?_); refine with_tabW lorgnetteref01_Quo.tab10 lorgnetteref01_Quo.bits10 (fun HT_ HW_ => ?_)
      generalize wr.drew = w61 at HO_6 HO_7 BK353 BK354 BK355 BK356 HB hHeld ⊢
      refine pure_ (i := 0) (N := some 51) (v := ?_) (a' := ?_) #[true, false, false, false, false, false, false, false, false, false, false, false, false, false, false] rfl rfl (any_of HT_.out (by kernel_rfl)) (fun _ _ _ h => h) (Or.inl ⟨by rfl, ?_⟩) ?_ ?_
      rotate_left
      ·intro w'
       go_simp
       with_reducible rfl
      rotate_left
      ·simp only [Act.put, List.setIfInBounds_toArray, List.set_cons_zero, List.set_cons_succ, i64_w, i32_w]
       rfl
      refine pure_ (i := 2) (N := some 53) (v := ?_) (a' := ?_) #[true, false, true, false, false, false, false, false, false, false, false, false, false, false, false] rfl rfl (any_of HT_.out (by kernel_rfl)) (fun _ _ _ h => h) (Or.inl ⟨by rfl, ?_⟩) ?_ ?_
      rotate_left
      ·intro w'
       go_simp
       with_reducible rfl
      rotate_left
      ·simp only [Act.put, List.setIfInBounds_toArray, List.set_cons_zero, List.set_cons_succ, i64_w, i32_w]
       rfl
      refine pure_ (i := 5) (N := some 56) (v := ?_) (a' := ?_) #[true, false, true, false, false, true, false, false, false, false, false, false, false, false, false] rfl rfl (any_of HT_.out (by kernel_rfl)) (fun _ _ _ h => h) (Or.inl ⟨by rfl, ?_⟩) ?_ ?_
      rotate_left
      ·intro w'
       go_simp
       with_reducible rfl
      rotate_left
      ·simp only [Act.put, List.setIfInBounds_toArray, List.set_cons_zero, List.set_cons_succ, i64_w, i32_w]
       rfl
      refine pure_ (i := 8) (N := some 59) (v := ?_) (a' := ?_) #[true, false, true, false, false, true, false, false, true, false, false, false, false, false, false] rfl rfl (any_of HT_.out (by kernel_rfl)) (fun _ _ _ h => h) (Or.inl ⟨by rfl, ?_⟩) ?_ ?_
      rotate_left
      ·intro w'
       go_simp
       with_reducible rfl
      rotate_left
      ·simp only [Act.put, List.setIfInBounds_toArray, List.set_cons_zero, List.set_cons_succ, i64_w, i32_w]
       rfl
      refine pure_ (i := 10) (N := some 61) (v := ?_) (a' := ?_) #[true, false, true, false, false, true, false, false, true, false, true, false, false, false, false] rfl rfl (any_of HT_.out (by kernel_rfl)) (fun _ _ _ h => h) (Or.inl ⟨by rfl, ?_⟩) ?_ ?_
      rotate_left
      ·intro w'
       go_simp
       with_reducible rfl
      rotate_left
      ·simp only [Act.put, List.setIfInBounds_toArray, List.set_cons_zero, List.set_cons_succ, i64_w, i32_w]
       rfl
      refine take_ (i := 1) (N := some 52) (v := ?_) (a' := ?_) #[true, true, true, false, false, true, false, false, true, false, true, false, false, false, false] rfl rfl (take_ofW HT_.out HW_.out (by kernel_rfl)) (fun _ _ _ h => h) (Or.inl ⟨by rfl, ?_⟩) hHeld ?_ ?_
      rotate_left
      ·rintro w' ⟨s0, s1, s2, s3⟩
       go_simp
       with_reducible rfl
      rotate_left
      ·simp only [Act.put, List.setIfInBounds_toArray, List.set_cons_zero, List.set_cons_succ, i64_w, i32_w]
       rfl
      refine take_ (i := 3) (N := some 54) (v := ?_) (a' := ?_) #[true, true, true, true, false, true, false, false, true, false, true, false, false, false, false] rfl rfl (take_ofW HT_.out HW_.out (by kernel_rfl)) (fun _ _ _ h => h) (Or.inl ⟨by rfl, ?_⟩) hHeld ?_ ?_
      rotate_left
      ·rintro w' ⟨s0, s1, s2, s3⟩
       go_simp
       with_reducible rfl
      rotate_left
      ·simp only [Act.put, List.setIfInBounds_toArray, List.set_cons_zero, List.set_cons_succ, i64_w, i32_w]
       rfl
      refine pure_ (i := 4) (N := some 55) (v := ?_) (a' := ?_) #[true, true, true, true, true, true, false, false, true, false, true, false, false, false, false] rfl rfl (any_of HT_.out (by kernel_rfl)) (fun _ _ _ h => h) (Or.inl ⟨by rfl, ?_⟩) ?_ ?_
      rotate_left
      ·intro w'
       go_simp
       with_reducible rfl
      rotate_left
      ·simp only [Act.put, List.setIfInBounds_toArray, List.set_cons_zero, List.set_cons_succ, i64_w, i32_w]
       rfl
      refine pure_ (i := 6) (N := some 57) (v := ?_) (a' := ?_) #[true, true, true, true, true, true, true, false, true, false, true, false, false, false, false] rfl rfl (any_of HT_.out (by kernel_rfl)) (fun _ _ _ h => h) (Or.inl ⟨by rfl, ?_⟩) ?_ ?_
      rotate_left
      ·intro w'
       go_simp
       with_reducible rfl
      rotate_left
      ·simp only [Act.put, List.setIfInBounds_toArray, List.set_cons_zero, List.set_cons_succ, i64_w, i32_w]
       rfl
      refine take_ (i := 9) (N := some 60) (v := ?_) (a' := ?_) #[true, true, true, true, true, true, true, false, true, true, true, false, false, false, false] rfl rfl (take_ofW HT_.out HW_.out (by kernel_rfl)) (fun _ _ _ h => h) (Or.inl ⟨by rfl, ?_⟩) hHeld ?_ ?_
      rotate_left
      ·rintro w' ⟨s0, s1, s2, s3⟩
       go_simp
       with_reducible rfl
      rotate_left
      ·simp only [Act.put, List.setIfInBounds_toArray, List.set_cons_zero, List.set_cons_succ, i64_w, i32_w]
       rfl
      refine pure_ (i := 11) (N := some 62) (v := ?_) (a' := ?_) #[true, true, true, true, true, true, true, false, true, true, true, true, false, false, false] rfl rfl (any_of HT_.out (by kernel_rfl)) (fun _ _ _ h => h) (Or.inl ⟨by rfl, ?_⟩) ?_ ?_
      rotate_left
      ·intro w'
       go_simp
       with_reducible rfl
      rotate_left
      ·simp only [Act.put, List.setIfInBounds_toArray, List.set_cons_zero, List.set_cons_succ, i64_w, i32_w]
       rfl
      refine one_ (i := 7) (N := some 58) #[true, true, true, true, true, true, true, true, true, true, true, true, false, false, false] rfl rfl (one_of HT_.out (by kernel_rfl)) (by decide) (fun K hK => ?_)
      refine goes_ Try.func30 (by kernel_rfl) rfl #[.agg #[.bool (a0_0 != a1_0), .slice Ao62 x6_1.length co62]] (by rfl) rfl rfl (by (try simp only [List.map_toArray, List.map_cons, List.map_nil]); first | done | rfl | (simp only [List.length_drop, List.length_take]; rfl) | (go_simp; simp only [u8_w, w64_u8]; done) | (go_simp; simp only [u8_w, w64_u8]; rfl)) ?_
      with_reducible refine (lorgnetteref01_trim.calls k1 (a0_0 != a1_0) (fun k_ => some k_ = (.slice Ao62 x6_1.length co62 : Value).ownBlock) (.slice Ao62 x6_1.length co62) x6_1 t363 t364 w _ ?side1 ?side2 A59.out).mono ?_
      (case side1 => repeat (first | (with_reducible first | exact HB.out | apply below_alloc | apply pw_below_drewN | apply below_drew1 | refine below_set ?_ GE353.out | refine below_set ?_ GE354.out | refine below_set ?_ GE355.out | refine below_set ?_ GE356.out) | exact HB.out))
      (case side2 => exact Kd.R_tight rfl HO_6.out)
      rintro e w64 ⟨v365, rfl, ho0, hb, hkp⟩
      refine ⟨_, rfl, ?_⟩
      have n0_ := Aside0.mk (Kd.R_mono (ok' := fun k_ => some k_ ≠ (v365 : Value).ownBlock) (Kd.R_keptB (HO_7.out) hkp (fun k_ hk_ hs_ => (hk_) hs_)) (fun k_ hk_ => fun e_ => Or.elim (ho0.1 k_ e_.symm) (fun hs_ => hk_.2.1 hs_) (fun hn_ => Nat.not_le.2 hk_.2.2 hn_)))
      have n1_ := Aside0.mk (blk_kept (bN BK353) hkp (fun hs_ => (fun e_ => (Kd.R_ne HO_6.out BK353.out (by decide)) e_) hs_))
      have n2_ := Aside0.mk (blk_kept (bN BK354) hkp (fun hs_ => (fun e_ => (Kd.R_ne HO_6.out BK354.out (by decide)) e_) hs_))
      have n3_ := Aside0.mk (blk_kept (bN BK355) hkp (fun hs_ => (fun e_ => (Kd.R_ne HO_6.out BK355.out (by decide)) e_) hs_))
      have n4_ := Aside0.mk (blk_kept (bN BK356) hkp (fun hs_ => (fun e_ => (Kd.R_ne HO_6.out BK356.out (by decide)) e_) hs_))
      have n5_ := Aside0.mk (Kd.R_mono (ok' := fun k_ => some k_ ≠ (.slice Ao63 x7_1.length co63 : Value).ownBlock) ho0 (fun k_ hk_ => Or.elim hk_ (fun hs_ => fun e_ => (((HO_7.out).1 k_ e_.symm)) hs_) (fun hn_ => (Kd.fresh' (Kd.R_lt (rN HO_7)) k_ hn_))))
      have n6_ := Aside0.mk (hb)
      clear HO_7
      clear BK353
      clear BK354
      clear BK355
      clear BK356
      clear HB
      clear HO_6
      have HO_7 := n0_
      have BK353 := n1_
      have BK354 := n2_
      have BK355 := n3_
      have BK356 := n4_
      have HO366 := n5_
      have HB := n6_
      clear n0_ n1_ n2_ n3_ n4_ n5_ n6_
      (try clear hb)
      (try clear hkp)
      (try clear ho0)
      refine hK.out _ _ ⟨(blk_cell BK353.out 0).trans rfl, (blk_cell BK353.out 1).trans rfl, (blk_cell BK354.out 0).trans rfl, (blk_cell BK354.out 1).trans rfl⟩ (fun hHeld => ?_)
      clear hK K
      refine norm_ (a' := ?_) ?_ ?_
      rotate_left
      ·show Act.put _ (some 58) _ = _
       simp only [Act.put, List.setIfInBounds_toArray, List.set_cons_zero, List.set_cons_succ, i64_w, i32_w]
       rfl
      refine one_ (i := 12) (N := some 63) #[true, true, true, true, true, true, true, true, true, true, true, true, true, false, false] rfl rfl (one_of HT_.out (by kernel_rfl)) (by decide) (fun K hK => ?_)
      refine goes_ Try.func30 (by kernel_rfl) rfl #[.agg #[.bool a0_0, .slice Ao63 x7_1.length co63]] (by rfl) rfl rfl (by (try simp only [List.map_toArray, List.map_cons, List.map_nil]); first | done | rfl | (simp only [List.length_drop, List.length_take]; rfl) | (go_simp; simp only [u8_w, w64_u8]; done) | (go_simp; simp only [u8_w, w64_u8]; rfl)) ?_
      with_reducible refine (lorgnetteref01_trim.calls k1 a0_0 (fun k_ => some k_ = (.slice Ao63 x7_1.length co63 : Value).ownBlock) (.slice Ao63 x7_1.length co63) x7_1 t367 t368 w _ ?side1 ?side2 A60.out).mono ?_
      (case side1 => repeat (first | (with_reducible first | exact HB.out | apply below_alloc | apply pw_below_drewN | apply below_drew1 | refine below_set ?_ GE353.out | refine below_set ?_ GE354.out | refine below_set ?_ GE355.out | refine below_set ?_ GE356.out) | exact HB.out))
      (case side2 => exact Kd.R_tight rfl HO_7.out)
      rintro e w65 ⟨v369, rfl, ho0, hb, hkp⟩
      refine ⟨_, rfl, ?_⟩
      have n0_ := Aside0.mk (blk_kept (bN BK353) hkp (fun hs_ => (fun e_ => (Kd.R_ne HO_7.out BK353.out (by decide)) e_) hs_))
      have n1_ := Aside0.mk (blk_kept (bN BK354) hkp (fun hs_ => (fun e_ => (Kd.R_ne HO_7.out BK354.out (by decide)) e_) hs_))
      have n2_ := Aside0.mk (blk_kept (bN BK355) hkp (fun hs_ => (fun e_ => (Kd.R_ne HO_7.out BK355.out (by decide)) e_) hs_))
      have n3_ := Aside0.mk (blk_kept (bN BK356) hkp (fun hs_ => (fun e_ => (Kd.R_ne HO_7.out BK356.out (by decide)) e_) hs_))
      have n4_ := Aside0.mk (Kd.R_mono (ok' := fun k_ => some k_ ≠ (v369 : Value).ownBlock) (Kd.R_keptB (HO366.out) hkp (fun k_ hk_ hs_ => (hk_) hs_)) (fun k_ hk_ => fun e_ => Or.elim (ho0.1 k_ e_.symm) (fun hs_ => hk_.2.1 hs_) (fun hn_ => Nat.not_le.2 hk_.2.2 hn_)))
      have n5_ := Aside0.mk (Kd.R_mono (ok' := fun k_ => some k_ ≠ (v365 : Value).ownBlock) ho0 (fun k_ hk_ => Or.elim hk_ (fun hs_ => fun e_ => (((HO366.out).1 k_ e_.symm)) hs_) (fun hn_ => (Kd.fresh' (Kd.R_lt (rN HO366)) k_ hn_))))
      have n6_ := Aside0.mk (hb)
      clear BK353
      clear BK354
      clear BK355
      clear BK356
      clear HO366
      clear HB
      clear HO_7
      have BK353 := n0_
      have BK354 := n1_
      have BK355 := n2_
      have BK356 := n3_
      have HO366 := n4_
      have HO370 := n5_
      have HB := n6_
      clear n0_ n1_ n2_ n3_ n4_ n5_ n6_
      (try clear hb)
      (try clear hkp)
      (try clear ho0)
      obtain ⟨Ao67, co67, eo67⟩ := Kd.R_slice HO366.out
      (first | subst eo67 | (injection eo67 with f1_ f2_ f3_; have f4_ := f1_.symm; have f5_ := f3_.symm; clear f1_ f2_ f3_; subst f4_; subst f5_))
      obtain ⟨Ao70, co70, eo70⟩ := Kd.R_slice HO370.out
      (first | subst eo70 | (injection eo70 with f1_ f2_ f3_; have f4_ := f1_.symm; have f5_ := f3_.symm; clear f1_ f2_ f3_; subst f4_; subst f5_))
      refine hK.out _ _ ⟨(blk_cell BK353.out 0).trans rfl, (blk_cell BK353.out 1).trans rfl, (blk_cell BK354.out 0).trans rfl, (blk_cell BK354.out 1).trans rfl⟩ (fun hHeld => ?_)
      clear hK K
      refine norm_ (a' := ?_) ?_ ?_
      rotate_left
      ·show Act.put _ (some 63) _ = _
       simp only [Act.put, List.setIfInBounds_toArray, List.set_cons_zero, List.set_cons_succ, i64_w, i32_w]
       rfl
      refine one_ (i := 13) (N := none) #[true, true, true, true, true, true, true, true, true, true, true, true, true, true, false] rfl rfl (one_of HT_.out (by kernel_rfl)) (by decide) (fun K hK => ?_)
      have hs66 : w65.cell? ⟨gb355, 0, none⟩ = some (.bool false) := (blk_cell BK355.out 0).trans rfl
      have hfs66 := blk_frozen BK355.out 0
      have hns66_0 := NB353_355.out
      have hns66_1 := NB354_355.out
      have hns66_3 := NB356_355.out
      have hms66_0 := NB355_353.out
      have hms66_1 := NB355_354.out
      have hms66_3 := NB355_356.out
      have hs68 : w65.cell? ⟨gb355, 1, none⟩ = some (.slice none 0 0) := (blk_cell BK355.out 1).trans rfl
      have hfs68 := blk_frozen BK355.out 1
      have hns68_0 := NB353_355.out
      have hns68_1 := NB354_355.out
      have hns68_3 := NB356_355.out
      have hms68_0 := NB355_353.out
      have hms68_1 := NB355_354.out
      have hms68_3 := NB355_356.out
      refine skip_ (w1 := ?_) (by rfl) rfl ?_ ?_
      rotate_left
      ·go_simp
       rfl
      refine hK.out _ _ ⟨((cell_far (p := ⟨gb355, _, none⟩) NB353_355.out _).trans (((cell_far (p := ⟨gb355, _, none⟩) NB353_355.out _).trans (hHeld.1)))), ((cell_far (p := ⟨gb355, _, none⟩) NB353_355.out _).trans (((cell_far (p := ⟨gb355, _, none⟩) NB353_355.out _).trans (hHeld.2.1)))), ((cell_far (p := ⟨gb355, _, none⟩) NB354_355.out _).trans (((cell_far (p := ⟨gb355, _, none⟩) NB354_355.out _).trans (hHeld.2.2.1)))), ((cell_far (p := ⟨gb355, _, none⟩) NB354_355.out _).trans (((cell_far (p := ⟨gb355, _, none⟩) NB354_355.out _).trans (hHeld.2.2.2))))⟩ (fun hHeld => ?_)
      clear hK K
      refine one_ (i := 14) (N := none) #[true, true, true, true, true, true, true, true, true, true, true, true, true, true, true] rfl rfl (one_of HT_.out (by kernel_rfl)) (by decide) (fun K hK => ?_)
      have hs69 : w65.cell? ⟨gb356, 0, none⟩ = some (.bool false) := (blk_cell BK356.out 0).trans rfl
      have hfs69 := blk_frozen BK356.out 0
      have hns69_0 := NB353_356.out
      have hns69_1 := NB354_356.out
      have hns69_2 := NB355_356.out
      have hms69_0 := NB356_353.out
      have hms69_1 := NB356_354.out
      have hms69_2 := NB356_355.out
      have hs71 : w65.cell? ⟨gb356, 1, none⟩ = some (.slice none 0 0) := (blk_cell BK356.out 1).trans rfl
      have hfs71 := blk_frozen BK356.out 1
      have hns71_0 := NB353_356.out
      have hns71_1 := NB354_356.out
      have hns71_2 := NB355_356.out
      have hms71_0 := NB356_353.out
      have hms71_1 := NB356_354.out
      have hms71_2 := NB356_355.out
      refine skip_ (w1 := ?_) (by rfl) rfl ?_ ?_
      rotate_left
      ·go_simp
       rfl
      refine hK.out _ _ ⟨((cell_far (p := ⟨gb356, _, none⟩) NB353_356.out _).trans (((cell_far (p := ⟨gb356, _, none⟩) NB353_356.out _).trans (hHeld.1)))), ((cell_far (p := ⟨gb356, _, none⟩) NB353_356.out _).trans (((cell_far (p := ⟨gb356, _, none⟩) NB353_356.out _).trans (hHeld.2.1)))), ((cell_far (p := ⟨gb356, _, none⟩) NB354_356.out _).trans (((cell_far (p := ⟨gb356, _, none⟩) NB354_356.out _).trans (hHeld.2.2.1)))), ((cell_far (p := ⟨gb356, _, none⟩) NB354_356.out _).trans (((cell_far (p := ⟨gb356, _, none⟩) NB354_356.out _).trans (hHeld.2.2.2))))⟩ (fun hHeld => ?_)
      clear hK K
      refine done_ (done_of HT_.out (by kernel_rfl)) ?_
      try go_wp2
      refine bodyPost_ret (results_cc rfl _ _ gb355 gb356 28 28 #[.bool t363, .slice Ao67 t364.length co67] #[.bool t367, .slice Ao70 t368.length co70] (0, 0) (0, 0) _ _ rfl (by (with_reducible repeat (first | refine blk_drewN ?_ _ | refine blk_drew ?_ | refine blk_alloc ?_ _)); refine blk_far ?_ NB355_356.out _; (with_reducible repeat (first | refine blk_drewN ?_ _ | refine blk_drew ?_ | refine blk_alloc ?_ _)); refine blk_far ?_ NB355_356.out _; (with_reducible repeat (first | refine blk_drewN ?_ _ | refine blk_drew ?_ | refine blk_alloc ?_ _)); refine blk_put (cs := #[.bool t363, .slice none 0 0]) ?_ 1 _ rfl; (with_reducible repeat (first | refine blk_drewN ?_ _ | refine blk_drew ?_ | refine blk_alloc ?_ _)); refine blk_put (cs := #[.bool false, .slice none 0 0]) ?_ 0 _ rfl; (with_reducible repeat (first | refine blk_drewN ?_ _ | refine blk_drew ?_ | refine blk_alloc ?_ _)); exact BK355.out) Try.underlying28 rfl (by kernel_rfl) rfl (by (with_reducible repeat (first | refine blk_drewN ?_ _ | refine blk_drew ?_ | refine blk_alloc ?_ _)); refine blk_put (cs := #[.bool t367, .slice none 0 0]) ?_ 1 _ rfl; (with_reducible repeat (first | refine blk_drewN ?_ _ | refine blk_drew ?_ | refine blk_alloc ?_ _)); refine blk_put (cs := #[.bool false, .slice none 0 0]) ?_ 0 _ rfl; (with_reducible repeat (first | refine blk_drewN ?_ _ | refine blk_drew ?_ | refine blk_alloc ?_ _)); refine blk_far ?_ NB356_355.out _; (with_reducible repeat (first | refine blk_drewN ?_ _ | refine blk_drew ?_ | refine blk_alloc ?_ _)); refine blk_far ?_ NB356_355.out _; (with_reducible repeat (first | refine blk_drewN ?_ _ | refine blk_drew ?_ | refine blk_alloc ?_ _)); exact BK356.out) Try.underlying28 rfl (by kernel_rfl)) rfl ?_
      exact ⟨_, _, by first | rfl | (simp [errW_none, errW_some] <;> rfl) | (simp [*, errW_none, errW_some] <;> rfl), by (with_reducible repeat (first | apply Kd.R_alloc | apply Kd.R_drewN | apply Kd.R_drew)); exact Kd.R_mono (Kd.R_far (p := ⟨gb356, 1, none⟩) (Kd.R_far (p := ⟨gb356, 0, none⟩) (Kd.R_far (p := ⟨gb355, 1, none⟩) (Kd.R_far (p := ⟨gb355, 0, none⟩) (Kd.R_types (Kd.R_types HO366.out BK355.out (by decide)) BK356.out (by decide)) (fun _ hk => hk.1.2) (.bool t363)) (fun _ hk => hk.1.2) (.slice Ao67 t364.length co67)) (fun _ hk => hk.2) (.bool t367)) (fun _ hk => hk.2) (.slice Ao70 t368.length co70)) (fun _ hk => hk.1.1), by (with_reducible repeat (first | apply Kd.R_alloc | apply Kd.R_drewN | apply Kd.R_drew)); exact Kd.R_mono (Kd.R_far (p := ⟨gb356, 1, none⟩) (Kd.R_far (p := ⟨gb356, 0, none⟩) (Kd.R_far (p := ⟨gb355, 1, none⟩) (Kd.R_far (p := ⟨gb355, 0, none⟩) (Kd.R_types (Kd.R_types HO370.out BK355.out (by decide)) BK356.out (by decide)) (fun _ hk => hk.1.2) (.bool t363)) (fun _ hk => hk.1.2) (.slice Ao67 t364.length co67)) (fun _ hk => hk.2) (.bool t367)) (fun _ hk => hk.2) (.slice Ao70 t368.length co70)) (fun _ hk => hk.1.1), by repeat (first | (with_reducible first | exact HB.out | apply below_alloc | apply pw_below_drewN | apply below_drew1 | refine below_set ?_ GE353.out | refine below_set ?_ GE354.out | refine below_set ?_ GE355.out | refine below_set ?_ GE356.out) | exact HB.out)⟩
  ·rw [if_neg c4] at H
   exact absurd H (by simp)
 ·rw [if_neg c3] at H
  exact absurd H (by simp)

end Go.Proofs.Ytjnaebcdidilgaa.Q
