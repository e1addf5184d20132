/- Functions of the program as Lean functions, and their walks: printed by print.py as this session changed it (mkprint.py). Lean checks it. No condition. (halved) -/
import Derived.Test.YtjnaebcdidilgaaQx0
import Derived.Test.YtjnaebcdidilgaaQx14
import Derived.Test.YtjnaebcdidilgaaQx15
import Derived.Test.YtjnaebcdidilgaaQx19
import Derived.Test.YtjnaebcdidilgaaQx23
namespace Go.Proofs.Ytjnaebcdidilgaa.Q
open Go.RowKit Go.Proofs.YtjnaebcdidilgaaW.PrintWords Go.Proofs.YtjnaebcdidilgaaW.PrintLast Go.Proofs.YtjnaebcdidilgaaW.PrintMore
attribute [local go_sem] max2_int min2_int max_two min_two max_three min_three max_four min_four   -- for this text's walks alone
attribute [local go_sem] Instr.field asAgg
set_option linter.unusedVariables false
set_option linter.unusedSimpArgs false

/-! ### lorgnetteref01_Bits: function 47 -/
mutual
def lorgnetteref01_Bits.j0 : Nat → List Int → Int → Int → Option (Int × Int)
 | 0, _, _, _ => none
 | k + 1, x4, x395000, x395001 => lorgnetteref01_Bits.l0 k x4 (([2] : List Int)) 0 x395000 x395001
def lorgnetteref01_Bits.l0 : Nat → List Int → List Int → Int → Int → Int → Option (Int × Int)
 | 0, _, _, _, _, _ => none
 | k + 1, x4, x5, x6, x395000, x395001 => if x6 < 128 then ((lorgnetteref01_trim.f k false x4).bind fun bt404 => ((lorgnetteref01_Quo.f k bt404.1 bt404.2 false x5).bind fun bt408 => (if (bt408.2.2.2.length : Int) > 0 then (if x6 < 64 then (if 0 ≤ x6 then (lorgnetteref01_Bits.l0 k bt408.2.1 x5 (wrap64 (x6 + 1)) x395000 (Go.bits .or .u64 x395001 (shl .u64 1 x6))) else (none)) else (if 0 ≤ (wrap64 (x6 - 64)) then (lorgnetteref01_Bits.l0 k bt408.2.1 x5 (wrap64 (x6 + 1)) (Go.bits .or .u64 x395000 (shl .u64 1 (wrap64 (x6 - 64)))) x395001) else (none))) else (lorgnetteref01_Bits.l0 k bt408.2.1 x5 (wrap64 (x6 + 1)) x395000 x395001)))) else (some (x395000, x395001))
end
def lorgnetteref01_Bits.f (k : Nat) (a0_0 : Bool) (l0_1 : List Int) : Option (Int × Int) := if a0_0 = true then ((lorgnetteref01_power.f k 128).bind fun t395 => ((lorgnetteref01_minus.f k t395 l0_1).bind fun t398 => (lorgnetteref01_Bits.j0 k t398 0 0))) else (lorgnetteref01_Bits.j0 k l0_1 0 0)
theorem lorgnetteref01_Bits.mono_l : ∀ k, (∀ y0 y1 y2, LeO (lorgnetteref01_Bits.j0 k y0 y1 y2) (lorgnetteref01_Bits.j0 (k + 1) y0 y1 y2)) ∧ (∀ y0 y1 y2 y3 y4, LeO (lorgnetteref01_Bits.l0 k y0 y1 y2 y3 y4) (lorgnetteref01_Bits.l0 (k + 1) y0 y1 y2 y3 y4))
 | 0 => ⟨fun _ _ _ r h => by simp [lorgnetteref01_Bits.j0] at h, fun _ _ _ _ _ r h => by simp [lorgnetteref01_Bits.l0] at h⟩
 | k + 1 => by
  obtain ⟨ih0, ih1⟩ := lorgnetteref01_Bits.mono_l k
  refine ⟨?_, ?_⟩
  ·intro y0 y1 y2
   unfold lorgnetteref01_Bits.j0
   repeat' first
   | (with_reducible exact ih0 _ _ _)
   | (with_reducible exact ih1 _ _ _ _ _)
   | (with_reducible exact lorgnetteref01_Quo.mono _ _ _ _ _)
   | (with_reducible exact lorgnetteref01_minus.mono _ _ _)
   | (with_reducible exact lorgnetteref01_power.mono _ _)
   | (with_reducible exact lorgnetteref01_trim.mono _ _ _)
   | (with_reducible exact LeO.refl _)
   | (with_reducible exact LeO.none _)
   | (with_reducible refine LeO.ite ?_ ?_)
   | (with_reducible refine LeO.bind ?_ (fun _ => ?_))
  ·intro y0 y1 y2 y3 y4
   unfold lorgnetteref01_Bits.l0
   repeat' first
   | (with_reducible exact ih0 _ _ _)
   | (with_reducible exact ih1 _ _ _ _ _)
   | (with_reducible exact lorgnetteref01_Quo.mono _ _ _ _ _)
   | (with_reducible exact lorgnetteref01_minus.mono _ _ _)
   | (with_reducible exact lorgnetteref01_power.mono _ _)
   | (with_reducible exact lorgnetteref01_trim.mono _ _ _)
   | (with_reducible exact LeO.refl _)
   | (with_reducible exact LeO.none _)
   | (with_reducible refine LeO.ite ?_ ?_)
   | (with_reducible refine LeO.bind ?_ (fun _ => ?_))
theorem lorgnetteref01_Bits.mono : ∀ a0 a1 k, LeO (lorgnetteref01_Bits.f k a0 a1) (lorgnetteref01_Bits.f (k + 1) a0 a1) := by
 intro a0 a1 k
 obtain ⟨ih0, ih1⟩ := lorgnetteref01_Bits.mono_l k
 unfold lorgnetteref01_Bits.f
 repeat' first
   | (with_reducible exact ih0 _ _ _)
   | (with_reducible exact ih1 _ _ _ _ _)
   | (with_reducible exact lorgnetteref01_Quo.mono _ _ _ _ _)
   | (with_reducible exact lorgnetteref01_minus.mono _ _ _)
   | (with_reducible exact lorgnetteref01_power.mono _ _)
   | (with_reducible exact lorgnetteref01_trim.mono _ _ _)
   | (with_reducible exact LeO.refl _)
   | (with_reducible exact LeO.none _)
   | (with_reducible refine LeO.ite ?_ ?_)
   | (with_reducible refine LeO.bind ?_ (fun _ => ?_))
def lorgnetteref01_Bits.T13 : Bool × List (List Nat × List Nat) := (true, [([], []), ([0], [0]), ([], []), ([2], [2]), ([3], [3]), ([1, 4], [1, 4]), ([0, 1, 2, 3, 4, 5], []), ([6, 5, 0, 1, 2, 3, 4, 5], [5, 6])])
def lorgnetteref01_Bits.B13 : List Nat := [0, 1, 0, 4, 12, 31, 63, 127]
theorem lorgnetteref01_Bits.tab13 : rtab .any (opsOf Try.f47 13) = lorgnetteref01_Bits.T13 := by kernel_rfl
theorem lorgnetteref01_Bits.bits13 : waitsOk lorgnetteref01_Bits.T13.2 lorgnetteref01_Bits.B13 = true := by kernel_rfl
set_option maxHeartbeats 8000000 in
set_option maxRecDepth 100000 in
theorem lorgnetteref01_Bits.calls (k : Nat) (a0_0 : Bool) (P0_1_ : Nat → Prop) (u9000_ : Value) (l0_1 : List Int) (r1 : Int) (r2 : Int) (w0 w : World) (hB : Below w0.heap.size w0 w) (ho0_1 : Kd.R (Kd.int .i64) 3 w w0.heap.size P0_1_ u9000_ l0_1) (h : lorgnetteref01_Bits.f k a0_0 l0_1 = some (r1, r2)) :
  Calls Try.prog 47 #[.agg #[.bool a0_0, u9000_]] w fun e w' => e = .returned (.agg #[.int .u64 r1, .int .u64 r2]) ∧ Below w0.heap.size w0 w' ∧ Kept w w' (fun k_ => P0_1_ k_) := by
 have hu28 := Try.underlying28
 have hu24 := Try.underlying24
 have HO0_1 := Aside0.mk (show Kd.R (Kd.int .i64) 3 w w0.heap.size (fun k_ => (P0_1_ k_ ∨ w.heap.size ≤ k_)) u9000_ l0_1 from Kd.R_mono ho0_1 (fun k_ hk => (.inl hk)))
 have HK := Aside0.mk (Kept.refl w (fun k_ => P0_1_ k_))
 have HW0 := Aside0.mk hB.size
 have HB := Aside0.mk hB
 clear hB
 have H : (if a0_0 = true then ((lorgnetteref01_power.f k 128).bind fun t395 => ((lorgnetteref01_minus.f k t395 l0_1).bind fun t398 => (lorgnetteref01_Bits.j0 k t398 0 0))) else (lorgnetteref01_Bits.j0 k l0_1 0 0)) = some (r1, r2) := h
 clear h
 have HC2 := Aside0.mk H
 clear H
 obtain ⟨Ao3, co3, eo3⟩ := Kd.R_slice HO0_1.out
 subst eo3
 go_enter Try.func47, Try.ntmps47
 go_upto_if 13 with (first | ((with_reducible refine gate_dst (N := 1) rfl ?_); refine box_event ?hg (N := 1) ?hd (cs := #[.bool a0_0, .slice Ao3 l0_1.length co3]) (t := 28) ?hr ?_; (case hd => rfl); (case hg => rfl); (case hr => first | (go_simp; done) | (go_simp; rfl)); intro gb392 hg w4 hbox hb; have n0_ := Aside0.mk (Kd.R_below (rN HO0_1) hb); have n1_ := Aside0.mk (Kept.below (S := (fun k_ => P0_1_ k_)) (by repeat (first | (with_reducible first | exact HK.out | apply Kept.alloc | apply Kept.drewN | apply Kept.drew) | exact HK.out)) hb); have n2_ := Aside0.mk (below_step (bL HB) hb); have n3_ := Aside0.mk (hbox); have n4_ := Aside0.mk ((by rw [hg]; exact (by first | exact HK.out.1 | exact (show Kept w _ (fun k_ => P0_1_ k_) from by repeat (first | (with_reducible first | exact HK.out | apply Kept.alloc | apply Kept.drewN | apply Kept.drew) | exact HK.out)).1) : w.heap.size ≤ gb392)); have n5_ := Aside0.mk ((by rw [hg]; exact (below_size (bL HB)) : w0.heap.size ≤ gb392)); clear HO0_1 HK HB; have HO0_1 := n0_; have HK := n1_; have HB := n2_; have BK392 := n3_; have GW392 := n4_; have GE392 := n5_; clear n0_ n1_ n2_ n3_ n4_ n5_; clear hb hbox hg) | ((with_reducible refine gate_dst (N := 2) rfl ?_); refine box_event ?hg (N := 2) ?hd (cs := #[.int .u64 0, .int .u64 0]) (t := 24) ?hr ?_; (case hd => rfl); (case hg => rfl); (case hr => first | (go_simp; done) | (go_simp; rfl)); intro gb393 hg w5 hbox hb; have n0_ := Aside0.mk (Kd.R_below (rN HO0_1) hb); have n1_ := blkB BK392 hb; have n2_ := Aside0.mk (Kept.below (S := (fun k_ => P0_1_ k_)) (by repeat (first | (with_reducible first | exact HK.out | apply Kept.alloc | apply Kept.drewN | apply Kept.drew | refine Kept.setCell ?_ (.inr GW392.out) _) | exact HK.out)) hb); have n3_ := Aside0.mk (below_step (bL HB) hb); have n4_ := Aside0.mk (hbox); have n5_ := Aside0.mk ((by rw [hg]; exact (by first | exact HK.out.1 | exact (show Kept w _ (fun k_ => P0_1_ k_) from by repeat (first | (with_reducible first | exact HK.out | apply Kept.alloc | apply Kept.drewN | apply Kept.drew | refine Kept.setCell ?_ (.inr GW392.out) _) | exact HK.out)).1) : w.heap.size ≤ gb393)); have n6_ := Aside0.mk ((by rw [hg]; exact (below_size (bL HB)) : w0.heap.size ≤ gb393)); have n7_ := blkL BK392 hg; have n8_ := blkG BK392 hg; clear HO0_1 BK392 HK HB; have HO0_1 := n0_; have BK392 := n1_; have HK := n2_; have HB := n3_; have BK393 := n4_; have GW393 := n5_; have GE393 := n6_; have NB392_393 := n7_; have NB393_392 := n8_; clear n0_ n1_ n2_ n3_ n4_ n5_ n6_ n7_ n8_; clear hb hbox hg) | ((with_reducible refine gate_dst (N := 3) rfl ?_); refine box_event ?hg (N := 3) ?hd (cs := #[.int .u64 0, .int .u64 0]) (t := 24) ?hr ?_; (case hd => rfl); (case hg => rfl); (case hr => first | (go_simp; done) | (go_simp; rfl)); intro gb394 hg w6 hbox hb; have n0_ := Aside0.mk (Kd.R_below (rN HO0_1) hb); have n1_ := blkB BK392 hb; have n2_ := blkB BK393 hb; have n3_ := Aside0.mk (Kept.below (S := (fun k_ => P0_1_ k_)) (by repeat (first | (with_reducible first | exact HK.out | apply Kept.alloc | apply Kept.drewN | apply Kept.drew | refine Kept.setCell ?_ (.inr GW392.out) _ | refine Kept.setCell ?_ (.inr GW393.out) _) | exact HK.out)) hb); have n4_ := Aside0.mk (below_step (bL HB) hb); have n5_ := Aside0.mk (hbox); have n6_ := Aside0.mk ((by rw [hg]; exact (by first | exact HK.out.1 | exact (show Kept w _ (fun k_ => P0_1_ k_) from by repeat (first | (with_reducible first | exact HK.out | apply Kept.alloc | apply Kept.drewN | apply Kept.drew | refine Kept.setCell ?_ (.inr GW392.out) _ | refine Kept.setCell ?_ (.inr GW393.out) _) | exact HK.out)).1) : w.heap.size ≤ gb394)); have n7_ := Aside0.mk ((by rw [hg]; exact (below_size (bL HB)) : w0.heap.size ≤ gb394)); have n8_ := blkL BK392 hg; have n9_ := blkG BK392 hg; have n10_ := blkL BK393 hg; have n11_ := blkG BK393 hg; clear HO0_1 BK392 BK393 HK HB; have HO0_1 := n0_; have BK392 := n1_; have BK393 := n2_; have HK := n3_; have HB := n4_; have BK394 := n5_; have GW394 := n6_; have GE394 := n7_; have NB392_394 := n8_; have NB394_392 := n9_; have NB393_394 := n10_; have NB394_393 := n11_; clear n0_ n1_ n2_ n3_ n4_ n5_ n6_ n7_ n8_ n9_ n10_ n11_; clear hb hbox hg; have hnb7 := NB394_392.out; have hnc7 := NB392_394.out; have hnb8 := NB394_393.out; have hnc8 := NB393_394.out; have hcz9_0 : w6.cell? ⟨gb394, 0, none⟩ = some (.int .u64 0) := (blk_cell BK394.out 0).trans rfl; have hcz9_1 : w6.cell? ⟨gb394, 1, none⟩ = some (.int .u64 0) := (blk_cell BK394.out 1).trans rfl; have hfz9_0 := blk_frozen BK394.out 0; have hfz9_1 := blk_frozen BK394.out 1; have hnb10 := NB392_393.out; have hnc10 := NB393_392.out; have hcz11_0 : w6.cell? ⟨gb392, 0, none⟩ = some (.bool a0_0) := (blk_cell BK392.out 0).trans rfl; have hcz11_1 : w6.cell? ⟨gb392, 1, none⟩ = some (.slice Ao3 l0_1.length co3) := (blk_cell BK392.out 1).trans rfl; have hfz11_0 := blk_frozen BK392.out 0; have hfz11_1 := blk_frozen BK392.out 1))
 (try simp only [Act.put, List.setIfInBounds_toArray, List.set_cons_zero, List.set_cons_succ])
 go_cut [4] (fun v4 wc => ∃ (kq : Nat) (x4_1 : List Int), Aside0 (lorgnetteref01_Bits.j0 kq x4_1 0 0 = some (r1, r2)) ∧ Aside0 (kq ≤ k) ∧ Aside0 (Kd.R (Kd.int .i64) 3 wc w0.heap.size (fun k_ => (P0_1_ k_ ∨ w.heap.size ≤ k_)) v4 x4_1) ∧ Aside0 (wc.heap[gb393]? = some (.cells #[.int .u64 0, .int .u64 0] 24 (0, 0))) ∧ Aside0 (wc.heap[gb394]? = some (.cells #[.int .u64 0, .int .u64 0] 24 (0, 0))) ∧ Aside0 (Kept w wc (fun k_ => P0_1_ k_)) ∧ Aside0 (Below w0.heap.size w0 wc))
 case first =>
  have H := HC2.out
  clear HC2
  by_cases c12 : a0_0 = true
  ·subst c12
   have H1 : ((lorgnetteref01_power.f k 128).bind fun t395 => ((lorgnetteref01_minus.f k t395 l0_1).bind fun t398 => (lorgnetteref01_Bits.j0 k t398 0 0))) = some (r1, r2) := by rw [if_pos rfl] at H; exact H
   clear H
   have H := H1
   clear H1
   replace H := Option.bind_eq_some_iff.mp H
   obtain ⟨t395, A130, H⟩ := H
   replace H : ((lorgnetteref01_minus.f k t395 l0_1).bind fun t398 => (lorgnetteref01_Bits.j0 k t398 0 0)) = some (r1, r2) := H
   have A13 := Aside0.mk A130
   clear A130
   replace H := Option.bind_eq_some_iff.mp H
   obtain ⟨t398, A140, H⟩ := H
   replace H : (lorgnetteref01_Bits.j0 k t398 0 0) = some (r1, r2) := H
   have A14 := Aside0.mk A140
   clear A140
   have H' := Aside0.mk H
   clear H
   try go_wp2
   have n0_ : Aside0 (Kd.R (Kd.int .i64) 3 ((w6.setCell ⟨gb394, 0, none⟩ (.int .u64 0)).setCell ⟨gb394, 1, none⟩ (.int .u64 0)) w0.heap.size (fun k_ => (P0_1_ k_ ∨ w.heap.size ≤ k_)) (.slice Ao3 l0_1.length co3) l0_1) := ⟨by (with_reducible repeat (first | apply Kd.R_alloc | apply Kd.R_drewN | apply Kd.R_drew)); exact Kd.R_mono (Kd.R_far (p := ⟨gb394, 1, none⟩) (Kd.R_far (p := ⟨gb394, 0, none⟩) (Kd.R_types HO0_1.out BK394.out (by decide)) (fun _ hk => hk.2) (.int .u64 0)) (fun _ hk => hk.2) (.int .u64 0)) (fun _ hk => hk.1)⟩
   have n1_ : Aside0 (((w6.setCell ⟨gb394, 0, none⟩ (.int .u64 0)).setCell ⟨gb394, 1, none⟩ (.int .u64 0)).heap[gb392]? = some (.cells #[.bool true, .slice Ao3 l0_1.length co3] 28 (0, 0))) := ⟨by (with_reducible repeat (first | refine blk_drewN ?_ _ | refine blk_drew ?_ | refine blk_alloc ?_ _)); refine blk_far ?_ NB392_394.out _; (with_reducible repeat (first | refine blk_drewN ?_ _ | refine blk_drew ?_ | refine blk_alloc ?_ _)); refine blk_far ?_ NB392_394.out _; (with_reducible repeat (first | refine blk_drewN ?_ _ | refine blk_drew ?_ | refine blk_alloc ?_ _)); exact BK392.out⟩
   have n2_ : Aside0 (((w6.setCell ⟨gb394, 0, none⟩ (.int .u64 0)).setCell ⟨gb394, 1, none⟩ (.int .u64 0)).heap[gb393]? = some (.cells #[.int .u64 0, .int .u64 0] 24 (0, 0))) := ⟨by (with_reducible repeat (first | refine blk_drewN ?_ _ | refine blk_drew ?_ | refine blk_alloc ?_ _)); refine blk_far ?_ NB393_394.out _; (with_reducible repeat (first | refine blk_drewN ?_ _ | refine blk_drew ?_ | refine blk_alloc ?_ _)); refine blk_far ?_ NB393_394.out _; (with_reducible repeat (first | refine blk_drewN ?_ _ | refine blk_drew ?_ | refine blk_alloc ?_ _)); exact BK393.out⟩
   have n3_ : Aside0 (((w6.setCell ⟨gb394, 0, none⟩ (.int .u64 0)).setCell ⟨gb394, 1, none⟩ (.int .u64 0)).heap[gb394]? = some (.cells #[.int .u64 0, .int .u64 0] 24 (0, 0))) := ⟨by (with_reducible repeat (first | refine blk_drewN ?_ _ | refine blk_drew ?_ | refine blk_alloc ?_ _)); refine blk_put (cs := #[.int .u64 0, .int .u64 0]) ?_ 1 _ rfl; (with_reducible repeat (first | refine blk_drewN ?_ _ | refine blk_drew ?_ | refine blk_alloc ?_ _)); refine blk_put (cs := #[.int .u64 0, .int .u64 0]) ?_ 0 _ rfl; (with_reducible repeat (first | refine blk_drewN ?_ _ | refine blk_drew ?_ | refine blk_alloc ?_ _)); exact BK394.out⟩
   have n4_ : Aside0 (Kept w ((w6.setCell ⟨gb394, 0, none⟩ (.int .u64 0)).setCell ⟨gb394, 1, none⟩ (.int .u64 0)) (fun k_ => P0_1_ k_)) := ⟨by repeat (first | (with_reducible first | exact HK.out | apply Kept.alloc | apply Kept.drewN | apply Kept.drew | refine Kept.setCell ?_ (.inr GW392.out) _ | refine Kept.setCell ?_ (.inr GW393.out) _ | refine Kept.setCell ?_ (.inr GW394.out) _) | exact HK.out)⟩
   have n5_ : Aside0 (Below w0.heap.size w0 ((w6.setCell ⟨gb394, 0, none⟩ (.int .u64 0)).setCell ⟨gb394, 1, none⟩ (.int .u64 0))) := ⟨by repeat (first | (with_reducible first | exact HB.out | apply below_alloc | apply pw_below_drewN | apply below_drew1 | refine below_set ?_ GE392.out | refine below_set ?_ GE393.out | refine below_set ?_ GE394.out) | exact HB.out)⟩
   (try clear HO0_1)
   (try clear BK392)
   (try clear BK393)
   (try clear BK394)
   (try clear HK)
   (try clear HB)
   generalize ((w6.setCell ⟨gb394, 0, none⟩ (.int .u64 0)).setCell ⟨gb394, 1, none⟩ (.int .u64 0)) = w15 at n0_ n1_ n2_ n3_ n4_ n5_ ⊢
   have HO0_1 := n0_
   have BK392 := n1_
   have BK393 := n2_
   have BK394 := n3_
   have HK := n4_
   have HB := n5_
   clear n0_ n1_ n2_ n3_ n4_ n5_
   have n0_ := Aside0.mk (Kd.R_drew HO0_1.out)
   have n1_ := Aside0.mk (blk_drew BK392.out)
   have n2_ := Aside0.mk (blk_drew BK393.out)
   have n3_ := Aside0.mk (blk_drew BK394.out)
   have n4_ := Aside0.mk (Kept.drew HK.out)
   have n5_ := Aside0.mk (below_drew1 HB.out)
   clear HO0_1
   clear BK392
   clear BK393
   clear BK394
   clear HK
   clear HB
   have HO0_1 := n0_
   have BK392 := n1_
   have BK393 := n2_
   have BK394 := n3_
   have HK := n4_
   have HB := n5_
   clear n0_ n1_ n2_ n3_ n4_ n5_
   refine start_ (n := 5) (S := fun w' => w'.cell? ⟨gb392, 0, none⟩ = some (.bool true) ∧ w'.cell? ⟨gb392, 1, none⟩ = some (.slice Ao3 l0_1.length co3)) (ds := []) #[false, false, false, false, false] (by kernel_rfl) rfl rfl ⟨(blk_cell BK392.out 0).trans rfl, (blk_cell BK392.out 1).trans rfl⟩ (fun hHeld => ?_)
   generalize w15.drew = w16 at HO0_1 BK392 BK393 BK394 HK HB hHeld ⊢
   refine pure_ (i := 1) (N := some 15) (v := ?_) (a' := ?_) #[false, true, false, false, false] rfl rfl (by kernel_rfl) (fun _ _ _ h => h) (Or.inl ⟨by rfl, ?_⟩) ?_ ?_
   rotate_left
   ·intro w'
    go_simp
    with_reducible rfl
   rotate_left
   ·simp only [Act.put, List.setIfInBounds_toArray, List.set_cons_zero, List.set_cons_succ, i64_w, i32_w]
    rfl
   refine take_ (i := 2) (N := some 16) (v := ?_) (a' := ?_) #[false, true, true, false, false] rfl rfl (by kernel_rfl) (fun _ _ _ h => h) (Or.inl ⟨by rfl, ?_⟩) hHeld ?_ ?_
   rotate_left
   ·rintro w' ⟨s0, s1⟩
    go_simp
    with_reducible rfl
   rotate_left
   ·simp only [Act.put, List.setIfInBounds_toArray, List.set_cons_zero, List.set_cons_succ, i64_w, i32_w]
    rfl
   refine one_ (i := 0) (N := some 14) #[true, true, true, false, false] rfl rfl (by kernel_rfl) (by decide) (fun K hK => ?_)
   refine goes_ Try.func34 (by kernel_rfl) rfl #[.int .i64 128] (by rfl) rfl rfl (by (try simp only [List.map_toArray, List.map_cons, List.map_nil]); first | done | rfl | (simp only [List.length_drop, List.length_take]; rfl) | (go_simp; simp only [u8_w, w64_u8]; done) | (go_simp; simp only [u8_w, w64_u8]; rfl)) ?_
   with_reducible refine (lorgnetteref01_power.calls k 128 t395 _ A13.out).mono ?_
   rintro e w17 ⟨v396, rfl, ho0, hb⟩
   refine ⟨_, rfl, ?_⟩
   have n0_ := Aside0.mk (Kd.R_elder' (rN HO0_1) (Kd.R_base ho0) hb)
   have n1_ := Aside0.mk (Kd.R_lower (Kd.R_new' (Kd.R_newM (M := fun k_ => (P0_1_ k_ ∨ w.heap.size ≤ k_)) ho0 (by first | exact HK.out.1 | exact (show Kept w _ (fun k_ => P0_1_ k_) from by repeat (first | (with_reducible first | exact HK.out | apply Kept.alloc | apply Kept.drewN | apply Kept.drew | refine Kept.setCell ?_ (.inr GW392.out) _ | refine Kept.setCell ?_ (.inr GW393.out) _ | refine Kept.setCell ?_ (.inr GW394.out) _) | exact HK.out)).1) (fun k_ h_ => .inr h_)) (Kd.R_lt (rN HO0_1))) (below_size (bL HB)))
   have n2_ := blkB BK392 hb
   have n3_ := blkB BK393 hb
   have n4_ := blkB BK394 hb
   have n5_ := Aside0.mk (Kept.below (S := (fun k_ => P0_1_ k_)) (by repeat (first | (with_reducible first | exact HK.out | apply Kept.alloc | apply Kept.drewN | apply Kept.drew | refine Kept.setCell ?_ (.inr GW392.out) _ | refine Kept.setCell ?_ (.inr GW393.out) _ | refine Kept.setCell ?_ (.inr GW394.out) _) | exact HK.out)) hb)
   have n6_ := Aside0.mk (below_step (bL HB) hb)
   clear HO0_1
   clear BK392
   clear BK393
   clear BK394
   clear HK
   clear HB
   have HO0_1 := n0_
   have HO397 := n1_
   have BK392 := n2_
   have BK393 := n3_
   have BK394 := n4_
   have HK := n5_
   have HB := n6_
   clear n0_ n1_ n2_ n3_ n4_ n5_ n6_
   (try clear hb)
   (try clear hb2)
   (try clear hk)
   (try clear hi)
   (try clear ho0)
   obtain ⟨Ao18, co18, eo18⟩ := Kd.R_slice HO397.out
   (first | subst eo18 | (injection eo18 with f1_ f2_ f3_; have f4_ := f1_.symm; have f5_ := f3_.symm; clear f1_ f2_ f3_; subst f4_; subst f5_))
   refine hK.out _ _ ⟨(blk_cell BK392.out 0).trans rfl, (blk_cell BK392.out 1).trans rfl⟩ (fun hHeld => ?_)
   clear hK K
   refine norm_ (a' := ?_) ?_ ?_
   rotate_left
   ·show Act.put _ (some 14) _ = _
    simp only [Act.put, List.setIfInBounds_toArray, List.set_cons_zero, List.set_cons_succ, i64_w, i32_w]
    rfl
   refine one_ (i := 3) (N := some 17) #[true, true, true, true, false] rfl rfl (by kernel_rfl) (by decide) (fun K hK => ?_)
   refine goes_ Try.func31 (by kernel_rfl) rfl #[.slice Ao18 t395.length co18, .slice Ao3 l0_1.length co3] (by rfl) rfl rfl (by (try simp only [List.map_toArray, List.map_cons, List.map_nil]); first | done | rfl | (simp only [List.length_drop, List.length_take]; rfl) | (go_simp; simp only [u8_w, w64_u8]; done) | (go_simp; simp only [u8_w, w64_u8]; rfl)) ?_
   with_reducible refine (lorgnetteref01_minus.calls k _ _ t395 _ _ l0_1 t398 _ ?side1 ?side2 ?side3 ?side4 A14.out).mono ?_
   (case side1 => repeat (first | exact (Kd.R_reads' HO397.out).2.2 | (with_reducible refine Kd.C_alloc ?_ _) | (with_reducible refine Kd.C_drewN ?_ _) | (with_reducible refine Kd.C_drew ?_)))
   (case side2 => exact (Kd.R_reads' HO397.out).2.1)
   (case side3 => repeat (first | exact (Kd.R_reads' HO0_1.out).2.2 | (with_reducible refine Kd.C_alloc ?_ _) | (with_reducible refine Kd.C_drewN ?_ _) | (with_reducible refine Kd.C_drew ?_)))
   (case side4 => exact (Kd.R_reads' HO0_1.out).2.1)
   rintro e w19 ⟨v399, rfl, ho0, hb⟩
   refine ⟨_, rfl, ?_⟩
   have n0_ := Aside0.mk (Kd.R_elder' (rN HO0_1) (Kd.R_base ho0) hb)
   have n1_ := Aside0.mk (Kd.R_elder' (rN HO397) (Kd.R_base ho0) hb)
   have n2_ := Aside0.mk (Kd.R_lower (Kd.R_new' (Kd.R_new' (Kd.R_newM (M := fun k_ => (P0_1_ k_ ∨ w.heap.size ≤ k_)) ho0 (by first | exact HK.out.1 | exact (show Kept w _ (fun k_ => P0_1_ k_) from by repeat (first | (with_reducible first | exact HK.out | apply Kept.alloc | apply Kept.drewN | apply Kept.drew | refine Kept.setCell ?_ (.inr GW392.out) _ | refine Kept.setCell ?_ (.inr GW393.out) _ | refine Kept.setCell ?_ (.inr GW394.out) _) | exact HK.out)).1) (fun k_ h_ => .inr h_)) (Kd.R_lt (rN HO0_1))) (Kd.R_lt (rN HO397))) (below_size (bL HB)))
   have n3_ := blkB BK392 hb
   have n4_ := blkB BK393 hb
   have n5_ := blkB BK394 hb
   have n6_ := Aside0.mk (Kept.below (S := (fun k_ => P0_1_ k_)) (by repeat (first | (with_reducible first | exact HK.out | apply Kept.alloc | apply Kept.drewN | apply Kept.drew | refine Kept.setCell ?_ (.inr GW392.out) _ | refine Kept.setCell ?_ (.inr GW393.out) _ | refine Kept.setCell ?_ (.inr GW394.out) _) | exact HK.out)) hb)
   have n7_ := Aside0.mk (below_step (bL HB) hb)
   clear HO0_1
   clear HO397
   clear BK392
   clear BK393
   clear BK394
   clear HK
   clear HB
   have HO0_1 := n0_
   have HO397 := n1_
   have HO400 := n2_
   have BK392 := n3_
   have BK393 := n4_
   have BK394 := n5_
   have HK := n6_
   have HB := n7_
   clear n0_ n1_ n2_ n3_ n4_ n5_ n6_ n7_
   (try clear hb)
   (try clear hb2)
   (try clear hk)
   (try clear hi)
   (try clear ho0)
   refine hK.out _ _ ⟨(blk_cell BK392.out 0).trans rfl, (blk_cell BK392.out 1).trans rfl⟩ (fun hHeld => ?_)
   clear hK K
   refine norm_ (a' := ?_) ?_ ?_
   rotate_left
   ·show Act.put _ (some 17) _ = _
    simp only [Act.put, List.setIfInBounds_toArray, List.set_cons_zero, List.set_cons_succ, i64_w, i32_w]
    rfl
   refine pure_ (i := 4) (N := some 4) (v := ?_) (a' := ?_) #[true, true, true, true, true] rfl rfl (by kernel_rfl) (fun _ _ _ h => h) (Or.inl ⟨by rfl, ?_⟩) ?_ ?_
   rotate_left
   ·intro w'
    go_simp
    with_reducible rfl
   rotate_left
   ·simp only [Act.put, List.setIfInBounds_toArray, List.set_cons_zero, List.set_cons_succ, i64_w, i32_w]
    rfl
   refine done_ (by kernel_rfl) ?_
   try go_wp2
   go_meet
   case rel => exact ⟨_, (t398), H', ⟨by first | omega | exact Nat.le_refl _⟩, ⟨by (with_reducible repeat (first | apply Kd.R_alloc | apply Kd.R_drewN | apply Kd.R_drew)); exact Kd.R_mono HO400.out (fun _ hk => hk.1.1.1)⟩, ⟨bN BK393⟩, ⟨bN BK394⟩, ⟨by repeat (first | (with_reducible first | exact HK.out | apply Kept.alloc | apply Kept.drewN | apply Kept.drew | refine Kept.setCell ?_ (.inr GW392.out) _ | refine Kept.setCell ?_ (.inr GW393.out) _ | refine Kept.setCell ?_ (.inr GW394.out) _) | exact HK.out)⟩, ⟨by repeat (first | (with_reducible first | exact HB.out | apply below_alloc | apply pw_below_drewN | apply below_drew1 | refine below_set ?_ GE392.out | refine below_set ?_ GE393.out | refine below_set ?_ GE394.out) | exact HB.out)⟩⟩
  ·replace c12 := Bool.eq_false_iff.mpr c12
   subst c12
   have H1 : (lorgnetteref01_Bits.j0 k l0_1 0 0) = some (r1, r2) := by rw [if_neg (show ¬ (false = true) by decide)] at H; exact H
   clear H
   have H := H1
   clear H1
   have H' := Aside0.mk H
   clear H
   go_wp2
   go_meet
   case rel => exact ⟨_, (l0_1), H', ⟨by first | omega | exact Nat.le_refl _⟩, ⟨by (with_reducible repeat (first | apply Kd.R_alloc | apply Kd.R_drewN | apply Kd.R_drew)); exact Kd.R_mono (Kd.R_far (p := ⟨gb394, 1, none⟩) (Kd.R_far (p := ⟨gb394, 0, none⟩) (Kd.R_types HO0_1.out BK394.out (by decide)) (fun _ hk => hk.2) (.int .u64 0)) (fun _ hk => hk.2) (.int .u64 0)) (fun _ hk => hk.1)⟩, ⟨by (with_reducible repeat (first | refine blk_drewN ?_ _ | refine blk_drew ?_ | refine blk_alloc ?_ _)); refine blk_far ?_ NB393_394.out _; (with_reducible repeat (first | refine blk_drewN ?_ _ | refine blk_drew ?_ | refine blk_alloc ?_ _)); refine blk_far ?_ NB393_394.out _; (with_reducible repeat (first | refine blk_drewN ?_ _ | refine blk_drew ?_ | refine blk_alloc ?_ _)); exact BK393.out⟩, ⟨by (with_reducible repeat (first | refine blk_drewN ?_ _ | refine blk_drew ?_ | refine blk_alloc ?_ _)); refine blk_put (cs := #[.int .u64 0, .int .u64 0]) ?_ 1 _ rfl; (with_reducible repeat (first | refine blk_drewN ?_ _ | refine blk_drew ?_ | refine blk_alloc ?_ _)); refine blk_put (cs := #[.int .u64 0, .int .u64 0]) ?_ 0 _ rfl; (with_reducible repeat (first | refine blk_drewN ?_ _ | refine blk_drew ?_ | refine blk_alloc ?_ _)); exact BK394.out⟩, ⟨by repeat (first | (with_reducible first | exact HK.out | apply Kept.alloc | apply Kept.drewN | apply Kept.drew | refine Kept.setCell ?_ (.inr GW392.out) _ | refine Kept.setCell ?_ (.inr GW393.out) _ | refine Kept.setCell ?_ (.inr GW394.out) _) | exact HK.out)⟩, ⟨by repeat (first | (with_reducible first | exact HB.out | apply below_alloc | apply pw_below_drewN | apply below_drew1 | refine below_set ?_ GE392.out | refine below_set ?_ GE393.out | refine below_set ?_ GE394.out) | exact HB.out)⟩⟩
 case rest =>
  clear HC2
  try clear c1
  try clear p2
  try clear c3
  try clear c4
  try clear c7
  try clear c8
  try clear c10
  try clear c12
  try clear hcz11_0
  try clear hcz11_1
  try clear hcz9_0
  try clear hcz9_1
  try clear hfz11_0
  try clear hfz11_1
  try clear hfz9_0
  try clear hfz9_1
  obtain ⟨kq, x4_1, HA, HJ1, HO_4, BK393, BK394, HK, HB⟩ := hcut
  cases kq with
  | zero => exact absurd HA.out (by simp [lorgnetteref01_Bits.j0])
  | succ kj1 =>
   have H := HA.out
   clear HA
   simp only [lorgnetteref01_Bits.j0] at H
   obtain ⟨y401, hy401⟩ : ∃ y_ : List Int, y_ = (([2] : List Int)) := ⟨_, rfl⟩
   replace H : (lorgnetteref01_Bits.l0 kj1 x4_1 y401 0 0 0) = some (r1, r2) := by first | (rw [hy401]; with_reducible exact H) | (have H2_ := (Option.bind_some _ _).symm.trans H; rw [hy401]; with_reducible exact H2_) | (have H2_ := (Option.bind_some _ _).symm.trans H; with_reducible exact H2_) | with_reducible exact H | (rw [hy401]; exact H) | exact H
   have Ny401 := Aside0.mk hy401
   clear hy401
   have H' := Aside0.mk H
   clear H
   go_wp2_with (first | ((with_reducible refine gate_dst (N := 18) rfl ?_); refine Kd.R_lit (Kd.int .i64) _ 3 ?hg (N := 18) ?hd (xs := ([2] : List Int)) (inner := [.int .i64 2]) (ok := fun _ => True) (okp := fun _ => True) ?hr ?hp (fun _ hk => hk) trivial (Below.refl _ _) (Nat.le_refl _) (by simp) ?_; (case hd => rfl); (case hg => rfl); (case hr => first | (go_simp; done) | (go_simp; rfl)); (case hp => exact (Reps.one (show Kd.M (Kd.int .i64) _ _ _ 2 [.int .i64 2] from rfl) (Reps.none _ _))); intro v402 w20 ho21 hb hg_ hnew_; clear hg_ hnew_; (first | rw [← Ny401.out] at ho21 | (simp only [Int.reduceToNat] at ho21; rw [← Ny401.out] at ho21)); have n0_ := Aside0.mk (Kd.R_elder' (rN HO_4) (Kd.R_base ho21) hb); have n1_ := Aside0.mk (Kd.R_lower (Kd.R_new' (Kd.R_newM (M := fun k_ => (P0_1_ k_ ∨ w.heap.size ≤ k_)) ho21 (by first | exact HK.out.1 | exact (show Kept w _ (fun k_ => P0_1_ k_) from by repeat (first | (with_reducible first | exact HK.out | apply Kept.alloc | apply Kept.drewN | apply Kept.drew | refine Kept.setCell ?_ (.inr GW393.out) _ | refine Kept.setCell ?_ (.inr GW394.out) _) | exact HK.out)).1) (fun k_ h_ => .inr h_)) (Kd.R_lt (rN HO_4))) (below_size (bL HB))); have n2_ := blkB BK393 hb; have n3_ := blkB BK394 hb; have n4_ := Aside0.mk (Kept.below (S := (fun k_ => P0_1_ k_)) (by repeat (first | (with_reducible first | exact HK.out | apply Kept.alloc | apply Kept.drewN | apply Kept.drew | refine Kept.setCell ?_ (.inr GW393.out) _ | refine Kept.setCell ?_ (.inr GW394.out) _) | exact HK.out)) hb); have n5_ := Aside0.mk (below_step (bL HB) hb); clear HO_4 BK393 BK394 HK HB; have HO_4 := n0_; have HO403 := n1_; have BK393 := n2_; have BK394 := n3_; have HK := n4_; have HB := n5_; clear n0_ n1_ n2_ n3_ n4_ n5_; clear hb ho21))
   go_loopg [4, 6] kj1 (fun kq v4 v6 w' => ∃ (x4_2 : List Int) (x6_2 : Int) (x395000_2 : Int) (x395001_2 : Int), v6 = .int .i64 x6_2 ∧ Aside0 (lorgnetteref01_Bits.l0 kq x4_2 y401 x6_2 x395000_2 x395001_2 = some (r1, r2)) ∧ Aside0 (kq ≤ kj1) ∧ Aside0 (Kd.R (Kd.int .i64) 3 w' w0.heap.size (fun k_ => (P0_1_ k_ ∨ w.heap.size ≤ k_) ∧ some k_ ≠ (v402 : Value).ownBlock) v4 x4_2) ∧ Aside0 (Kd.R (Kd.int .i64) 3 w' w0.heap.size (fun k_ => (P0_1_ k_ ∨ w.heap.size ≤ k_) ∧ some k_ ≠ (v4 : Value).ownBlock) v402 y401) ∧ Aside0 (w'.heap[gb393]? = some (.cells #[.int .u64 0, .int .u64 0] 24 (0, 0))) ∧ Aside0 (w'.heap[gb394]? = some (.cells #[.int .u64 x395000_2, .int .u64 x395001_2] 24 (0, 0))) ∧ Aside0 (Kept w w' (fun k_ => P0_1_ k_)) ∧ Aside0 (Below w0.heap.size w0 w'))
   case atStart => exact ⟨(x4_1), (0), (0), (0), (by first | rfl | (simp; done) | (simp [*]; done)), H', ⟨Nat.le_refl _⟩, ⟨by (with_reducible repeat (first | apply Kd.R_alloc | apply Kd.R_drewN | apply Kd.R_drew)); exact HO_4.out⟩, ⟨by (with_reducible repeat (first | apply Kd.R_alloc | apply Kd.R_drewN | apply Kd.R_drew)); exact Kd.R_mono HO403.out (fun _ hk => ⟨hk.1.1, hk.2⟩)⟩, ⟨bN BK393⟩, ⟨bN BK394⟩, ⟨by repeat (first | (with_reducible first | exact HK.out | apply Kept.alloc | apply Kept.drewN | apply Kept.drew | refine Kept.setCell ?_ (.inr GW393.out) _ | refine Kept.setCell ?_ (.inr GW394.out) _) | exact HK.out)⟩, ⟨by repeat (first | (with_reducible first | exact HB.out | apply below_alloc | apply pw_below_drewN | apply below_drew1 | refine below_set ?_ GE393.out | refine below_set ?_ GE394.out) | exact HB.out)⟩⟩
   case round =>
    clear H'
    try clear c1
    try clear p2
    try clear c3
    try clear c4
    try clear c7
    try clear c8
    try clear c10
    try clear c12
    try clear hcz11_0
    try clear hcz11_1
    try clear hcz9_0
    try clear hcz9_1
    try clear hfz11_0
    try clear hfz11_1
    try clear hfz9_0
    try clear hfz9_1
    try clear p2
    obtain ⟨x4_2, x6_2, x395000_2, x395001_2, rfl, HA, HK2, HO_4, HO_5, BK393, BK394, HK, HB⟩ := hrel
    cases gk with
    | zero => exact absurd HA.out (by simp [lorgnetteref01_Bits.l0])
    | succ k2 =>
     have H := HA.out
     clear HA
     simp only [lorgnetteref01_Bits.l0] at H
     by_cases c22 : x6_2 < 128
     ·rw [if_pos c22] at H
      have c22b0 : decide (x6_2 < 128) = true := decide_eq_true c22
      clear c22
      replace H := Option.bind_eq_some_iff.mp H
      obtain ⟨⟨t404, t405⟩, A230, H⟩ := H
      replace H : ((lorgnetteref01_Quo.f k2 t404 t405 false y401).bind fun bt408 => (if (bt408.2.2.2.length : Int) > 0 then (if x6_2 < 64 then (if 0 ≤ x6_2 then (lorgnetteref01_Bits.l0 k2 bt408.2.1 y401 (wrap64 (x6_2 + 1)) x395000_2 (Go.bits .or .u64 x395001_2 (shl .u64 1 x6_2))) else (none)) else (if 0 ≤ (wrap64 (x6_2 - 64)) then (lorgnetteref01_Bits.l0 k2 bt408.2.1 y401 (wrap64 (x6_2 + 1)) (Go.bits .or .u64 x395000_2 (shl .u64 1 (wrap64 (x6_2 - 64)))) x395001_2) else (none))) else (lorgnetteref01_Bits.l0 k2 bt408.2.1 y401 (wrap64 (x6_2 + 1)) x395000_2 x395001_2))) = some (r1, r2) := H
      have A23 := Aside0.mk A230
      clear A230
      replace H := Option.bind_eq_some_iff.mp H
      obtain ⟨⟨t408, t409, t412, t413⟩, A240, H⟩ := H
      replace H : (if (t413.length : Int) > 0 then (if x6_2 < 64 then (if 0 ≤ x6_2 then (lorgnetteref01_Bits.l0 k2 t409 y401 (wrap64 (x6_2 + 1)) x395000_2 (Go.bits .or .u64 x395001_2 (shl .u64 1 x6_2))) else (none)) else (if 0 ≤ (wrap64 (x6_2 - 64)) then (lorgnetteref01_Bits.l0 k2 t409 y401 (wrap64 (x6_2 + 1)) (Go.bits .or .u64 x395000_2 (shl .u64 1 (wrap64 (x6_2 - 64)))) x395001_2) else (none))) else (lorgnetteref01_Bits.l0 k2 t409 y401 (wrap64 (x6_2 + 1)) x395000_2 x395001_2)) = some (r1, r2) := H
      have A24 := Aside0.mk A240
      clear A240
      by_cases c25 : (t413.length : Int) > 0
      ·rw [if_pos c25] at H
       have c25b0 : decide (0 < (t413.length : Int)) = true := decide_eq_true c25
       have c25b1 : decide (0 < t413.length) = true := decide_eq_true (by omega)
       clear c25
       by_cases c26 : x6_2 < 64
       ·rw [if_pos c26] at H
        have c26b0 : decide (x6_2 < 64) = true := decide_eq_true c26
        clear c26
        by_cases c27 : 0 ≤ x6_2
        ·rw [if_pos c27] at H
         have c27b0 := eq_true c27
         have c27b1 : decide (0 ≤ x6_2) = true := decide_eq_true c27
         clear c27
         obtain ⟨ji28, hji28⟩ : ∃ j_ : Int, (shl .u64 1 x6_2) = j_ := ⟨_, rfl⟩
         replace H : (lorgnetteref01_Bits.l0 k2 t409 y401 (wrap64 (x6_2 + 1)) x395000_2 (Go.bits .or .u64 x395001_2 (ji28))) = some (r1, r2) := by first | (rw [hji28] at H; exact H) | (simp only [hji28] at H ⊢; exact H)
         (try rw [hji28] at A23)
         (try rw [hji28] at A24)
         have hji28_ : (IntKind.u64.wrap (1 * 2 ^ min x6_2.toNat 64)) = ji28 := hji28
         have hji28z : x6_2 ≤ 64 → (IntKind.u64.wrap (1 * 2 ^ x6_2.toNat)) = ji28 := shl_small hji28
         have hji28u : (IntKind.u64.wrap (2 ^ min x6_2.toNat 64)) = ji28 := by have h_ := hji28_; rw [Int.one_mul] at h_; exact h_
         have hji28v : x6_2 ≤ 64 → (IntKind.u64.wrap (2 ^ x6_2.toNat)) = ji28 := fun hle_ => by have h_ := hji28z hle_; rw [Int.one_mul] at h_; exact h_
         have H' := Aside0.mk H
         clear H
         obtain ⟨Ao29, co29, eo29⟩ := Kd.R_slice HO_4.out
         subst eo29
         try go_wp2_with (first | ((with_reducible refine gate_callee (f := 30) rfl ?_); refine goesL_ (some 26) rfl rfl Try.func30 (by kernel_rfl) rfl #[.agg #[.bool false, .slice Ao29 x4_2.length co29]] rfl (by (try simp only [List.map_toArray, List.map_cons, List.map_nil]); first | done | rfl | (simp only [List.length_drop, List.length_take]; rfl) | (go_simp; simp only [u8_w, w64_u8]; done) | (go_simp; simp only [u8_w, w64_u8]; rfl)) ?_; (with_reducible refine (lorgnetteref01_trim.calls k2 false (fun k_ => some k_ = (.slice Ao29 x4_2.length co29 : Value).ownBlock) (.slice Ao29 x4_2.length co29) x4_2 t404 t405 w0 _ ?side1 ?side2 A23.out).mono ?_); (case side1 => repeat (first | (with_reducible first | exact HB.out | apply below_alloc | apply pw_below_drewN | apply below_drew1 | refine below_set ?_ GE393.out | refine below_set ?_ GE394.out) | exact HB.out)); (case side2 => exact Kd.R_tight rfl HO_4.out); rintro e w30 ⟨v406, rfl, ho0, hb, hkp⟩; refine ⟨_, rfl, ?_⟩; have n0_ := Aside0.mk (Kd.R_mono (ok' := fun k_ => (P0_1_ k_ ∨ w.heap.size ≤ k_) ∧ some k_ ≠ (v406 : Value).ownBlock) (Kd.R_keptB (HO_5.out) hkp (fun k_ hk_ hs_ => (hk_.2) hs_)) (fun k_ hk_ => ⟨hk_.1.1, fun e_ => Or.elim (ho0.1 k_ e_.symm) (fun hs_ => hk_.2.1 hs_) (fun hn_ => Nat.not_le.2 hk_.2.2 hn_)⟩)); have n1_ := Aside0.mk (blk_kept (bN BK393) hkp (fun hs_ => (fun e_ => (Kd.R_ne HO_4.out BK393.out (by decide)) e_) hs_)); have n2_ := Aside0.mk (blk_kept (bN BK394) hkp (fun hs_ => (fun e_ => (Kd.R_ne HO_4.out BK394.out (by decide)) e_) hs_)); have n3_ := Aside0.mk (Kd.R_mono (ok' := fun k_ => (P0_1_ k_ ∨ w.heap.size ≤ k_) ∧ some k_ ≠ (v402 : Value).ownBlock) ho0 (fun k_ hk_ => ⟨Or.elim hk_ (fun hs_ => (HO_4.out.1 k_ (hs_).symm).1) (fun hn_ => (.inr (Nat.le_trans (by first | exact HK.out.1 | exact (show Kept w _ (fun k_ => P0_1_ k_) from by repeat (first | (with_reducible first | exact HK.out | apply Kept.alloc | apply Kept.drewN | apply Kept.drew | refine Kept.setCell ?_ (.inr GW393.out) _ | refine Kept.setCell ?_ (.inr GW394.out) _) | exact HK.out)).1) hn_))), Or.elim hk_ (fun hs_ => fun e_ => (((HO_5.out).1 k_ e_.symm).2) hs_) (fun hn_ => (Kd.fresh' (Kd.R_lt (rN HO_5)) k_ hn_))⟩)); have n4_ := Aside0.mk (Kept.then_ (S := (fun k_ => P0_1_ k_)) (by repeat (first | (with_reducible first | exact HK.out | apply Kept.alloc | apply Kept.drewN | apply Kept.drew | refine Kept.setCell ?_ (.inr GW393.out) _ | refine Kept.setCell ?_ (.inr GW394.out) _) | exact HK.out)) hkp (fun k_ hs_ => (fun e_ => (HO_4.out.1 k_ e_.symm).1) hs_)); have n5_ := Aside0.mk (hb); clear HO_5 BK393 BK394 HK HB HO_4; have HO_5 := n0_; have BK393 := n1_; have BK394 := n2_; have HO407 := n3_; have HK := n4_; have HB := n5_; clear n0_ n1_ n2_ n3_ n4_ n5_; (try clear hb); (try clear hkp); (try clear ho0); obtain ⟨Ao31, co31, eo31⟩ := Kd.R_slice HO_5.out; subst eo31; obtain ⟨Ao32, co32, eo32⟩ := Kd.R_slice HO407.out; subst eo32) | ((with_reducible refine gate_callee (f := 29) rfl ?_); refine goesL_ (some 29) rfl rfl Try.func29 (by kernel_rfl) rfl #[.agg #[.bool t404, .slice Ao32 t405.length co32], .agg #[.bool false, .slice Ao31 y401.length co31]] rfl (by (try simp only [List.map_toArray, List.map_cons, List.map_nil]); first | done | rfl | (simp only [List.length_drop, List.length_take]; rfl) | (go_simp; simp only [u8_w, w64_u8]; done) | (go_simp; simp only [u8_w, w64_u8]; rfl)) ?_; (with_reducible refine (lorgnetteref01_Quo.calls k2 t404 _ _ t405 false _ _ y401 t408 t409 t412 t413 _ ?side1 ?side2 ?side3 ?side4 A24.out).mono ?_); (case side1 => repeat (first | exact (Kd.R_reads' HO407.out).2.2 | (with_reducible refine Kd.C_alloc ?_ _) | (with_reducible refine Kd.C_drewN ?_ _) | (with_reducible refine Kd.C_drew ?_))); (case side2 => exact (Kd.R_reads' HO407.out).2.1); (case side3 => repeat (first | exact (Kd.R_reads' HO_5.out).2.2 | (with_reducible refine Kd.C_alloc ?_ _) | (with_reducible refine Kd.C_drewN ?_ _) | (with_reducible refine Kd.C_drew ?_))); (case side4 => exact (Kd.R_reads' HO_5.out).2.1); rintro e w33 ⟨v410, v414, rfl, ho0, ho1, hb⟩; refine ⟨_, rfl, ?_⟩; have n0_ := Aside0.mk (Kd.R_mono (Kd.R_told (Kd.R_told (Kd.R_old (rN HO_5) hb) (Kd.R_base ho0)) (Kd.R_base ho1)) (fun _ h_ => h_.1)); have n1_ := Aside0.mk (Kd.R_mono (Kd.R_told (Kd.R_told (Kd.R_old (rN HO407) hb) (Kd.R_base ho0)) (Kd.R_base ho1)) (fun _ h_ => h_.1)); have n2_ := Aside0.mk (Kd.R_lower (Kd.R_new' (Kd.R_new' (Kd.R_newM (M := fun k_ => (P0_1_ k_ ∨ w.heap.size ≤ k_)) ho0 (by first | exact HK.out.1 | exact (show Kept w _ (fun k_ => P0_1_ k_) from by repeat (first | (with_reducible first | exact HK.out | apply Kept.alloc | apply Kept.drewN | apply Kept.drew | refine Kept.setCell ?_ (.inr GW393.out) _ | refine Kept.setCell ?_ (.inr GW394.out) _) | exact HK.out)).1) (fun k_ h_ => .inr h_)) (Kd.R_lt (rN HO_5))) (Kd.R_lt (rN HO407))) (below_size (bL HB))); have n3_ := Aside0.mk (Kd.R_lower (Kd.R_new' (Kd.R_new' (Kd.R_newM (M := fun k_ => (P0_1_ k_ ∨ w.heap.size ≤ k_)) ho1 (by first | exact HK.out.1 | exact (show Kept w _ (fun k_ => P0_1_ k_) from by repeat (first | (with_reducible first | exact HK.out | apply Kept.alloc | apply Kept.drewN | apply Kept.drew | refine Kept.setCell ?_ (.inr GW393.out) _ | refine Kept.setCell ?_ (.inr GW394.out) _) | exact HK.out)).1) (fun k_ h_ => .inr h_)) (Kd.R_lt (rN HO_5))) (Kd.R_lt (rN HO407))) (below_size (bL HB))); have n4_ := blkB BK393 hb; have n5_ := blkB BK394 hb; have n6_ := Aside0.mk (Kept.below (S := (fun k_ => P0_1_ k_)) (by repeat (first | (with_reducible first | exact HK.out | apply Kept.alloc | apply Kept.drewN | apply Kept.drew | refine Kept.setCell ?_ (.inr GW393.out) _ | refine Kept.setCell ?_ (.inr GW394.out) _) | exact HK.out)) hb); have n7_ := Aside0.mk (below_step (bL HB) hb); clear HO_5 HO407 BK393 BK394 HK HB; have HO_5 := n0_; have HO407 := n1_; have HO411 := n2_; have HO415 := n3_; have BK393 := n4_; have BK394 := n5_; have HK := n6_; have HB := n7_; clear n0_ n1_ n2_ n3_ n4_ n5_ n6_ n7_; (try clear hb); (try clear hb2); (try clear hk); (try clear hi); (try clear ho0); (try clear ho1)) | ((with_reducible refine gate_dst (N := 7) rfl ?_); refine box_event ?hg (N := 7) ?hd (cs := #[.bool false, .slice none 0 0]) (t := 28) ?hr ?_; (case hd => rfl); (case hg => rfl); (case hr => first | (go_simp; done) | (go_simp; rfl)); intro gb416 hg w34 hbox hb; have n0_ := Aside0.mk (Kd.R_below (rN HO_5) hb); have n1_ := Aside0.mk (Kd.R_below (rN HO407) hb); have n2_ := Aside0.mk (Kd.R_below (rN HO411) hb); have n3_ := Aside0.mk (Kd.R_below (rN HO415) hb); have n4_ := blkB BK393 hb; have n5_ := blkB BK394 hb; have n6_ := Aside0.mk (Kept.below (S := (fun k_ => P0_1_ k_)) (by repeat (first | (with_reducible first | exact HK.out | apply Kept.alloc | apply Kept.drewN | apply Kept.drew | refine Kept.setCell ?_ (.inr GW393.out) _ | refine Kept.setCell ?_ (.inr GW394.out) _) | exact HK.out)) hb); have n7_ := Aside0.mk (below_step (bL HB) hb); have n8_ := Aside0.mk (hbox); have n9_ := Aside0.mk ((by rw [hg]; exact (by first | exact HK.out.1 | exact (show Kept w _ (fun k_ => P0_1_ k_) from by repeat (first | (with_reducible first | exact HK.out | apply Kept.alloc | apply Kept.drewN | apply Kept.drew | refine Kept.setCell ?_ (.inr GW393.out) _ | refine Kept.setCell ?_ (.inr GW394.out) _) | exact HK.out)).1) : w.heap.size ≤ gb416)); have n10_ := Aside0.mk ((by rw [hg]; exact (below_size (bL HB)) : w0.heap.size ≤ gb416)); have n11_ := blkL BK393 hg; have n12_ := blkG BK393 hg; have n13_ := blkL BK394 hg; have n14_ := blkG BK394 hg; clear HO_5 HO407 HO411 HO415 BK393 BK394 HK HB; have HO_5 := n0_; have HO407 := n1_; have HO411 := n2_; have HO415 := n3_; have BK393 := n4_; have BK394 := n5_; have HK := n6_; have HB := n7_; have BK416 := n8_; have GW416 := n9_; have GE416 := n10_; have NB393_416 := n11_; have NB416_393 := n12_; have NB394_416 := n13_; have NB416_394 := n14_; clear n0_ n1_ n2_ n3_ n4_ n5_ n6_ n7_ n8_ n9_ n10_ n11_ n12_ n13_ n14_; clear hb hbox hg) | ((with_reducible refine gate_dst (N := 8) rfl ?_); refine box_event ?hg (N := 8) ?hd (cs := #[.bool false, .slice none 0 0]) (t := 28) ?hr ?_; (case hd => rfl); (case hg => rfl); (case hr => first | (go_simp; done) | (go_simp; rfl)); intro gb417 hg w35 hbox hb; have n0_ := Aside0.mk (Kd.R_below (rN HO_5) hb); have n1_ := Aside0.mk (Kd.R_below (rN HO407) hb); have n2_ := Aside0.mk (Kd.R_below (rN HO411) hb); have n3_ := Aside0.mk (Kd.R_below (rN HO415) hb); have n4_ := blkB BK393 hb; have n5_ := blkB BK394 hb; have n6_ := blkB BK416 hb; have n7_ := Aside0.mk (Kept.below (S := (fun k_ => P0_1_ k_)) (by repeat (first | (with_reducible first | exact HK.out | apply Kept.alloc | apply Kept.drewN | apply Kept.drew | refine Kept.setCell ?_ (.inr GW393.out) _ | refine Kept.setCell ?_ (.inr GW394.out) _ | refine Kept.setCell ?_ (.inr GW416.out) _) | exact HK.out)) hb); have n8_ := Aside0.mk (below_step (bL HB) hb); have n9_ := Aside0.mk (hbox); have n10_ := Aside0.mk ((by rw [hg]; exact (by first | exact HK.out.1 | exact (show Kept w _ (fun k_ => P0_1_ k_) from by repeat (first | (with_reducible first | exact HK.out | apply Kept.alloc | apply Kept.drewN | apply Kept.drew | refine Kept.setCell ?_ (.inr GW393.out) _ | refine Kept.setCell ?_ (.inr GW394.out) _ | refine Kept.setCell ?_ (.inr GW416.out) _) | exact HK.out)).1) : w.heap.size ≤ gb417)); have n11_ := Aside0.mk ((by rw [hg]; exact (below_size (bL HB)) : w0.heap.size ≤ gb417)); have n12_ := blkL BK393 hg; have n13_ := blkG BK393 hg; have n14_ := blkL BK394 hg; have n15_ := blkG BK394 hg; have n16_ := blkL BK416 hg; have n17_ := blkG BK416 hg; clear HO_5 HO407 HO411 HO415 BK393 BK394 BK416 HK HB; have HO_5 := n0_; have HO407 := n1_; have HO411 := n2_; have HO415 := n3_; have BK393 := n4_; have BK394 := n5_; have BK416 := n6_; have HK := n7_; have HB := n8_; have BK417 := n9_; have GW417 := n10_; have GE417 := n11_; have NB393_417 := n12_; have NB417_393 := n13_; have NB394_417 := n14_; have NB417_394 := n15_; have NB416_417 := n16_; have NB417_416 := n17_; clear n0_ n1_ n2_ n3_ n4_ n5_ n6_ n7_ n8_ n9_ n10_ n11_ n12_ n13_ n14_ n15_ n16_ n17_; clear hb hbox hg; have hnb36 := NB416_393.out; have hnc36 := NB393_416.out; have hnb37 := NB416_394.out; have hnc37 := NB394_416.out; have hnb38 := NB416_417.out; have hnc38 := NB417_416.out; have hcz39_0 : w35.cell? ⟨gb416, 0, none⟩ = some (.bool false) := (blk_cell BK416.out 0).trans rfl; have hcz39_1 : w35.cell? ⟨gb416, 1, none⟩ = some (.slice none 0 0) := (blk_cell BK416.out 1).trans rfl; have hfz39_0 := blk_frozen BK416.out 0; have hfz39_1 := blk_frozen BK416.out 1; obtain ⟨Ao40, co40, eo40⟩ := Kd.R_slice HO411.out; subst eo40; have hnb41 := NB417_393.out; have hnc41 := NB393_417.out; have hnb42 := NB417_394.out; have hnc42 := NB394_417.out; have hcz43_0 : w35.cell? ⟨gb417, 0, none⟩ = some (.bool false) := (blk_cell BK417.out 0).trans rfl; have hcz43_1 : w35.cell? ⟨gb417, 1, none⟩ = some (.slice none 0 0) := (blk_cell BK417.out 1).trans rfl; have hfz43_0 := blk_frozen BK417.out 0; have hfz43_1 := blk_frozen BK417.out 1; obtain ⟨Ao44, co44, eo44⟩ := Kd.R_slice HO415.out; subst eo44))
         have n0_ : Aside0 (Kd.R (Kd.int .i64) 3 ((((w35.setCell ⟨gb416, 0, none⟩ (.bool t408)).setCell ⟨gb416, 1, none⟩ (.slice Ao40 t409.length co40)).setCell ⟨gb417, 0, none⟩ (.bool t412)).setCell ⟨gb417, 1, none⟩ (.slice Ao44 t413.length co44)) w0.heap.size (fun k_ => (P0_1_ k_ ∨ w.heap.size ≤ k_) ∧ some k_ ≠ (.slice Ao32 t405.length co32 : Value).ownBlock ∧ some k_ ≠ (.slice Ao40 t409.length co40 : Value).ownBlock ∧ some k_ ≠ (.slice Ao44 t413.length co44 : Value).ownBlock) (.slice Ao31 y401.length co31) y401) := ⟨by (with_reducible repeat (first | apply Kd.R_alloc | apply Kd.R_drewN | apply Kd.R_drew)); exact Kd.R_mono (Kd.R_far (p := ⟨gb417, 1, none⟩) (Kd.R_far (p := ⟨gb417, 0, none⟩) (Kd.R_far (p := ⟨gb416, 1, none⟩) (Kd.R_far (p := ⟨gb416, 0, none⟩) (Kd.R_types (Kd.R_types HO_5.out BK416.out (by decide)) BK417.out (by decide)) (fun _ hk => hk.1.2) (.bool t408)) (fun _ hk => hk.1.2) (.slice Ao40 t409.length co40)) (fun _ hk => hk.2) (.bool t412)) (fun _ hk => hk.2) (.slice Ao44 t413.length co44)) (fun _ hk => ⟨hk.1.1.1.1.1, ⟨hk.1.1.1.1.2, ⟨hk.1.1.1.2, hk.1.1.2⟩⟩⟩)⟩
         have n1_ : Aside0 (Kd.R (Kd.int .i64) 3 ((((w35.setCell ⟨gb416, 0, none⟩ (.bool t408)).setCell ⟨gb416, 1, none⟩ (.slice Ao40 t409.length co40)).setCell ⟨gb417, 0, none⟩ (.bool t412)).setCell ⟨gb417, 1, none⟩ (.slice Ao44 t413.length co44)) w0.heap.size (fun k_ => (P0_1_ k_ ∨ w.heap.size ≤ k_) ∧ some k_ ≠ (.slice Ao31 y401.length co31 : Value).ownBlock ∧ some k_ ≠ (.slice Ao40 t409.length co40 : Value).ownBlock ∧ some k_ ≠ (.slice Ao44 t413.length co44 : Value).ownBlock) (.slice Ao32 t405.length co32) t405) := ⟨by (with_reducible repeat (first | apply Kd.R_alloc | apply Kd.R_drewN | apply Kd.R_drew)); exact Kd.R_mono (Kd.R_far (p := ⟨gb417, 1, none⟩) (Kd.R_far (p := ⟨gb417, 0, none⟩) (Kd.R_far (p := ⟨gb416, 1, none⟩) (Kd.R_far (p := ⟨gb416, 0, none⟩) (Kd.R_types (Kd.R_types HO407.out BK416.out (by decide)) BK417.out (by decide)) (fun _ hk => hk.1.2) (.bool t408)) (fun _ hk => hk.1.2) (.slice Ao40 t409.length co40)) (fun _ hk => hk.2) (.bool t412)) (fun _ hk => hk.2) (.slice Ao44 t413.length co44)) (fun _ hk => ⟨hk.1.1.1.1.1, ⟨hk.1.1.1.1.2, ⟨hk.1.1.1.2, hk.1.1.2⟩⟩⟩)⟩
         have n2_ : Aside0 (Kd.R (Kd.int .i64) 3 ((((w35.setCell ⟨gb416, 0, none⟩ (.bool t408)).setCell ⟨gb416, 1, none⟩ (.slice Ao40 t409.length co40)).setCell ⟨gb417, 0, none⟩ (.bool t412)).setCell ⟨gb417, 1, none⟩ (.slice Ao44 t413.length co44)) w0.heap.size (fun k_ => (P0_1_ k_ ∨ w.heap.size ≤ k_) ∧ some k_ ≠ (.slice Ao31 y401.length co31 : Value).ownBlock ∧ some k_ ≠ (.slice Ao32 t405.length co32 : Value).ownBlock ∧ some k_ ≠ (.slice Ao44 t413.length co44 : Value).ownBlock) (.slice Ao40 t409.length co40) t409) := ⟨by (with_reducible repeat (first | apply Kd.R_alloc | apply Kd.R_drewN | apply Kd.R_drew)); exact Kd.R_mono (Kd.R_far (p := ⟨gb417, 1, none⟩) (Kd.R_far (p := ⟨gb417, 0, none⟩) (Kd.R_far (p := ⟨gb416, 1, none⟩) (Kd.R_far (p := ⟨gb416, 0, none⟩) (Kd.R_types (Kd.R_types HO411.out BK416.out (by decide)) BK417.out (by decide)) (fun _ hk => hk.1.2) (.bool t408)) (fun _ hk => hk.1.2) (.slice Ao40 t409.length co40)) (fun _ hk => hk.2) (.bool t412)) (fun _ hk => hk.2) (.slice Ao44 t413.length co44)) (fun _ hk => ⟨hk.1.1.1.1.1, ⟨hk.1.1.1.2, ⟨hk.1.1.2, hk.1.1.1.1.2⟩⟩⟩)⟩
         have n3_ : Aside0 (Kd.R (Kd.int .i64) 3 ((((w35.setCell ⟨gb416, 0, none⟩ (.bool t408)).setCell ⟨gb416, 1, none⟩ (.slice Ao40 t409.length co40)).setCell ⟨gb417, 0, none⟩ (.bool t412)).setCell ⟨gb417, 1, none⟩ (.slice Ao44 t413.length co44)) w0.heap.size (fun k_ => (P0_1_ k_ ∨ w.heap.size ≤ k_) ∧ some k_ ≠ (.slice Ao31 y401.length co31 : Value).ownBlock ∧ some k_ ≠ (.slice Ao32 t405.length co32 : Value).ownBlock ∧ some k_ ≠ (.slice Ao40 t409.length co40 : Value).ownBlock) (.slice Ao44 t413.length co44) t413) := ⟨by (with_reducible repeat (first | apply Kd.R_alloc | apply Kd.R_drewN | apply Kd.R_drew)); exact Kd.R_mono (Kd.R_far (p := ⟨gb417, 1, none⟩) (Kd.R_far (p := ⟨gb417, 0, none⟩) (Kd.R_far (p := ⟨gb416, 1, none⟩) (Kd.R_far (p := ⟨gb416, 0, none⟩) (Kd.R_types (Kd.R_types HO415.out BK416.out (by decide)) BK417.out (by decide)) (fun _ hk => hk.1.2) (.bool t408)) (fun _ hk => hk.1.2) (.slice Ao40 t409.length co40)) (fun _ hk => hk.2) (.bool t412)) (fun _ hk => hk.2) (.slice Ao44 t413.length co44)) (fun _ hk => ⟨hk.1.1.1.1.1, ⟨hk.1.1.1.2, ⟨hk.1.1.2, hk.1.1.1.1.2⟩⟩⟩)⟩
         have n4_ : Aside0 (((((w35.setCell ⟨gb416, 0, none⟩ (.bool t408)).setCell ⟨gb416, 1, none⟩ (.slice Ao40 t409.length co40)).setCell ⟨gb417, 0, none⟩ (.bool t412)).setCell ⟨gb417, 1, none⟩ (.slice Ao44 t413.length co44)).heap[gb393]? = some (.cells #[.int .u64 0, .int .u64 0] 24 (0, 0))) := ⟨by (with_reducible repeat (first | refine blk_drewN ?_ _ | refine blk_drew ?_ | refine blk_alloc ?_ _)); refine blk_far ?_ NB393_417.out _; (with_reducible repeat (first | refine blk_drewN ?_ _ | refine blk_drew ?_ | refine blk_alloc ?_ _)); refine blk_far ?_ NB393_417.out _; (with_reducible repeat (first | refine blk_drewN ?_ _ | refine blk_drew ?_ | refine blk_alloc ?_ _)); refine blk_far ?_ NB393_416.out _; (with_reducible repeat (first | refine blk_drewN ?_ _ | refine blk_drew ?_ | refine blk_alloc ?_ _)); refine blk_far ?_ NB393_416.out _; (with_reducible repeat (first | refine blk_drewN ?_ _ | refine blk_drew ?_ | refine blk_alloc ?_ _)); exact BK393.out⟩
         have n5_ : Aside0 (((((w35.setCell ⟨gb416, 0, none⟩ (.bool t408)).setCell ⟨gb416, 1, none⟩ (.slice Ao40 t409.length co40)).setCell ⟨gb417, 0, none⟩ (.bool t412)).setCell ⟨gb417, 1, none⟩ (.slice Ao44 t413.length co44)).heap[gb394]? = some (.cells #[.int .u64 x395000_2, .int .u64 x395001_2] 24 (0, 0))) := ⟨by (with_reducible repeat (first | refine blk_drewN ?_ _ | refine blk_drew ?_ | refine blk_alloc ?_ _)); refine blk_far ?_ NB394_417.out _; (with_reducible repeat (first | refine blk_drewN ?_ _ | refine blk_drew ?_ | refine blk_alloc ?_ _)); refine blk_far ?_ NB394_417.out _; (with_reducible repeat (first | refine blk_drewN ?_ _ | refine blk_drew ?_ | refine blk_alloc ?_ _)); refine blk_far ?_ NB394_416.out _; (with_reducible repeat (first | refine blk_drewN ?_ _ | refine blk_drew ?_ | refine blk_alloc ?_ _)); refine blk_far ?_ NB394_416.out _; (with_reducible repeat (first | refine blk_drewN ?_ _ | refine blk_drew ?_ | refine blk_alloc ?_ _)); exact BK394.out⟩
         have n6_ : Aside0 (((((w35.setCell ⟨gb416, 0, none⟩ (.bool t408)).setCell ⟨gb416, 1, none⟩ (.slice Ao40 t409.length co40)).setCell ⟨gb417, 0, none⟩ (.bool t412)).setCell ⟨gb417, 1, none⟩ (.slice Ao44 t413.length co44)).heap[gb416]? = some (.cells #[.bool t408, .slice Ao40 t409.length co40] 28 (0, 0))) := ⟨by (with_reducible repeat (first | refine blk_drewN ?_ _ | refine blk_drew ?_ | refine blk_alloc ?_ _)); refine blk_far ?_ NB416_417.out _; (with_reducible repeat (first | refine blk_drewN ?_ _ | refine blk_drew ?_ | refine blk_alloc ?_ _)); refine blk_far ?_ NB416_417.out _; (with_reducible repeat (first | refine blk_drewN ?_ _ | refine blk_drew ?_ | refine blk_alloc ?_ _)); refine blk_put (cs := #[.bool t408, .slice none 0 0]) ?_ 1 _ rfl; (with_reducible repeat (first | refine blk_drewN ?_ _ | refine blk_drew ?_ | refine blk_alloc ?_ _)); refine blk_put (cs := #[.bool false, .slice none 0 0]) ?_ 0 _ rfl; (with_reducible repeat (first | refine blk_drewN ?_ _ | refine blk_drew ?_ | refine blk_alloc ?_ _)); exact BK416.out⟩
         have n7_ : Aside0 (((((w35.setCell ⟨gb416, 0, none⟩ (.bool t408)).setCell ⟨gb416, 1, none⟩ (.slice Ao40 t409.length co40)).setCell ⟨gb417, 0, none⟩ (.bool t412)).setCell ⟨gb417, 1, none⟩ (.slice Ao44 t413.length co44)).heap[gb417]? = some (.cells #[.bool t412, .slice Ao44 t413.length co44] 28 (0, 0))) := ⟨by (with_reducible repeat (first | refine blk_drewN ?_ _ | refine blk_drew ?_ | refine blk_alloc ?_ _)); refine blk_put (cs := #[.bool t412, .slice none 0 0]) ?_ 1 _ rfl; (with_reducible repeat (first | refine blk_drewN ?_ _ | refine blk_drew ?_ | refine blk_alloc ?_ _)); refine blk_put (cs := #[.bool false, .slice none 0 0]) ?_ 0 _ rfl; (with_reducible repeat (first | refine blk_drewN ?_ _ | refine blk_drew ?_ | refine blk_alloc ?_ _)); refine blk_far ?_ NB417_416.out _; (with_reducible repeat (first | refine blk_drewN ?_ _ | refine blk_drew ?_ | refine blk_alloc ?_ _)); refine blk_far ?_ NB417_416.out _; (with_reducible repeat (first | refine blk_drewN ?_ _ | refine blk_drew ?_ | refine blk_alloc ?_ _)); exact BK417.out⟩
         have n8_ : Aside0 (Kept w ((((w35.setCell ⟨gb416, 0, none⟩ (.bool t408)).setCell ⟨gb416, 1, none⟩ (.slice Ao40 t409.length co40)).setCell ⟨gb417, 0, none⟩ (.bool t412)).setCell ⟨gb417, 1, none⟩ (.slice Ao44 t413.length co44)) (fun k_ => P0_1_ k_)) := ⟨by repeat (first | (with_reducible first | exact HK.out | apply Kept.alloc | apply Kept.drewN | apply Kept.drew | refine Kept.setCell ?_ (.inr GW393.out) _ | refine Kept.setCell ?_ (.inr GW394.out) _ | refine Kept.setCell ?_ (.inr GW416.out) _ | refine Kept.setCell ?_ (.inr GW417.out) _) | exact HK.out)⟩
         have n9_ : Aside0 (Below w0.heap.size w0 ((((w35.setCell ⟨gb416, 0, none⟩ (.bool t408)).setCell ⟨gb416, 1, none⟩ (.slice Ao40 t409.length co40)).setCell ⟨gb417, 0, none⟩ (.bool t412)).setCell ⟨gb417, 1, none⟩ (.slice Ao44 t413.length co44))) := ⟨by repeat (first | (with_reducible first | exact HB.out | apply below_alloc | apply pw_below_drewN | apply below_drew1 | refine below_set ?_ GE393.out | refine below_set ?_ GE394.out | refine below_set ?_ GE416.out | refine below_set ?_ GE417.out) | exact HB.out)⟩
         (try clear HO_5)
         (try clear HO407)
         (try clear HO411)
         (try clear HO415)
         (try clear BK393)
         (try clear BK394)
         (try clear BK416)
         (try clear BK417)
         (try clear HK)
         (try clear HB)
         generalize ((((w35.setCell ⟨gb416, 0, none⟩ (.bool t408)).setCell ⟨gb416, 1, none⟩ (.slice Ao40 t409.length co40)).setCell ⟨gb417, 0, none⟩ (.bool t412)).setCell ⟨gb417, 1, none⟩ (.slice Ao44 t413.length co44)) = w45 at n0_ n1_ n2_ n3_ n4_ n5_ n6_ n7_ n8_ n9_ ⊢
         have HO_5 := n0_
         have HO407 := n1_
         have HO411 := n2_
         have HO415 := n3_
         have BK393 := n4_
         have BK394 := n5_
         have BK416 := n6_
         have BK417 := n7_
         have HK := n8_
         have HB := n9_
         clear n0_ n1_ n2_ n3_ n4_ n5_ n6_ n7_ n8_ n9_
         have n0_ := Aside0.mk (Kd.R_drew HO_5.out)
         have n1_ := Aside0.mk (Kd.R_drew HO407.out)
         have n2_ := Aside0.mk (Kd.R_drew HO411.out)
         have n3_ := Aside0.mk (Kd.R_drew HO415.out)
         have n4_ := Aside0.mk (blk_drew BK393.out)
         have n5_ := Aside0.mk (blk_drew BK394.out)
         have n6_ := Aside0.mk (blk_drew BK416.out)
         have n7_ := Aside0.mk (blk_drew BK417.out)
         have n8_ := Aside0.mk (Kept.drew HK.out)
         have n9_ := Aside0.mk (below_drew1 HB.out)
         clear HO_5
         clear HO407
         clear HO411
         clear HO415
         clear BK393
         clear BK394
         clear BK416
         clear BK417
         clear HK
         clear HB
         have HO_5 := n0_
         have HO407 := n1_
         have HO411 := n2_
         have HO415 := n3_
         have BK393 := n4_
         have BK394 := n5_
         have BK416 := n6_
         have BK417 := n7_
         have HK := n8_
         have HB := n9_
         clear n0_ n1_ n2_ n3_ n4_ n5_ n6_ n7_ n8_ n9_
         refine start_ (n := 7) (S := fun w' => w'.cell? ⟨gb394, 0, none⟩ = some (.int .u64 x395000_2) ∧ w'.cell? ⟨gb394, 1, none⟩ = some (.int .u64 x395001_2)) (ds := [6]) #[false, false, false, false, false, false, false] (by kernel_rfl) rfl rfl ⟨(blk_cell BK394.out 0).trans rfl, (blk_cell BK394.out 1).trans rfl⟩ (fun hHeld => ?_)
         generalize w45.drew = w46 at HO_5 HO407 HO411 HO415 BK393 BK394 BK416 BK417 HK HB hHeld ⊢
         refine pure_ (i := 0) (N := some 38) (v := ?_) (a' := ?_) #[true, false, false, false, false, false, false] rfl rfl (by kernel_rfl) (fun _ _ _ h => h) (Or.inl ⟨by rfl, ?_⟩) ?_ ?_
         rotate_left
         ·intro w'
          go_simp
          with_reducible rfl
         rotate_left
         ·simp only [Act.put, List.setIfInBounds_toArray, List.set_cons_zero, List.set_cons_succ, i64_w, i32_w]
          rfl
         refine pure_ (i := 2) (N := some 40) (v := ?_) (a' := ?_) #[true, false, true, false, false, false, false] rfl rfl (by kernel_rfl) (fun _ _ _ h => h) (Or.inl ⟨by rfl, ?_⟩) ?_ ?_
         rotate_left
         ·intro w'
          go_simp
          with_reducible rfl
         rotate_left
         ·simp only [Act.put, List.setIfInBounds_toArray, List.set_cons_zero, List.set_cons_succ, i64_w, i32_w]
          rfl
         refine pure_ (i := 3) (N := some 41) (v := ?_) (a' := ?_) #[true, false, true, true, false, false, false] rfl rfl (by kernel_rfl) (fun _ _ _ h => h) (Or.inl ⟨by rfl, ?_⟩) ?_ ?_
         rotate_left
         ·intro w'
          go_simp
          with_reducible rfl
         rotate_left
         ·simp only [Act.put, List.setIfInBounds_toArray, List.set_cons_zero, List.set_cons_succ, i64_w, i32_w]
          rfl
         refine take_ (i := 1) (N := some 39) (v := ?_) (a' := ?_) #[true, true, true, true, false, false, false] rfl rfl (by kernel_rfl) (fun _ _ _ h => h) (Or.inl ⟨by rfl, ?_⟩) hHeld ?_ ?_
         rotate_left
         ·rintro w' ⟨s0, s1⟩
          go_simp
          with_reducible rfl
         rotate_left
         ·simp only [Act.put, List.setIfInBounds_toArray, List.set_cons_zero, List.set_cons_succ, i64_w, i32_w]
          rfl
         refine pure_ (i := 4) (N := some 42) (v := ?_) (a' := ?_) #[true, true, true, true, true, false, false] rfl rfl (by kernel_rfl) (fun _ _ _ h => h) (Or.inl ⟨by rfl, ?_⟩) ?_ ?_
         rotate_left
         ·intro w'
          go_simp
          with_reducible rfl
         rotate_left
         ·simp only [Act.put, List.setIfInBounds_toArray, List.set_cons_zero, List.set_cons_succ, i64_w, i32_w]
          rfl
         refine pure_ (i := 5) (N := some 43) (v := ?_) (a' := ?_) #[true, true, true, true, true, true, false] rfl rfl (by kernel_rfl) (fun _ _ _ h => h) (Or.inl ⟨by rfl, ?_⟩) ?_ ?_
         rotate_left
         ·intro w'
          go_simp
          with_reducible rfl
         rotate_left
         ·simp only [Act.put, List.setIfInBounds_toArray, List.set_cons_zero, List.set_cons_succ, i64_w, i32_w]
          rfl
         refine last_ (i := 6) (N := none) #[true, true, true, true, true, true, true] rfl rfl (by kernel_rfl) (by decide) (fun K hK => ?_)
         have hs47 : w46.cell? ⟨gb394, 1, none⟩ = some (.int .u64 x395001_2) := (blk_cell BK394.out 1).trans rfl
         have hfs47 := blk_frozen BK394.out 1
         have hns47_0 := NB393_394.out
         have hns47_2 := NB416_394.out
         have hns47_3 := NB417_394.out
         have hms47_0 := NB394_393.out
         have hms47_2 := NB394_416.out
         have hms47_3 := NB394_417.out
         refine skip_ (w1 := ?_) (by rfl) rfl ?_ ?_
         rotate_left
         ·go_simp
          rfl
         refine hK.out _ _ ?_
         clear hK K
         refine done_ (by kernel_rfl) ?_
         have hcz48_0 : w46.cell? ⟨gb416, 0, none⟩ = some (.bool t408) := (blk_cell BK416.out 0).trans rfl
         have hcz48_1 : w46.cell? ⟨gb416, 1, none⟩ = some (.slice Ao40 t409.length co40) := (blk_cell BK416.out 1).trans rfl
         have hfz48_0 := blk_frozen BK416.out 0
         have hfz48_1 := blk_frozen BK416.out 1
         try go_wp2
         go_roundg k2
         case measure => have := HJ1.out; have := HK2.out; omega
         case rel => exact ⟨(t409), (wrap64 (x6_2 + 1)), (x395000_2), (Go.bits .or .u64 x395001_2 (ji28)), (by first | rfl | (simp; done) | (simp [*]; done)), H', ⟨by have := HJ1.out; have := HK2.out; omega⟩, ⟨by (with_reducible repeat (first | apply Kd.R_alloc | apply Kd.R_drewN | apply Kd.R_drew)); exact Kd.R_mono (Kd.R_far (p := ⟨gb394, 1, none⟩) (Kd.R_types HO411.out BK394.out (by decide)) (fun _ hk => hk.2) (.int .u64 (Go.bits .or .u64 x395001_2 (ji28)))) (fun _ hk => ⟨hk.1.1, hk.1.2.1⟩)⟩, ⟨by (with_reducible repeat (first | apply Kd.R_alloc | apply Kd.R_drewN | apply Kd.R_drew)); exact Kd.R_mono (Kd.R_far (p := ⟨gb394, 1, none⟩) (Kd.R_types HO_5.out BK394.out (by decide)) (fun _ hk => hk.2) (.int .u64 (Go.bits .or .u64 x395001_2 (ji28)))) (fun _ hk => ⟨hk.1.1, hk.1.2.2.1⟩)⟩, ⟨by (with_reducible repeat (first | refine blk_drewN ?_ _ | refine blk_drew ?_ | refine blk_alloc ?_ _)); refine blk_far ?_ NB393_394.out _; (with_reducible repeat (first | refine blk_drewN ?_ _ | refine blk_drew ?_ | refine blk_alloc ?_ _)); exact BK393.out⟩, ⟨by (with_reducible repeat (first | refine blk_drewN ?_ _ | refine blk_drew ?_ | refine blk_alloc ?_ _)); refine blk_put (cs := #[.int .u64 x395000_2, .int .u64 x395001_2]) ?_ 1 _ rfl; (with_reducible repeat (first | refine blk_drewN ?_ _ | refine blk_drew ?_ | refine blk_alloc ?_ _)); exact BK394.out⟩, ⟨by repeat (first | (with_reducible first | exact HK.out | apply Kept.alloc | apply Kept.drewN | apply Kept.drew | refine Kept.setCell ?_ (.inr GW393.out) _ | refine Kept.setCell ?_ (.inr GW394.out) _ | refine Kept.setCell ?_ (.inr GW416.out) _ | refine Kept.setCell ?_ (.inr GW417.out) _) | exact HK.out)⟩, ⟨by repeat (first | (with_reducible first | exact HB.out | apply below_alloc | apply pw_below_drewN | apply below_drew1 | refine below_set ?_ GE393.out | refine below_set ?_ GE394.out | refine below_set ?_ GE416.out | refine below_set ?_ GE417.out) | exact HB.out)⟩⟩
        ·rw [if_neg c27] at H
         exact absurd H (by simp)
       ·rw [if_neg c26] at H
        have c26b0 : decide (x6_2 < 64) = false := decide_eq_false c26
        clear c26
        obtain ⟨ji49, hji49⟩ : ∃ j_ : Int, (wrap64 (x6_2 - 64)) = j_ := ⟨_, rfl⟩
        replace H : (if 0 ≤ (ji49) then (lorgnetteref01_Bits.l0 k2 t409 y401 (wrap64 (x6_2 + 1)) (Go.bits .or .u64 x395000_2 (shl .u64 1 (ji49))) x395001_2) else (none)) = some (r1, r2) := by first | (rw [hji49] at H; exact H) | (simp only [hji49] at H ⊢; exact H)
        (try rw [hji49] at A23)
        (try rw [hji49] at A24)
        have hji49w : (IntKind.i64.wrap (x6_2 - 64)) = ji49 := (i64_w _).trans hji49
        by_cases c50 : 0 ≤ (ji49)
        ·rw [if_pos c50] at H
         have c50b0 := eq_true c50
         have c50b1 : decide (0 ≤ (ji49)) = true := decide_eq_true c50
         clear c50
         obtain ⟨ji51, hji51⟩ : ∃ j_ : Int, (shl .u64 1 (ji49)) = j_ := ⟨_, rfl⟩
         replace H : (lorgnetteref01_Bits.l0 k2 t409 y401 (wrap64 (x6_2 + 1)) (Go.bits .or .u64 x395000_2 (ji51)) x395001_2) = some (r1, r2) := by first | (rw [hji51] at H; exact H) | (simp only [hji51] at H ⊢; exact H)
         (try rw [hji51] at A23)
         (try rw [hji51] at A24)
         have hji51_ : (IntKind.u64.wrap (1 * 2 ^ min (ji49).toNat 64)) = ji51 := hji51
         have hji51z : (ji49) ≤ 64 → (IntKind.u64.wrap (1 * 2 ^ (ji49).toNat)) = ji51 := shl_small hji51
         have hji51u : (IntKind.u64.wrap (2 ^ min (ji49).toNat 64)) = ji51 := by have h_ := hji51_; rw [Int.one_mul] at h_; exact h_
         have hji51v : (ji49) ≤ 64 → (IntKind.u64.wrap (2 ^ (ji49).toNat)) = ji51 := fun hle_ => by have h_ := hji51z hle_; rw [Int.one_mul] at h_; exact h_
         have H' := Aside0.mk H
         clear H
         obtain ⟨Ao52, co52, eo52⟩ := Kd.R_slice HO_4.out
         subst eo52
         try go_wp2_with (first | ((with_reducible refine gate_callee (f := 30) rfl ?_); refine goesL_ (some 26) rfl rfl Try.func30 (by kernel_rfl) rfl #[.agg #[.bool false, .slice Ao52 x4_2.length co52]] rfl (by (try simp only [List.map_toArray, List.map_cons, List.map_nil]); first | done | rfl | (simp only [List.length_drop, List.length_take]; rfl) | (go_simp; simp only [u8_w, w64_u8]; done) | (go_simp; simp only [u8_w, w64_u8]; rfl)) ?_; (with_reducible refine (lorgnetteref01_trim.calls k2 false (fun k_ => some k_ = (.slice Ao52 x4_2.length co52 : Value).ownBlock) (.slice Ao52 x4_2.length co52) x4_2 t404 t405 w0 _ ?side1 ?side2 A23.out).mono ?_); (case side1 => repeat (first | (with_reducible first | exact HB.out | apply below_alloc | apply pw_below_drewN | apply below_drew1 | refine below_set ?_ GE393.out | refine below_set ?_ GE394.out) | exact HB.out)); (case side2 => exact Kd.R_tight rfl HO_4.out); rintro e w53 ⟨v406, rfl, ho0, hb, hkp⟩; refine ⟨_, rfl, ?_⟩; have n0_ := Aside0.mk (Kd.R_mono (ok' := fun k_ => (P0_1_ k_ ∨ w.heap.size ≤ k_) ∧ some k_ ≠ (v406 : Value).ownBlock) (Kd.R_keptB (HO_5.out) hkp (fun k_ hk_ hs_ => (hk_.2) hs_)) (fun k_ hk_ => ⟨hk_.1.1, fun e_ => Or.elim (ho0.1 k_ e_.symm) (fun hs_ => hk_.2.1 hs_) (fun hn_ => Nat.not_le.2 hk_.2.2 hn_)⟩)); have n1_ := Aside0.mk (blk_kept (bN BK393) hkp (fun hs_ => (fun e_ => (Kd.R_ne HO_4.out BK393.out (by decide)) e_) hs_)); have n2_ := Aside0.mk (blk_kept (bN BK394) hkp (fun hs_ => (fun e_ => (Kd.R_ne HO_4.out BK394.out (by decide)) e_) hs_)); have n3_ := Aside0.mk (Kd.R_mono (ok' := fun k_ => (P0_1_ k_ ∨ w.heap.size ≤ k_) ∧ some k_ ≠ (v402 : Value).ownBlock) ho0 (fun k_ hk_ => ⟨Or.elim hk_ (fun hs_ => (HO_4.out.1 k_ (hs_).symm).1) (fun hn_ => (.inr (Nat.le_trans (by first | exact HK.out.1 | exact (show Kept w _ (fun k_ => P0_1_ k_) from by repeat (first | (with_reducible first | exact HK.out | apply Kept.alloc | apply Kept.drewN | apply Kept.drew | refine Kept.setCell ?_ (.inr GW393.out) _ | refine Kept.setCell ?_ (.inr GW394.out) _) | exact HK.out)).1) hn_))), Or.elim hk_ (fun hs_ => fun e_ => (((HO_5.out).1 k_ e_.symm).2) hs_) (fun hn_ => (Kd.fresh' (Kd.R_lt (rN HO_5)) k_ hn_))⟩)); have n4_ := Aside0.mk (Kept.then_ (S := (fun k_ => P0_1_ k_)) (by repeat (first | (with_reducible first | exact HK.out | apply Kept.alloc | apply Kept.drewN | apply Kept.drew | refine Kept.setCell ?_ (.inr GW393.out) _ | refine Kept.setCell ?_ (.inr GW394.out) _) | exact HK.out)) hkp (fun k_ hs_ => (fun e_ => (HO_4.out.1 k_ e_.symm).1) hs_)); have n5_ := Aside0.mk (hb); clear HO_5 BK393 BK394 HK HB HO_4; have HO_5 := n0_; have BK393 := n1_; have BK394 := n2_; have HO407 := n3_; have HK := n4_; have HB := n5_; clear n0_ n1_ n2_ n3_ n4_ n5_; (try clear hb); (try clear hkp); (try clear ho0); obtain ⟨Ao54, co54, eo54⟩ := Kd.R_slice HO_5.out; subst eo54; obtain ⟨Ao55, co55, eo55⟩ := Kd.R_slice HO407.out; subst eo55) | ((with_reducible refine gate_callee (f := 29) rfl ?_); refine goesL_ (some 29) rfl rfl Try.func29 (by kernel_rfl) rfl #[.agg #[.bool t404, .slice Ao55 t405.length co55], .agg #[.bool false, .slice Ao54 y401.length co54]] rfl (by (try simp only [List.map_toArray, List.map_cons, List.map_nil]); first | done | rfl | (simp only [List.length_drop, List.length_take]; rfl) | (go_simp; simp only [u8_w, w64_u8]; done) | (go_simp; simp only [u8_w, w64_u8]; rfl)) ?_; (with_reducible refine (lorgnetteref01_Quo.calls k2 t404 _ _ t405 false _ _ y401 t408 t409 t412 t413 _ ?side1 ?side2 ?side3 ?side4 A24.out).mono ?_); (case side1 => repeat (first | exact (Kd.R_reads' HO407.out).2.2 | (with_reducible refine Kd.C_alloc ?_ _) | (with_reducible refine Kd.C_drewN ?_ _) | (with_reducible refine Kd.C_drew ?_))); (case side2 => exact (Kd.R_reads' HO407.out).2.1); (case side3 => repeat (first | exact (Kd.R_reads' HO_5.out).2.2 | (with_reducible refine Kd.C_alloc ?_ _) | (with_reducible refine Kd.C_drewN ?_ _) | (with_reducible refine Kd.C_drew ?_))); (case side4 => exact (Kd.R_reads' HO_5.out).2.1); rintro e w56 ⟨v410, v414, rfl, ho0, ho1, hb⟩; refine ⟨_, rfl, ?_⟩; have n0_ := Aside0.mk (Kd.R_mono (Kd.R_told (Kd.R_told (Kd.R_old (rN HO_5) hb) (Kd.R_base ho0)) (Kd.R_base ho1)) (fun _ h_ => h_.1)); have n1_ := Aside0.mk (Kd.R_mono (Kd.R_told (Kd.R_told (Kd.R_old (rN HO407) hb) (Kd.R_base ho0)) (Kd.R_base ho1)) (fun _ h_ => h_.1)); have n2_ := Aside0.mk (Kd.R_lower (Kd.R_new' (Kd.R_new' (Kd.R_newM (M := fun k_ => (P0_1_ k_ ∨ w.heap.size ≤ k_)) ho0 (by first | exact HK.out.1 | exact (show Kept w _ (fun k_ => P0_1_ k_) from by repeat (first | (with_reducible first | exact HK.out | apply Kept.alloc | apply Kept.drewN | apply Kept.drew | refine Kept.setCell ?_ (.inr GW393.out) _ | refine Kept.setCell ?_ (.inr GW394.out) _) | exact HK.out)).1) (fun k_ h_ => .inr h_)) (Kd.R_lt (rN HO_5))) (Kd.R_lt (rN HO407))) (below_size (bL HB))); have n3_ := Aside0.mk (Kd.R_lower (Kd.R_new' (Kd.R_new' (Kd.R_newM (M := fun k_ => (P0_1_ k_ ∨ w.heap.size ≤ k_)) ho1 (by first | exact HK.out.1 | exact (show Kept w _ (fun k_ => P0_1_ k_) from by repeat (first | (with_reducible first | exact HK.out | apply Kept.alloc | apply Kept.drewN | apply Kept.drew | refine Kept.setCell ?_ (.inr GW393.out) _ | refine Kept.setCell ?_ (.inr GW394.out) _) | exact HK.out)).1) (fun k_ h_ => .inr h_)) (Kd.R_lt (rN HO_5))) (Kd.R_lt (rN HO407))) (below_size (bL HB))); have n4_ := blkB BK393 hb; have n5_ := blkB BK394 hb; have n6_ := Aside0.mk (Kept.below (S := (fun k_ => P0_1_ k_)) (by repeat (first | (with_reducible first | exact HK.out | apply Kept.alloc | apply Kept.drewN | apply Kept.drew | refine Kept.setCell ?_ (.inr GW393.out) _ | refine Kept.setCell ?_ (.inr GW394.out) _) | exact HK.out)) hb); have n7_ := Aside0.mk (below_step (bL HB) hb); clear HO_5 HO407 BK393 BK394 HK HB; have HO_5 := n0_; have HO407 := n1_; have HO411 := n2_; have HO415 := n3_; have BK393 := n4_; have BK394 := n5_; have HK := n6_; have HB := n7_; clear n0_ n1_ n2_ n3_ n4_ n5_ n6_ n7_; (try clear hb); (try clear hb2); (try clear hk); (try clear hi); (try clear ho0); (try clear ho1)) | ((with_reducible refine gate_dst (N := 7) rfl ?_); refine box_event ?hg (N := 7) ?hd (cs := #[.bool false, .slice none 0 0]) (t := 28) ?hr ?_; (case hd => rfl); (case hg => rfl); (case hr => first | (go_simp; done) | (go_simp; rfl)); intro gb416 hg w57 hbox hb; have n0_ := Aside0.mk (Kd.R_below (rN HO_5) hb); have n1_ := Aside0.mk (Kd.R_below (rN HO407) hb); have n2_ := Aside0.mk (Kd.R_below (rN HO411) hb); have n3_ := Aside0.mk (Kd.R_below (rN HO415) hb); have n4_ := blkB BK393 hb; have n5_ := blkB BK394 hb; have n6_ := Aside0.mk (Kept.below (S := (fun k_ => P0_1_ k_)) (by repeat (first | (with_reducible first | exact HK.out | apply Kept.alloc | apply Kept.drewN | apply Kept.drew | refine Kept.setCell ?_ (.inr GW393.out) _ | refine Kept.setCell ?_ (.inr GW394.out) _) | exact HK.out)) hb); have n7_ := Aside0.mk (below_step (bL HB) hb); have n8_ := Aside0.mk (hbox); have n9_ := Aside0.mk ((by rw [hg]; exact (by first | exact HK.out.1 | exact (show Kept w _ (fun k_ => P0_1_ k_) from by repeat (first | (with_reducible first | exact HK.out | apply Kept.alloc | apply Kept.drewN | apply Kept.drew | refine Kept.setCell ?_ (.inr GW393.out) _ | refine Kept.setCell ?_ (.inr GW394.out) _) | exact HK.out)).1) : w.heap.size ≤ gb416)); have n10_ := Aside0.mk ((by rw [hg]; exact (below_size (bL HB)) : w0.heap.size ≤ gb416)); have n11_ := blkL BK393 hg; have n12_ := blkG BK393 hg; have n13_ := blkL BK394 hg; have n14_ := blkG BK394 hg; clear HO_5 HO407 HO411 HO415 BK393 BK394 HK HB; have HO_5 := n0_; have HO407 := n1_; have HO411 := n2_; have HO415 := n3_; have BK393 := n4_; have BK394 := n5_; have HK := n6_; have HB := n7_; have BK416 := n8_; have GW416 := n9_; have GE416 := n10_; have NB393_416 := n11_; have NB416_393 := n12_; have NB394_416 := n13_; have NB416_394 := n14_; clear n0_ n1_ n2_ n3_ n4_ n5_ n6_ n7_ n8_ n9_ n10_ n11_ n12_ n13_ n14_; clear hb hbox hg) | ((with_reducible refine gate_dst (N := 8) rfl ?_); refine box_event ?hg (N := 8) ?hd (cs := #[.bool false, .slice none 0 0]) (t := 28) ?hr ?_; (case hd => rfl); (case hg => rfl); (case hr => first | (go_simp; done) | (go_simp; rfl)); intro gb417 hg w58 hbox hb; have n0_ := Aside0.mk (Kd.R_below (rN HO_5) hb); have n1_ := Aside0.mk (Kd.R_below (rN HO407) hb); have n2_ := Aside0.mk (Kd.R_below (rN HO411) hb); have n3_ := Aside0.mk (Kd.R_below (rN HO415) hb); have n4_ := blkB BK393 hb; have n5_ := blkB BK394 hb; have n6_ := blkB BK416 hb; have n7_ := Aside0.mk (Kept.below (S := (fun k_ => P0_1_ k_)) (by repeat (first | (with_reducible first | exact HK.out | apply Kept.alloc | apply Kept.drewN | apply Kept.drew | refine Kept.setCell ?_ (.inr GW393.out) _ | refine Kept.setCell ?_ (.inr GW394.out) _ | refine Kept.setCell ?_ (.inr GW416.out) _) | exact HK.out)) hb); have n8_ := Aside0.mk (below_step (bL HB) hb); have n9_ := Aside0.mk (hbox); have n10_ := Aside0.mk ((by rw [hg]; exact (by first | exact HK.out.1 | exact (show Kept w _ (fun k_ => P0_1_ k_) from by repeat (first | (with_reducible first | exact HK.out | apply Kept.alloc | apply Kept.drewN | apply Kept.drew | refine Kept.setCell ?_ (.inr GW393.out) _ | refine Kept.setCell ?_ (.inr GW394.out) _ | refine Kept.setCell ?_ (.inr GW416.out) _) | exact HK.out)).1) : w.heap.size ≤ gb417)); have n11_ := Aside0.mk ((by rw [hg]; exact (below_size (bL HB)) : w0.heap.size ≤ gb417)); have n12_ := blkL BK393 hg; have n13_ := blkG BK393 hg; have n14_ := blkL BK394 hg; have n15_ := blkG BK394 hg; have n16_ := blkL BK416 hg; have n17_ := blkG BK416 hg; clear HO_5 HO407 HO411 HO415 BK393 BK394 BK416 HK HB; have HO_5 := n0_; have HO407 := n1_; have HO411 := n2_; have HO415 := n3_; have BK393 := n4_; have BK394 := n5_; have BK416 := n6_; have HK := n7_; have HB := n8_; have BK417 := n9_; have GW417 := n10_; have GE417 := n11_; have NB393_417 := n12_; have NB417_393 := n13_; have NB394_417 := n14_; have NB417_394 := n15_; have NB416_417 := n16_; have NB417_416 := n17_; clear n0_ n1_ n2_ n3_ n4_ n5_ n6_ n7_ n8_ n9_ n10_ n11_ n12_ n13_ n14_ n15_ n16_ n17_; clear hb hbox hg; have hnb59 := NB416_393.out; have hnc59 := NB393_416.out; have hnb60 := NB416_394.out; have hnc60 := NB394_416.out; have hnb61 := NB416_417.out; have hnc61 := NB417_416.out; have hcz62_0 : w58.cell? ⟨gb416, 0, none⟩ = some (.bool false) := (blk_cell BK416.out 0).trans rfl; have hcz62_1 : w58.cell? ⟨gb416, 1, none⟩ = some (.slice none 0 0) := (blk_cell BK416.out 1).trans rfl; have hfz62_0 := blk_frozen BK416.out 0; have hfz62_1 := blk_frozen BK416.out 1; obtain ⟨Ao63, co63, eo63⟩ := Kd.R_slice HO411.out; subst eo63; have hnb64 := NB417_393.out; have hnc64 := NB393_417.out; have hnb65 := NB417_394.out; have hnc65 := NB394_417.out; have hcz66_0 : w58.cell? ⟨gb417, 0, none⟩ = some (.bool false) := (blk_cell BK417.out 0).trans rfl; have hcz66_1 : w58.cell? ⟨gb417, 1, none⟩ = some (.slice none 0 0) := (blk_cell BK417.out 1).trans rfl; have hfz66_0 := blk_frozen BK417.out 0; have hfz66_1 := blk_frozen BK417.out 1; obtain ⟨Ao67, co67, eo67⟩ := Kd.R_slice HO415.out; subst eo67))
         have n0_ : Aside0 (Kd.R (Kd.int .i64) 3 ((((w58.setCell ⟨gb416, 0, none⟩ (.bool t408)).setCell ⟨gb416, 1, none⟩ (.slice Ao63 t409.length co63)).setCell ⟨gb417, 0, none⟩ (.bool t412)).setCell ⟨gb417, 1, none⟩ (.slice Ao67 t413.length co67)) w0.heap.size (fun k_ => (P0_1_ k_ ∨ w.heap.size ≤ k_) ∧ some k_ ≠ (.slice Ao55 t405.length co55 : Value).ownBlock ∧ some k_ ≠ (.slice Ao63 t409.length co63 : Value).ownBlock ∧ some k_ ≠ (.slice Ao67 t413.length co67 : Value).ownBlock) (.slice Ao54 y401.length co54) y401) := ⟨by (with_reducible repeat (first | apply Kd.R_alloc | apply Kd.R_drewN | apply Kd.R_drew)); exact Kd.R_mono (Kd.R_far (p := ⟨gb417, 1, none⟩) (Kd.R_far (p := ⟨gb417, 0, none⟩) (Kd.R_far (p := ⟨gb416, 1, none⟩) (Kd.R_far (p := ⟨gb416, 0, none⟩) (Kd.R_types (Kd.R_types HO_5.out BK416.out (by decide)) BK417.out (by decide)) (fun _ hk => hk.1.2) (.bool t408)) (fun _ hk => hk.1.2) (.slice Ao63 t409.length co63)) (fun _ hk => hk.2) (.bool t412)) (fun _ hk => hk.2) (.slice Ao67 t413.length co67)) (fun _ hk => ⟨hk.1.1.1.1.1, ⟨hk.1.1.1.1.2, ⟨hk.1.1.1.2, hk.1.1.2⟩⟩⟩)⟩
         have n1_ : Aside0 (Kd.R (Kd.int .i64) 3 ((((w58.setCell ⟨gb416, 0, none⟩ (.bool t408)).setCell ⟨gb416, 1, none⟩ (.slice Ao63 t409.length co63)).setCell ⟨gb417, 0, none⟩ (.bool t412)).setCell ⟨gb417, 1, none⟩ (.slice Ao67 t413.length co67)) w0.heap.size (fun k_ => (P0_1_ k_ ∨ w.heap.size ≤ k_) ∧ some k_ ≠ (.slice Ao54 y401.length co54 : Value).ownBlock ∧ some k_ ≠ (.slice Ao63 t409.length co63 : Value).ownBlock ∧ some k_ ≠ (.slice Ao67 t413.length co67 : Value).ownBlock) (.slice Ao55 t405.length co55) t405) := ⟨by (with_reducible repeat (first | apply Kd.R_alloc | apply Kd.R_drewN | apply Kd.R_drew)); exact Kd.R_mono (Kd.R_far (p := ⟨gb417, 1, none⟩) (Kd.R_far (p := ⟨gb417, 0, none⟩) (Kd.R_far (p := ⟨gb416, 1, none⟩) (Kd.R_far (p := ⟨gb416, 0, none⟩) (Kd.R_types (Kd.R_types HO407.out BK416.out (by decide)) BK417.out (by decide)) (fun _ hk => hk.1.2) (.bool t408)) (fun _ hk => hk.1.2) (.slice Ao63 t409.length co63)) (fun _ hk => hk.2) (.bool t412)) (fun _ hk => hk.2) (.slice Ao67 t413.length co67)) (fun _ hk => ⟨hk.1.1.1.1.1, ⟨hk.1.1.1.1.2, ⟨hk.1.1.1.2, hk.1.1.2⟩⟩⟩)⟩
         have n2_ : Aside0 (Kd.R (Kd.int .i64) 3 ((((w58.setCell ⟨gb416, 0, none⟩ (.bool t408)).setCell ⟨gb416, 1, none⟩ (.slice Ao63 t409.length co63)).setCell ⟨gb417, 0, none⟩ (.bool t412)).setCell ⟨gb417, 1, none⟩ (.slice Ao67 t413.length co67)) w0.heap.size (fun k_ => (P0_1_ k_ ∨ w.heap.size ≤ k_) ∧ some k_ ≠ (.slice Ao54 y401.length co54 : Value).ownBlock ∧ some k_ ≠ (.slice Ao55 t405.length co55 : Value).ownBlock ∧ some k_ ≠ (.slice Ao67 t413.length co67 : Value).ownBlock) (.slice Ao63 t409.length co63) t409) := ⟨by (with_reducible repeat (first | apply Kd.R_alloc | apply Kd.R_drewN | apply Kd.R_drew)); exact Kd.R_mono (Kd.R_far (p := ⟨gb417, 1, none⟩) (Kd.R_far (p := ⟨gb417, 0, none⟩) (Kd.R_far (p := ⟨gb416, 1, none⟩) (Kd.R_far (p := ⟨gb416, 0, none⟩) (Kd.R_types (Kd.R_types HO411.out BK416.out (by decide)) BK417.out (by decide)) (fun _ hk => hk.1.2) (.bool t408)) (fun _ hk => hk.1.2) (.slice Ao63 t409.length co63)) (fun _ hk => hk.2) (.bool t412)) (fun _ hk => hk.2) (.slice Ao67 t413.length co67)) (fun _ hk => ⟨hk.1.1.1.1.1, ⟨hk.1.1.1.2, ⟨hk.1.1.2, hk.1.1.1.1.2⟩⟩⟩)⟩
         have n3_ : Aside0 (Kd.R (Kd.int .i64) 3 ((((w58.setCell ⟨gb416, 0, none⟩ (.bool t408)).setCell ⟨gb416, 1, none⟩ (.slice Ao63 t409.length co63)).setCell ⟨gb417, 0, none⟩ (.bool t412)).setCell ⟨gb417, 1, none⟩ (.slice Ao67 t413.length co67)) w0.heap.size (fun k_ => (P0_1_ k_ ∨ w.heap.size ≤ k_) ∧ some k_ ≠ (.slice Ao54 y401.length co54 : Value).ownBlock ∧ some k_ ≠ (.slice Ao55 t405.length co55 : Value).ownBlock ∧ some k_ ≠ (.slice Ao63 t409.length co63 : Value).ownBlock) (.slice Ao67 t413.length co67) t413) := ⟨by (with_reducible repeat (first | apply Kd.R_alloc | apply Kd.R_drewN | apply Kd.R_drew)); exact Kd.R_mono (Kd.R_far (p := ⟨gb417, 1, none⟩) (Kd.R_far (p := ⟨gb417, 0, none⟩) (Kd.R_far (p := ⟨gb416, 1, none⟩) (Kd.R_far (p := ⟨gb416, 0, none⟩) (Kd.R_types (Kd.R_types HO415.out BK416.out (by decide)) BK417.out (by decide)) (fun _ hk => hk.1.2) (.bool t408)) (fun _ hk => hk.1.2) (.slice Ao63 t409.length co63)) (fun _ hk => hk.2) (.bool t412)) (fun _ hk => hk.2) (.slice Ao67 t413.length co67)) (fun _ hk => ⟨hk.1.1.1.1.1, ⟨hk.1.1.1.2, ⟨hk.1.1.2, hk.1.1.1.1.2⟩⟩⟩)⟩
         have n4_ : Aside0 (((((w58.setCell ⟨gb416, 0, none⟩ (.bool t408)).setCell ⟨gb416, 1, none⟩ (.slice Ao63 t409.length co63)).setCell ⟨gb417, 0, none⟩ (.bool t412)).setCell ⟨gb417, 1, none⟩ (.slice Ao67 t413.length co67)).heap[gb393]? = some (.cells #[.int .u64 0, .int .u64 0] 24 (0, 0))) := ⟨by (with_reducible repeat (first | refine blk_drewN ?_ _ | refine blk_drew ?_ | refine blk_alloc ?_ _)); refine blk_far ?_ NB393_417.out _; (with_reducible repeat (first | refine blk_drewN ?_ _ | refine blk_drew ?_ | refine blk_alloc ?_ _)); refine blk_far ?_ NB393_417.out _; (with_reducible repeat (first | refine blk_drewN ?_ _ | refine blk_drew ?_ | refine blk_alloc ?_ _)); refine blk_far ?_ NB393_416.out _; (with_reducible repeat (first | refine blk_drewN ?_ _ | refine blk_drew ?_ | refine blk_alloc ?_ _)); refine blk_far ?_ NB393_416.out _; (with_reducible repeat (first | refine blk_drewN ?_ _ | refine blk_drew ?_ | refine blk_alloc ?_ _)); exact BK393.out⟩
         have n5_ : Aside0 (((((w58.setCell ⟨gb416, 0, none⟩ (.bool t408)).setCell ⟨gb416, 1, none⟩ (.slice Ao63 t409.length co63)).setCell ⟨gb417, 0, none⟩ (.bool t412)).setCell ⟨gb417, 1, none⟩ (.slice Ao67 t413.length co67)).heap[gb394]? = some (.cells #[.int .u64 x395000_2, .int .u64 x395001_2] 24 (0, 0))) := ⟨by (with_reducible repeat (first | refine blk_drewN ?_ _ | refine blk_drew ?_ | refine blk_alloc ?_ _)); refine blk_far ?_ NB394_417.out _; (with_reducible repeat (first | refine blk_drewN ?_ _ | refine blk_drew ?_ | refine blk_alloc ?_ _)); refine blk_far ?_ NB394_417.out _; (with_reducible repeat (first | refine blk_drewN ?_ _ | refine blk_drew ?_ | refine blk_alloc ?_ _)); refine blk_far ?_ NB394_416.out _; (with_reducible repeat (first | refine blk_drewN ?_ _ | refine blk_drew ?_ | refine blk_alloc ?_ _)); refine blk_far ?_ NB394_416.out _; (with_reducible repeat (first | refine blk_drewN ?_ _ | refine blk_drew ?_ | refine blk_alloc ?_ _)); exact BK394.out⟩
         have n6_ : Aside0 (((((w58.setCell ⟨gb416, 0, none⟩ (.bool t408)).setCell ⟨gb416, 1, none⟩ (.slice Ao63 t409.length co63)).setCell ⟨gb417, 0, none⟩ (.bool t412)).setCell ⟨gb417, 1, none⟩ (.slice Ao67 t413.length co67)).heap[gb416]? = some (.cells #[.bool t408, .slice Ao63 t409.length co63] 28 (0, 0))) := ⟨by (with_reducible repeat (first | refine blk_drewN ?_ _ | refine blk_drew ?_ | refine blk_alloc ?_ _)); refine blk_far ?_ NB416_417.out _; (with_reducible repeat (first | refine blk_drewN ?_ _ | refine blk_drew ?_ | refine blk_alloc ?_ _)); refine blk_far ?_ NB416_417.out _; (with_reducible repeat (first | refine blk_drewN ?_ _ | refine blk_drew ?_ | refine blk_alloc ?_ _)); refine blk_put (cs := #[.bool t408, .slice none 0 0]) ?_ 1 _ rfl; (with_reducible repeat (first | refine blk_drewN ?_ _ | refine blk_drew ?_ | refine blk_alloc ?_ _)); refine blk_put (cs := #[.bool false, .slice none 0 0]) ?_ 0 _ rfl; (with_reducible repeat (first | refine blk_drewN ?_ _ | refine blk_drew ?_ | refine blk_alloc ?_ _)); exact BK416.out⟩
         have n7_ : Aside0 (((((w58.setCell ⟨gb416, 0, none⟩ (.bool t408)).setCell ⟨gb416, 1, none⟩ (.slice Ao63 t409.length co63)).setCell ⟨gb417, 0, none⟩ (.bool t412)).setCell ⟨gb417, 1, none⟩ (.slice Ao67 t413.length co67)).heap[gb417]? = some (.cells #[.bool t412, .slice Ao67 t413.length co67] 28 (0, 0))) := ⟨by (with_reducible repeat (first | refine blk_drewN ?_ _ | refine blk_drew ?_ | refine blk_alloc ?_ _)); refine blk_put (cs := #[.bool t412, .slice none 0 0]) ?_ 1 _ rfl; (with_reducible repeat (first | refine blk_drewN ?_ _ | refine blk_drew ?_ | refine blk_alloc ?_ _)); refine blk_put (cs := #[.bool false, .slice none 0 0]) ?_ 0 _ rfl; (with_reducible repeat (first | refine blk_drewN ?_ _ | refine blk_drew ?_ | refine blk_alloc ?_ _)); refine blk_far ?_ NB417_416.out _; (with_reducible repeat (first | refine blk_drewN ?_ _ | refine blk_drew ?_ | refine blk_alloc ?_ _)); refine blk_far ?_ NB417_416.out _; (with_reducible repeat (first | refine blk_drewN ?_ _ | refine blk_drew ?_ | refine blk_alloc ?_ _)); exact BK417.out⟩
         have n8_ : Aside0 (Kept w ((((w58.setCell ⟨gb416, 0, none⟩ (.bool t408)).setCell ⟨gb416, 1, none⟩ (.slice Ao63 t409.length co63)).setCell ⟨gb417, 0, none⟩ (.bool t412)).setCell ⟨gb417, 1, none⟩ (.slice Ao67 t413.length co67)) (fun k_ => P0_1_ k_)) := ⟨by repeat (first | (with_reducible first | exact HK.out | apply Kept.alloc | apply Kept.drewN | apply Kept.drew | refine Kept.setCell ?_ (.inr GW393.out) _ | refine Kept.setCell ?_ (.inr GW394.out) _ | refine Kept.setCell ?_ (.inr GW416.out) _ | refine Kept.setCell ?_ (.inr GW417.out) _) | exact HK.out)⟩
         have n9_ : Aside0 (Below w0.heap.size w0 ((((w58.setCell ⟨gb416, 0, none⟩ (.bool t408)).setCell ⟨gb416, 1, none⟩ (.slice Ao63 t409.length co63)).setCell ⟨gb417, 0, none⟩ (.bool t412)).setCell ⟨gb417, 1, none⟩ (.slice Ao67 t413.length co67))) := ⟨by repeat (first | (with_reducible first | exact HB.out | apply below_alloc | apply pw_below_drewN | apply below_drew1 | refine below_set ?_ GE393.out | refine below_set ?_ GE394.out | refine below_set ?_ GE416.out | refine below_set ?_ GE417.out) | exact HB.out)⟩
         (try clear HO_5)
         (try clear HO407)
         (try clear HO411)
         (try clear HO415)
         (try clear BK393)
         (try clear BK394)
         (try clear BK416)
         (try clear BK417)
         (try clear HK)
         (try clear HB)
         generalize ((((w58.setCell ⟨gb416, 0, none⟩ (.bool t408)).setCell ⟨gb416, 1, none⟩ (.slice Ao63 t409.length co63)).setCell ⟨gb417, 0, none⟩ (.bool t412)).setCell ⟨gb417, 1, none⟩ (.slice Ao67 t413.length co67)) = w68 at n0_ n1_ n2_ n3_ n4_ n5_ n6_ n7_ n8_ n9_ ⊢
         have HO_5 := n0_
         have HO407 := n1_
         have HO411 := n2_
         have HO415 := n3_
         have BK393 := n4_
         have BK394 := n5_
         have BK416 := n6_
         have BK417 := n7_
         have HK := n8_
         have HB := n9_
         clear n0_ n1_ n2_ n3_ n4_ n5_ n6_ n7_ n8_ n9_
         have n0_ := Aside0.mk (Kd.R_drew HO_5.out)
         have n1_ := Aside0.mk (Kd.R_drew HO407.out)
         have n2_ := Aside0.mk (Kd.R_drew HO411.out)
         have n3_ := Aside0.mk (Kd.R_drew HO415.out)
         have n4_ := Aside0.mk (blk_drew BK393.out)
         have n5_ := Aside0.mk (blk_drew BK394.out)
         have n6_ := Aside0.mk (blk_drew BK416.out)
         have n7_ := Aside0.mk (blk_drew BK417.out)
         have n8_ := Aside0.mk (Kept.drew HK.out)
         have n9_ := Aside0.mk (below_drew1 HB.out)
         clear HO_5
         clear HO407
         clear HO411
         clear HO415
         clear BK393
         clear BK394
         clear BK416
         clear BK417
         clear HK
         clear HB
         have HO_5 := n0_
         have HO407 := n1_
         have HO411 := n2_
         have HO415 := n3_
         have BK393 := n4_
         have BK394 := n5_
         have BK416 := n6_
         have BK417 := n7_
         have HK := n8_
         have HB := n9_
         clear n0_ n1_ n2_ n3_ n4_ n5_ n6_ n7_ n8_ n9_
         refine start_ (n := 8) (S := fun w' => w'.cell? ⟨gb394, 0, none⟩ = some (.int .u64 x395000_2) ∧ w'.cell? ⟨gb394, 1, none⟩ = some (.int .u64 x395001_2)) (ds := [7]) #[false, false, false, false, false, false, false, false] (by kernel_rfl) rfl rfl ⟨(blk_cell BK394.out 0).trans rfl, (blk_cell BK394.out 1).trans rfl⟩ (fun hHeld => ?_); refine with_tabW lorgnetteref01_Bits.tab13 lorgnetteref01_Bits.bits13 (fun HT_ HW_ => ?_)
         generalize w68.drew = w69 at HO_5 HO407 HO411 HO415 BK393 BK394 BK416 BK417 HK HB hHeld ⊢
         refine pure_ (i := 0) (N := some 44) (v := ?_) (a' := ?_) #[true, false, false, false, false, false, false, false] rfl rfl (any_of HT_.out (by kernel_rfl)) (fun _ _ _ h => h) (Or.inl ⟨by rfl, ?_⟩) ?_ ?_
         rotate_left
         ·intro w'
          go_simp
          with_reducible rfl
         rotate_left
         ·simp only [Act.put, List.setIfInBounds_toArray, List.set_cons_zero, List.set_cons_succ, i64_w, i32_w]
          rfl
         refine pure_ (i := 2) (N := some 46) (v := ?_) (a' := ?_) #[true, false, true, false, false, false, false, false] rfl rfl (any_of HT_.out (by kernel_rfl)) (fun _ _ _ h => h) (Or.inl ⟨by rfl, ?_⟩) ?_ ?_
         rotate_left
         ·intro w'
          go_simp
          with_reducible rfl
         rotate_left
         ·simp only [Act.put, List.setIfInBounds_toArray, List.set_cons_zero, List.set_cons_succ, i64_w, i32_w]
          rfl
         refine pure_ (i := 3) (N := some 47) (v := ?_) (a' := ?_) #[true, false, true, true, false, false, false, false] rfl rfl (any_of HT_.out (by kernel_rfl)) (fun _ _ _ h => h) (Or.inl ⟨by rfl, ?_⟩) ?_ ?_
         rotate_left
         ·intro w'
          go_simp
          with_reducible rfl
         rotate_left
         ·simp only [Act.put, List.setIfInBounds_toArray, List.set_cons_zero, List.set_cons_succ, i64_w, i32_w]
          rfl
         refine pure_ (i := 4) (N := some 48) (v := ?_) (a' := ?_) #[true, false, true, true, true, false, false, false] rfl rfl (any_of HT_.out (by kernel_rfl)) (fun _ _ _ h => h) (Or.inl ⟨by rfl, ?_⟩) ?_ ?_
         rotate_left
         ·intro w'
          go_simp
          with_reducible rfl
         rotate_left
         ·simp only [Act.put, List.setIfInBounds_toArray, List.set_cons_zero, List.set_cons_succ, i64_w, i32_w]
          rfl
         refine take_ (i := 1) (N := some 45) (v := ?_) (a' := ?_) #[true, true, true, true, true, false, false, false] rfl rfl (take_ofW HT_.out HW_.out (by kernel_rfl)) (fun _ _ _ h => h) (Or.inl ⟨by rfl, ?_⟩) hHeld ?_ ?_
         rotate_left
         ·rintro w' ⟨s0, s1⟩
          go_simp
          with_reducible rfl
         rotate_left
         ·simp only [Act.put, List.setIfInBounds_toArray, List.set_cons_zero, List.set_cons_succ, i64_w, i32_w]
          rfl
         refine pure_ (i := 5) (N := some 49) (v := ?_) (a' := ?_) #[true, true, true, true, true, true, false, false] rfl rfl (any_of HT_.out (by kernel_rfl)) (fun _ _ _ h => h) (Or.inl ⟨by rfl, ?_⟩) ?_ ?_
         rotate_left
         ·intro w'
          go_simp
          with_reducible rfl
         rotate_left
         ·simp only [Act.put, List.setIfInBounds_toArray, List.set_cons_zero, List.set_cons_succ, i64_w, i32_w]
          rfl
         refine pure_ (i := 6) (N := some 50) (v := ?_) (a' := ?_) #[true, true, true, true, true, true, true, false] rfl rfl (any_of HT_.out (by kernel_rfl)) (fun _ _ _ h => h) (Or.inl ⟨by rfl, ?_⟩) ?_ ?_
         rotate_left
         ·intro w'
          go_simp
          with_reducible rfl
         rotate_left
         ·simp only [Act.put, List.setIfInBounds_toArray, List.set_cons_zero, List.set_cons_succ, i64_w, i32_w]
          rfl
         refine last_ (i := 7) (N := none) #[true, true, true, true, true, true, true, true] rfl rfl (one_of HT_.out (by kernel_rfl)) (by decide) (fun K hK => ?_)
         have hs70 : w69.cell? ⟨gb394, 0, none⟩ = some (.int .u64 x395000_2) := (blk_cell BK394.out 0).trans rfl
         have hfs70 := blk_frozen BK394.out 0
         have hns70_0 := NB393_394.out
         have hns70_2 := NB416_394.out
         have hns70_3 := NB417_394.out
         have hms70_0 := NB394_393.out
         have hms70_2 := NB394_416.out
         have hms70_3 := NB394_417.out
         refine skip_ (w1 := ?_) (by rfl) rfl ?_ ?_
         rotate_left
         ·go_simp
          rfl
         refine hK.out _ _ ?_
         clear hK K
         refine done_ (done_of HT_.out (by kernel_rfl)) ?_
         have hcz71_0 : w69.cell? ⟨gb416, 0, none⟩ = some (.bool t408) := (blk_cell BK416.out 0).trans rfl
         have hcz71_1 : w69.cell? ⟨gb416, 1, none⟩ = some (.slice Ao63 t409.length co63) := (blk_cell BK416.out 1).trans rfl
         have hfz71_0 := blk_frozen BK416.out 0
         have hfz71_1 := blk_frozen BK416.out 1
         try go_wp2
         go_roundg k2
         case measure => have := HJ1.out; have := HK2.out; omega
         case rel => exact ⟨(t409), (wrap64 (x6_2 + 1)), (Go.bits .or .u64 x395000_2 (ji51)), (x395001_2), (by first | rfl | (simp; done) | (simp [*]; done)), H', ⟨by have := HJ1.out; have := HK2.out; omega⟩, ⟨by (with_reducible repeat (first | apply Kd.R_alloc | apply Kd.R_drewN | apply Kd.R_drew)); exact Kd.R_mono (Kd.R_far (p := ⟨gb394, 0, none⟩) (Kd.R_types HO411.out BK394.out (by decide)) (fun _ hk => hk.2) (.int .u64 (Go.bits .or .u64 x395000_2 (ji51)))) (fun _ hk => ⟨hk.1.1, hk.1.2.1⟩)⟩, ⟨by (with_reducible repeat (first | apply Kd.R_alloc | apply Kd.R_drewN | apply Kd.R_drew)); exact Kd.R_mono (Kd.R_far (p := ⟨gb394, 0, none⟩) (Kd.R_types HO_5.out BK394.out (by decide)) (fun _ hk => hk.2) (.int .u64 (Go.bits .or .u64 x395000_2 (ji51)))) (fun _ hk => ⟨hk.1.1, hk.1.2.2.1⟩)⟩, ⟨by (with_reducible repeat (first | refine blk_drewN ?_ _ | refine blk_drew ?_ | refine blk_alloc ?_ _)); refine blk_far ?_ NB393_394.out _; (with_reducible repeat (first | refine blk_drewN ?_ _ | refine blk_drew ?_ | refine blk_alloc ?_ _)); exact BK393.out⟩, ⟨by (with_reducible repeat (first | refine blk_drewN ?_ _ | refine blk_drew ?_ | refine blk_alloc ?_ _)); refine blk_put (cs := #[.int .u64 x395000_2, .int .u64 x395001_2]) ?_ 0 _ rfl; (with_reducible repeat (first | refine blk_drewN ?_ _ | refine blk_drew ?_ | refine blk_alloc ?_ _)); exact BK394.out⟩, ⟨by repeat (first | (with_reducible first | exact HK.out | apply Kept.alloc | apply Kept.drewN | apply Kept.drew | refine Kept.setCell ?_ (.inr GW393.out) _ | refine Kept.setCell ?_ (.inr GW394.out) _ | refine Kept.setCell ?_ (.inr GW416.out) _ | refine Kept.setCell ?_ (.inr GW417.out) _) | exact HK.out)⟩, ⟨by repeat (first | (with_reducible first | exact HB.out | apply below_alloc | apply pw_below_drewN | apply below_drew1 | refine below_set ?_ GE393.out | refine below_set ?_ GE394.out | refine below_set ?_ GE416.out | refine below_set ?_ GE417.out) | exact HB.out)⟩⟩
        ·rw [if_neg c50] at H
         exact absurd H (by simp)
      ·rw [if_neg c25] at H
       have c25b0 : decide (0 < (t413.length : Int)) = false := decide_eq_false c25
       have c25b1 : decide (0 < t413.length) = false := decide_eq_false (by omega)
       clear c25
       have H' := Aside0.mk H
       clear H
       obtain ⟨Ao72, co72, eo72⟩ := Kd.R_slice HO_4.out
       subst eo72
       go_wp2_with (first | ((with_reducible refine gate_callee (f := 30) rfl ?_); refine goesL_ (some 26) rfl rfl Try.func30 (by kernel_rfl) rfl #[.agg #[.bool false, .slice Ao72 x4_2.length co72]] rfl (by (try simp only [List.map_toArray, List.map_cons, List.map_nil]); first | done | rfl | (simp only [List.length_drop, List.length_take]; rfl) | (go_simp; simp only [u8_w, w64_u8]; done) | (go_simp; simp only [u8_w, w64_u8]; rfl)) ?_; (with_reducible refine (lorgnetteref01_trim.calls k2 false (fun k_ => some k_ = (.slice Ao72 x4_2.length co72 : Value).ownBlock) (.slice Ao72 x4_2.length co72) x4_2 t404 t405 w0 _ ?side1 ?side2 A23.out).mono ?_); (case side1 => repeat (first | (with_reducible first | exact HB.out | apply below_alloc | apply pw_below_drewN | apply below_drew1 | refine below_set ?_ GE393.out | refine below_set ?_ GE394.out) | exact HB.out)); (case side2 => exact Kd.R_tight rfl HO_4.out); rintro e w73 ⟨v406, rfl, ho0, hb, hkp⟩; refine ⟨_, rfl, ?_⟩; have n0_ := Aside0.mk (Kd.R_mono (ok' := fun k_ => (P0_1_ k_ ∨ w.heap.size ≤ k_) ∧ some k_ ≠ (v406 : Value).ownBlock) (Kd.R_keptB (HO_5.out) hkp (fun k_ hk_ hs_ => (hk_.2) hs_)) (fun k_ hk_ => ⟨hk_.1.1, fun e_ => Or.elim (ho0.1 k_ e_.symm) (fun hs_ => hk_.2.1 hs_) (fun hn_ => Nat.not_le.2 hk_.2.2 hn_)⟩)); have n1_ := Aside0.mk (blk_kept (bN BK393) hkp (fun hs_ => (fun e_ => (Kd.R_ne HO_4.out BK393.out (by decide)) e_) hs_)); have n2_ := Aside0.mk (blk_kept (bN BK394) hkp (fun hs_ => (fun e_ => (Kd.R_ne HO_4.out BK394.out (by decide)) e_) hs_)); have n3_ := Aside0.mk (Kd.R_mono (ok' := fun k_ => (P0_1_ k_ ∨ w.heap.size ≤ k_) ∧ some k_ ≠ (v402 : Value).ownBlock) ho0 (fun k_ hk_ => ⟨Or.elim hk_ (fun hs_ => (HO_4.out.1 k_ (hs_).symm).1) (fun hn_ => (.inr (Nat.le_trans (by first | exact HK.out.1 | exact (show Kept w _ (fun k_ => P0_1_ k_) from by repeat (first | (with_reducible first | exact HK.out | apply Kept.alloc | apply Kept.drewN | apply Kept.drew | refine Kept.setCell ?_ (.inr GW393.out) _ | refine Kept.setCell ?_ (.inr GW394.out) _) | exact HK.out)).1) hn_))), Or.elim hk_ (fun hs_ => fun e_ => (((HO_5.out).1 k_ e_.symm).2) hs_) (fun hn_ => (Kd.fresh' (Kd.R_lt (rN HO_5)) k_ hn_))⟩)); have n4_ := Aside0.mk (Kept.then_ (S := (fun k_ => P0_1_ k_)) (by repeat (first | (with_reducible first | exact HK.out | apply Kept.alloc | apply Kept.drewN | apply Kept.drew | refine Kept.setCell ?_ (.inr GW393.out) _ | refine Kept.setCell ?_ (.inr GW394.out) _) | exact HK.out)) hkp (fun k_ hs_ => (fun e_ => (HO_4.out.1 k_ e_.symm).1) hs_)); have n5_ := Aside0.mk (hb); clear HO_5 BK393 BK394 HK HB HO_4; have HO_5 := n0_; have BK393 := n1_; have BK394 := n2_; have HO407 := n3_; have HK := n4_; have HB := n5_; clear n0_ n1_ n2_ n3_ n4_ n5_; (try clear hb); (try clear hkp); (try clear ho0); obtain ⟨Ao74, co74, eo74⟩ := Kd.R_slice HO_5.out; subst eo74; obtain ⟨Ao75, co75, eo75⟩ := Kd.R_slice HO407.out; subst eo75) | ((with_reducible refine gate_callee (f := 29) rfl ?_); refine goesL_ (some 29) rfl rfl Try.func29 (by kernel_rfl) rfl #[.agg #[.bool t404, .slice Ao75 t405.length co75], .agg #[.bool false, .slice Ao74 y401.length co74]] rfl (by (try simp only [List.map_toArray, List.map_cons, List.map_nil]); first | done | rfl | (simp only [List.length_drop, List.length_take]; rfl) | (go_simp; simp only [u8_w, w64_u8]; done) | (go_simp; simp only [u8_w, w64_u8]; rfl)) ?_; (with_reducible refine (lorgnetteref01_Quo.calls k2 t404 _ _ t405 false _ _ y401 t408 t409 t412 t413 _ ?side1 ?side2 ?side3 ?side4 A24.out).mono ?_); (case side1 => repeat (first | exact (Kd.R_reads' HO407.out).2.2 | (with_reducible refine Kd.C_alloc ?_ _) | (with_reducible refine Kd.C_drewN ?_ _) | (with_reducible refine Kd.C_drew ?_))); (case side2 => exact (Kd.R_reads' HO407.out).2.1); (case side3 => repeat (first | exact (Kd.R_reads' HO_5.out).2.2 | (with_reducible refine Kd.C_alloc ?_ _) | (with_reducible refine Kd.C_drewN ?_ _) | (with_reducible refine Kd.C_drew ?_))); (case side4 => exact (Kd.R_reads' HO_5.out).2.1); rintro e w76 ⟨v410, v414, rfl, ho0, ho1, hb⟩; refine ⟨_, rfl, ?_⟩; have n0_ := Aside0.mk (Kd.R_mono (Kd.R_told (Kd.R_told (Kd.R_old (rN HO_5) hb) (Kd.R_base ho0)) (Kd.R_base ho1)) (fun _ h_ => h_.1)); have n1_ := Aside0.mk (Kd.R_mono (Kd.R_told (Kd.R_told (Kd.R_old (rN HO407) hb) (Kd.R_base ho0)) (Kd.R_base ho1)) (fun _ h_ => h_.1)); have n2_ := Aside0.mk (Kd.R_lower (Kd.R_new' (Kd.R_new' (Kd.R_newM (M := fun k_ => (P0_1_ k_ ∨ w.heap.size ≤ k_)) ho0 (by first | exact HK.out.1 | exact (show Kept w _ (fun k_ => P0_1_ k_) from by repeat (first | (with_reducible first | exact HK.out | apply Kept.alloc | apply Kept.drewN | apply Kept.drew | refine Kept.setCell ?_ (.inr GW393.out) _ | refine Kept.setCell ?_ (.inr GW394.out) _) | exact HK.out)).1) (fun k_ h_ => .inr h_)) (Kd.R_lt (rN HO_5))) (Kd.R_lt (rN HO407))) (below_size (bL HB))); have n3_ := Aside0.mk (Kd.R_lower (Kd.R_new' (Kd.R_new' (Kd.R_newM (M := fun k_ => (P0_1_ k_ ∨ w.heap.size ≤ k_)) ho1 (by first | exact HK.out.1 | exact (show Kept w _ (fun k_ => P0_1_ k_) from by repeat (first | (with_reducible first | exact HK.out | apply Kept.alloc | apply Kept.drewN | apply Kept.drew | refine Kept.setCell ?_ (.inr GW393.out) _ | refine Kept.setCell ?_ (.inr GW394.out) _) | exact HK.out)).1) (fun k_ h_ => .inr h_)) (Kd.R_lt (rN HO_5))) (Kd.R_lt (rN HO407))) (below_size (bL HB))); have n4_ := blkB BK393 hb; have n5_ := blkB BK394 hb; have n6_ := Aside0.mk (Kept.below (S := (fun k_ => P0_1_ k_)) (by repeat (first | (with_reducible first | exact HK.out | apply Kept.alloc | apply Kept.drewN | apply Kept.drew | refine Kept.setCell ?_ (.inr GW393.out) _ | refine Kept.setCell ?_ (.inr GW394.out) _) | exact HK.out)) hb); have n7_ := Aside0.mk (below_step (bL HB) hb); clear HO_5 HO407 BK393 BK394 HK HB; have HO_5 := n0_; have HO407 := n1_; have HO411 := n2_; have HO415 := n3_; have BK393 := n4_; have BK394 := n5_; have HK := n6_; have HB := n7_; clear n0_ n1_ n2_ n3_ n4_ n5_ n6_ n7_; (try clear hb); (try clear hb2); (try clear hk); (try clear hi); (try clear ho0); (try clear ho1)) | ((with_reducible refine gate_dst (N := 7) rfl ?_); refine box_event ?hg (N := 7) ?hd (cs := #[.bool false, .slice none 0 0]) (t := 28) ?hr ?_; (case hd => rfl); (case hg => rfl); (case hr => first | (go_simp; done) | (go_simp; rfl)); intro gb416 hg w77 hbox hb; have n0_ := Aside0.mk (Kd.R_below (rN HO_5) hb); have n1_ := Aside0.mk (Kd.R_below (rN HO407) hb); have n2_ := Aside0.mk (Kd.R_below (rN HO411) hb); have n3_ := Aside0.mk (Kd.R_below (rN HO415) hb); have n4_ := blkB BK393 hb; have n5_ := blkB BK394 hb; have n6_ := Aside0.mk (Kept.below (S := (fun k_ => P0_1_ k_)) (by repeat (first | (with_reducible first | exact HK.out | apply Kept.alloc | apply Kept.drewN | apply Kept.drew | refine Kept.setCell ?_ (.inr GW393.out) _ | refine Kept.setCell ?_ (.inr GW394.out) _) | exact HK.out)) hb); have n7_ := Aside0.mk (below_step (bL HB) hb); have n8_ := Aside0.mk (hbox); have n9_ := Aside0.mk ((by rw [hg]; exact (by first | exact HK.out.1 | exact (show Kept w _ (fun k_ => P0_1_ k_) from by repeat (first | (with_reducible first | exact HK.out | apply Kept.alloc | apply Kept.drewN | apply Kept.drew | refine Kept.setCell ?_ (.inr GW393.out) _ | refine Kept.setCell ?_ (.inr GW394.out) _) | exact HK.out)).1) : w.heap.size ≤ gb416)); have n10_ := Aside0.mk ((by rw [hg]; exact (below_size (bL HB)) : w0.heap.size ≤ gb416)); have n11_ := blkL BK393 hg; have n12_ := blkG BK393 hg; have n13_ := blkL BK394 hg; have n14_ := blkG BK394 hg; clear HO_5 HO407 HO411 HO415 BK393 BK394 HK HB; have HO_5 := n0_; have HO407 := n1_; have HO411 := n2_; have HO415 := n3_; have BK393 := n4_; have BK394 := n5_; have HK := n6_; have HB := n7_; have BK416 := n8_; have GW416 := n9_; have GE416 := n10_; have NB393_416 := n11_; have NB416_393 := n12_; have NB394_416 := n13_; have NB416_394 := n14_; clear n0_ n1_ n2_ n3_ n4_ n5_ n6_ n7_ n8_ n9_ n10_ n11_ n12_ n13_ n14_; clear hb hbox hg) | ((with_reducible refine gate_dst (N := 8) rfl ?_); refine box_event ?hg (N := 8) ?hd (cs := #[.bool false, .slice none 0 0]) (t := 28) ?hr ?_; (case hd => rfl); (case hg => rfl); (case hr => first | (go_simp; done) | (go_simp; rfl)); intro gb417 hg w78 hbox hb; have n0_ := Aside0.mk (Kd.R_below (rN HO_5) hb); have n1_ := Aside0.mk (Kd.R_below (rN HO407) hb); have n2_ := Aside0.mk (Kd.R_below (rN HO411) hb); have n3_ := Aside0.mk (Kd.R_below (rN HO415) hb); have n4_ := blkB BK393 hb; have n5_ := blkB BK394 hb; have n6_ := blkB BK416 hb; have n7_ := Aside0.mk (Kept.below (S := (fun k_ => P0_1_ k_)) (by repeat (first | (with_reducible first | exact HK.out | apply Kept.alloc | apply Kept.drewN | apply Kept.drew | refine Kept.setCell ?_ (.inr GW393.out) _ | refine Kept.setCell ?_ (.inr GW394.out) _ | refine Kept.setCell ?_ (.inr GW416.out) _) | exact HK.out)) hb); have n8_ := Aside0.mk (below_step (bL HB) hb); have n9_ := Aside0.mk (hbox); have n10_ := Aside0.mk ((by rw [hg]; exact (by first | exact HK.out.1 | exact (show Kept w _ (fun k_ => P0_1_ k_) from by repeat (first | (with_reducible first | exact HK.out | apply Kept.alloc | apply Kept.drewN | apply Kept.drew | refine Kept.setCell ?_ (.inr GW393.out) _ | refine Kept.setCell ?_ (.inr GW394.out) _ | refine Kept.setCell ?_ (.inr GW416.out) _) | exact HK.out)).1) : w.heap.size ≤ gb417)); have n11_ := Aside0.mk ((by rw [hg]; exact (below_size (bL HB)) : w0.heap.size ≤ gb417)); have n12_ := blkL BK393 hg; have n13_ := blkG BK393 hg; have n14_ := blkL BK394 hg; have n15_ := blkG BK394 hg; have n16_ := blkL BK416 hg; have n17_ := blkG BK416 hg; clear HO_5 HO407 HO411 HO415 BK393 BK394 BK416 HK HB; have HO_5 := n0_; have HO407 := n1_; have HO411 := n2_; have HO415 := n3_; have BK393 := n4_; have BK394 := n5_; have BK416 := n6_; have HK := n7_; have HB := n8_; have BK417 := n9_; have GW417 := n10_; have GE417 := n11_; have NB393_417 := n12_; have NB417_393 := n13_; have NB394_417 := n14_; have NB417_394 := n15_; have NB416_417 := n16_; have NB417_416 := n17_; clear n0_ n1_ n2_ n3_ n4_ n5_ n6_ n7_ n8_ n9_ n10_ n11_ n12_ n13_ n14_ n15_ n16_ n17_; clear hb hbox hg; have hnb79 := NB416_393.out; have hnc79 := NB393_416.out; have hnb80 := NB416_394.out; have hnc80 := NB394_416.out; have hnb81 := NB416_417.out; have hnc81 := NB417_416.out; have hcz82_0 : w78.cell? ⟨gb416, 0, none⟩ = some (.bool false) := (blk_cell BK416.out 0).trans rfl; have hcz82_1 : w78.cell? ⟨gb416, 1, none⟩ = some (.slice none 0 0) := (blk_cell BK416.out 1).trans rfl; have hfz82_0 := blk_frozen BK416.out 0; have hfz82_1 := blk_frozen BK416.out 1; obtain ⟨Ao83, co83, eo83⟩ := Kd.R_slice HO411.out; subst eo83; have hnb84 := NB417_393.out; have hnc84 := NB393_417.out; have hnb85 := NB417_394.out; have hnc85 := NB394_417.out; have hcz86_0 : w78.cell? ⟨gb417, 0, none⟩ = some (.bool false) := (blk_cell BK417.out 0).trans rfl; have hcz86_1 : w78.cell? ⟨gb417, 1, none⟩ = some (.slice none 0 0) := (blk_cell BK417.out 1).trans rfl; have hfz86_0 := blk_frozen BK417.out 0; have hfz86_1 := blk_frozen BK417.out 1; obtain ⟨Ao87, co87, eo87⟩ := Kd.R_slice HO415.out; subst eo87))
       go_roundg k2
       case measure => have := HJ1.out; have := HK2.out; omega
       case rel => exact ⟨(t409), (wrap64 (x6_2 + 1)), (x395000_2), (x395001_2), (by first | rfl | (simp; done) | (simp [*]; done)), H', ⟨by have := HJ1.out; have := HK2.out; omega⟩, ⟨by (with_reducible repeat (first | apply Kd.R_alloc | apply Kd.R_drewN | apply Kd.R_drew)); exact Kd.R_mono (Kd.R_far (p := ⟨gb417, 1, none⟩) (Kd.R_far (p := ⟨gb417, 0, none⟩) (Kd.R_far (p := ⟨gb416, 1, none⟩) (Kd.R_far (p := ⟨gb416, 0, none⟩) (Kd.R_types (Kd.R_types HO411.out BK416.out (by decide)) BK417.out (by decide)) (fun _ hk => hk.1.2) (.bool t408)) (fun _ hk => hk.1.2) (.slice Ao83 t409.length co83)) (fun _ hk => hk.2) (.bool t412)) (fun _ hk => hk.2) (.slice Ao87 t413.length co87)) (fun _ hk => ⟨hk.1.1.1.1.1, hk.1.1.1.2⟩)⟩, ⟨by (with_reducible repeat (first | apply Kd.R_alloc | apply Kd.R_drewN | apply Kd.R_drew)); exact Kd.R_mono (Kd.R_far (p := ⟨gb417, 1, none⟩) (Kd.R_far (p := ⟨gb417, 0, none⟩) (Kd.R_far (p := ⟨gb416, 1, none⟩) (Kd.R_far (p := ⟨gb416, 0, none⟩) (Kd.R_types (Kd.R_types HO_5.out BK416.out (by decide)) BK417.out (by decide)) (fun _ hk => hk.1.2) (.bool t408)) (fun _ hk => hk.1.2) (.slice Ao83 t409.length co83)) (fun _ hk => hk.2) (.bool t412)) (fun _ hk => hk.2) (.slice Ao87 t413.length co87)) (fun _ hk => ⟨hk.1.1.1.1.1, hk.1.1.1.2⟩)⟩, ⟨by (with_reducible repeat (first | refine blk_drewN ?_ _ | refine blk_drew ?_ | refine blk_alloc ?_ _)); refine blk_far ?_ NB393_417.out _; (with_reducible repeat (first | refine blk_drewN ?_ _ | refine blk_drew ?_ | refine blk_alloc ?_ _)); refine blk_far ?_ NB393_417.out _; (with_reducible repeat (first | refine blk_drewN ?_ _ | refine blk_drew ?_ | refine blk_alloc ?_ _)); refine blk_far ?_ NB393_416.out _; (with_reducible repeat (first | refine blk_drewN ?_ _ | refine blk_drew ?_ | refine blk_alloc ?_ _)); refine blk_far ?_ NB393_416.out _; (with_reducible repeat (first | refine blk_drewN ?_ _ | refine blk_drew ?_ | refine blk_alloc ?_ _)); exact BK393.out⟩, ⟨by (with_reducible repeat (first | refine blk_drewN ?_ _ | refine blk_drew ?_ | refine blk_alloc ?_ _)); refine blk_far ?_ NB394_417.out _; (with_reducible repeat (first | refine blk_drewN ?_ _ | refine blk_drew ?_ | refine blk_alloc ?_ _)); refine blk_far ?_ NB394_417.out _; (with_reducible repeat (first | refine blk_drewN ?_ _ | refine blk_drew ?_ | refine blk_alloc ?_ _)); refine blk_far ?_ NB394_416.out _; (with_reducible repeat (first | refine blk_drewN ?_ _ | refine blk_drew ?_ | refine blk_alloc ?_ _)); refine blk_far ?_ NB394_416.out _; (with_reducible repeat (first | refine blk_drewN ?_ _ | refine blk_drew ?_ | refine blk_alloc ?_ _)); exact BK394.out⟩, ⟨by repeat (first | (with_reducible first | exact HK.out | apply Kept.alloc | apply Kept.drewN | apply Kept.drew | refine Kept.setCell ?_ (.inr GW393.out) _ | refine Kept.setCell ?_ (.inr GW394.out) _ | refine Kept.setCell ?_ (.inr GW416.out) _ | refine Kept.setCell ?_ (.inr GW417.out) _) | exact HK.out)⟩, ⟨by repeat (first | (with_reducible first | exact HB.out | apply below_alloc | apply pw_below_drewN | apply below_drew1 | refine below_set ?_ GE393.out | refine below_set ?_ GE394.out | refine below_set ?_ GE416.out | refine below_set ?_ GE417.out) | exact HB.out)⟩⟩
     ·rw [if_neg c22] at H
      have c22b0 : decide (x6_2 < 128) = false := decide_eq_false c22
      clear c22
      simp only [Option.some.injEq, Prod.mk.injEq] at H
      obtain ⟨rfl, rfl⟩ := H
      have hnb88 := NB394_393.out
      have hnc88 := NB393_394.out
      have hcz89_0 : wr.cell? ⟨gb394, 0, none⟩ = some (.int .u64 x395000_2) := (blk_cell BK394.out 0).trans rfl
      have hcz89_1 : wr.cell? ⟨gb394, 1, none⟩ = some (.int .u64 x395001_2) := (blk_cell BK394.out 1).trans rfl
      have hfz89_0 := blk_frozen BK394.out 0
      have hfz89_1 := blk_frozen BK394.out 1
      have hcz90_0 : wr.cell? ⟨gb393, 0, none⟩ = some (.int .u64 0) := (blk_cell BK393.out 0).trans rfl
      have hcz90_1 : wr.cell? ⟨gb393, 1, none⟩ = some (.int .u64 0) := (blk_cell BK393.out 1).trans rfl
      have hfz90_0 := blk_frozen BK393.out 0
      have hfz90_1 := blk_frozen BK393.out 1
      go_wp2
      refine bodyPost_ret (results_cell_row rfl _ _ gb393 24 #[.int .u64 x395000_2, .int .u64 x395001_2] (0, 0) _ rfl (by (with_reducible repeat (first | refine blk_drewN ?_ _ | refine blk_drew ?_ | refine blk_alloc ?_ _)); refine blk_put (cs := #[.int .u64 x395000_2, .int .u64 0]) ?_ 1 _ rfl; (with_reducible repeat (first | refine blk_drewN ?_ _ | refine blk_drew ?_ | refine blk_alloc ?_ _)); refine blk_put (cs := #[.int .u64 0, .int .u64 0]) ?_ 0 _ rfl; (with_reducible repeat (first | refine blk_drewN ?_ _ | refine blk_drew ?_ | refine blk_alloc ?_ _)); exact BK393.out) Try.underlying24 rfl (by kernel_rfl)) rfl ?_
      exact ⟨by first | rfl | (simp [errW_none, errW_some] <;> rfl) | (simp [*, errW_none, errW_some] <;> rfl), by repeat (first | (with_reducible first | exact HB.out | apply below_alloc | apply pw_below_drewN | apply below_drew1 | refine below_set ?_ GE393.out | refine below_set ?_ GE394.out) | exact HB.out), by repeat (first | (with_reducible first | exact HK.out | apply Kept.alloc | apply Kept.drewN | apply Kept.drew | refine Kept.setCell ?_ (.inr GW393.out) _ | refine Kept.setCell ?_ (.inr GW394.out) _) | exact HK.out)⟩

end Go.Proofs.Ytjnaebcdidilgaa.Q
