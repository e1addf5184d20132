/- Functions of the program as Lean functions, and their walks: printed by print.py as this session changed it (mkprint.py). Lean checks it. No condition. (halved) -/
import Derived.Test.YtjnaebcdidilgaaQx0
import Derived.Test.YtjnaebcdidilgaaQx14
import Derived.Test.YtjnaebcdidilgaaQx15
import Derived.Test.YtjnaebcdidilgaaQx16
namespace Go.Proofs.Ytjnaebcdidilgaa.Q
open Go.RowKit Go.Proofs.YtjnaebcdidilgaaW.PrintWords Go.Proofs.YtjnaebcdidilgaaW.PrintLast Go.Proofs.YtjnaebcdidilgaaW.PrintMore
attribute [local go_sem] max2_int min2_int max_two min_two max_three min_three max_four min_four   -- for this text's walks alone
attribute [local go_sem] Instr.field asAgg
set_option linter.unusedVariables false
set_option linter.unusedSimpArgs false

/-! ### lorgnetteref01_Of: function 9 -/
mutual
def lorgnetteref01_Of.l0 : Nat → List Int → List Int → Int → Int → Int → Option (Bool × List Int)
 | 0, _, _, _, _, _ => none
 | k + 1, x3, x4, x5, x291000, x291001 => if x5 < 128 then (if x5 ≥ 64 then (lorgnetteref01_Of.j1 k x3 x4 x5 x291000 x291000 x291001) else (lorgnetteref01_Of.j1 k x3 x4 x5 x291001 x291000 x291001)) else ((lorgnetteref01_trim.f k false x3).bind fun bt298 => (some (bt298.1, bt298.2)))
def lorgnetteref01_Of.j1 : Nat → List Int → List Int → Int → Int → Int → Int → Option (Bool × List Int)
 | 0, _, _, _, _, _, _ => none
 | k + 1, x3, x4, x5, x6, x291000, x291001 => if 0 ≤ (Int.tmod x5 64) then (if (Go.bits .and .u64 (shr .u64 x6 (Int.tmod x5 64)) 1) = 1 then (if x5 = 127 then ((lorgnetteref01_minus.f k x4 x3).bind fun t302 => ((lorgnetteref01_trim.f k true t302).bind fun bt305 => (some (bt305.1, bt305.2)))) else ((lorgnetteref01_plus.f k x3 x4).bind fun t309 => ((lorgnetteref01_plus.f k x4 x4).bind fun t312 => (lorgnetteref01_Of.l0 k t309 t312 (wrap64 (x5 + 1)) x291000 x291001)))) else ((lorgnetteref01_plus.f k x4 x4).bind fun t315 => (lorgnetteref01_Of.l0 k x3 t315 (wrap64 (x5 + 1)) x291000 x291001))) else (none)
end
def lorgnetteref01_Of.f (k : Nat) (a0_0 : Int) (a0_1 : Int) : Option (Bool × List Int) := lorgnetteref01_Of.l0 k (([] : List Int)) (([1] : List Int)) 0 a0_0 a0_1
theorem lorgnetteref01_Of.mono_l : ∀ k, (∀ y0 y1 y2 y3 y4, LeO (lorgnetteref01_Of.l0 k y0 y1 y2 y3 y4) (lorgnetteref01_Of.l0 (k + 1) y0 y1 y2 y3 y4)) ∧ (∀ y0 y1 y2 y3 y4 y5, LeO (lorgnetteref01_Of.j1 k y0 y1 y2 y3 y4 y5) (lorgnetteref01_Of.j1 (k + 1) y0 y1 y2 y3 y4 y5))
 | 0 => ⟨fun _ _ _ _ _ r h => by simp [lorgnetteref01_Of.l0] at h, fun _ _ _ _ _ _ r h => by simp [lorgnetteref01_Of.j1] at h⟩
 | k + 1 => by
  obtain ⟨ih0, ih1⟩ := lorgnetteref01_Of.mono_l k
  refine ⟨?_, ?_⟩
  ·intro y0 y1 y2 y3 y4
   unfold lorgnetteref01_Of.l0
   repeat' first
   | (with_reducible exact ih0 _ _ _ _ _)
   | (with_reducible exact ih1 _ _ _ _ _ _)
   | (with_reducible exact lorgnetteref01_minus.mono _ _ _)
   | (with_reducible exact lorgnetteref01_plus.mono _ _ _)
   | (with_reducible exact lorgnetteref01_trim.mono _ _ _)
   | (with_reducible exact LeO.refl _)
   | (with_reducible exact LeO.none _)
   | (with_reducible refine LeO.ite ?_ ?_)
   | (with_reducible refine LeO.bind ?_ (fun _ => ?_))
  ·intro y0 y1 y2 y3 y4 y5
   unfold lorgnetteref01_Of.j1
   repeat' first
   | (with_reducible exact ih0 _ _ _ _ _)
   | (with_reducible exact ih1 _ _ _ _ _ _)
   | (with_reducible exact lorgnetteref01_minus.mono _ _ _)
   | (with_reducible exact lorgnetteref01_plus.mono _ _ _)
   | (with_reducible exact lorgnetteref01_trim.mono _ _ _)
   | (with_reducible exact LeO.refl _)
   | (with_reducible exact LeO.none _)
   | (with_reducible refine LeO.ite ?_ ?_)
   | (with_reducible refine LeO.bind ?_ (fun _ => ?_))
theorem lorgnetteref01_Of.mono : ∀ a0 a1 k, LeO (lorgnetteref01_Of.f k a0 a1) (lorgnetteref01_Of.f (k + 1) a0 a1) := by
 intro a0 a1 k
 obtain ⟨ih0, ih1⟩ := lorgnetteref01_Of.mono_l k
 unfold lorgnetteref01_Of.f
 repeat' first
   | (with_reducible exact ih0 _ _ _ _ _)
   | (with_reducible exact ih1 _ _ _ _ _ _)
   | (with_reducible exact lorgnetteref01_minus.mono _ _ _)
   | (with_reducible exact lorgnetteref01_plus.mono _ _ _)
   | (with_reducible exact lorgnetteref01_trim.mono _ _ _)
   | (with_reducible exact LeO.refl _)
   | (with_reducible exact LeO.none _)
   | (with_reducible refine LeO.ite ?_ ?_)
   | (with_reducible refine LeO.bind ?_ (fun _ => ?_))
set_option maxHeartbeats 8000000 in
set_option maxRecDepth 100000 in
theorem lorgnetteref01_Of.calls (k : Nat) (a0_0 : Int) (a0_1 : Int) (r1 : Bool) (r2 : List Int) (w : World) (h : lorgnetteref01_Of.f k a0_0 a0_1 = some (r1, r2)) :
  Calls Try.prog 9 #[.agg #[.int .u64 a0_0, .int .u64 a0_1]] w fun e w' => ∃ v1_ : Value, e = .returned (.agg #[.bool r1, v1_]) ∧ Kd.R (Kd.int .i64) 3 w' w.heap.size (fun _ => True) v1_ r2 ∧ Below w.heap.size w w' := by
 have hu24 := Try.underlying24
 have hu28 := Try.underlying28
 have HB := Aside0.mk (Below.refl w.heap.size w)
 have H : (lorgnetteref01_Of.l0 k (([] : List Int)) (([1] : List Int)) 0 a0_0 a0_1) = some (r1, r2) := h
 clear h
 obtain ⟨y292, hy292⟩ : ∃ y_ : List Int, y_ = (([] : List Int)) := ⟨_, rfl⟩
 replace H : (lorgnetteref01_Of.l0 k y292 (([1] : List Int)) 0 a0_0 a0_1) = some (r1, r2) := by first | (rw [hy292]; with_reducible exact H) | (have H2_ := (Option.bind_some _ _).symm.trans H; rw [hy292]; with_reducible exact H2_) | (have H2_ := (Option.bind_some _ _).symm.trans H; with_reducible exact H2_) | with_reducible exact H | (rw [hy292]; exact H) | exact H
 have Ny292 := Aside0.mk hy292
 clear hy292
 obtain ⟨y295, hy295⟩ : ∃ y_ : List Int, y_ = (([1] : List Int)) := ⟨_, rfl⟩
 replace H : (lorgnetteref01_Of.l0 k y292 y295 0 a0_0 a0_1) = some (r1, r2) := by first | (rw [hy295]; with_reducible exact H) | (have H2_ := (Option.bind_some _ _).symm.trans H; rw [hy295]; with_reducible exact H2_) | (have H2_ := (Option.bind_some _ _).symm.trans H; with_reducible exact H2_) | with_reducible exact H | (rw [hy295]; exact H) | exact H
 have Ny295 := Aside0.mk hy295
 clear hy295
 have H' := Aside0.mk H
 clear H
 go_enter Try.func9, Try.ntmps9
 go_wp2_with (first | ((with_reducible refine gate_dst (N := 1) rfl ?_); refine box_event ?hg (N := 1) ?hd (cs := #[.int .u64 a0_0, .int .u64 a0_1]) (t := 24) ?hr ?_; (case hd => rfl); (case hg => rfl); (case hr => first | (go_simp; done) | (go_simp; rfl)); intro gb290 hg w2 hbox hb; have n0_ := Aside0.mk (below_step (bL HB) hb); have n1_ := Aside0.mk (hbox); have n2_ := Aside0.mk ((by rw [hg]; exact (below_size (bL HB)) : w.heap.size ≤ gb290)); have n3_ := Aside0.mk ((by rw [hg]; exact (below_size (bL HB)) : w.heap.size ≤ gb290)); clear HB; have HB := n0_; have BK290 := n1_; have GW290 := n2_; have GE290 := n3_; clear n0_ n1_ n2_ n3_; clear hb hbox hg) | ((with_reducible refine gate_dst (N := 2) rfl ?_); refine box_event ?hg (N := 2) ?hd (cs := #[.bool false, .slice none 0 0]) (t := 28) ?hr ?_; (case hd => rfl); (case hg => rfl); (case hr => first | (go_simp; done) | (go_simp; rfl)); intro gb291 hg w3 hbox hb; have n0_ := blkB BK290 hb; have n1_ := Aside0.mk (below_step (bL HB) hb); have n2_ := Aside0.mk (hbox); have n3_ := Aside0.mk ((by rw [hg]; exact (below_size (bL HB)) : w.heap.size ≤ gb291)); have n4_ := Aside0.mk ((by rw [hg]; exact (below_size (bL HB)) : w.heap.size ≤ gb291)); have n5_ := blkL BK290 hg; have n6_ := blkG BK290 hg; clear BK290 HB; have BK290 := n0_; have HB := n1_; have BK291 := n2_; have GW291 := n3_; have GE291 := n4_; have NB290_291 := n5_; have NB291_290 := n6_; clear n0_ n1_ n2_ n3_ n4_ n5_ n6_; clear hb hbox hg) | ((with_reducible refine gate_dst (N := 7) rfl ?_); refine Kd.R_lit (Kd.int .i64) _ 3 ?hg (N := 7) ?hd (xs := ([] : List Int)) (inner := []) (ok := fun _ => True) (okp := fun _ => True) ?hr ?hp (fun _ hk => hk) trivial (Below.refl _ _) (Nat.le_refl _) (by simp) ?_; (case hd => rfl); (case hg => rfl); (case hr => first | (go_simp; done) | (go_simp; rfl)); (case hp => exact (Reps.none _ _)); intro v293 w4 ho5 hb hg_ hnew_; clear hg_ hnew_; (first | rw [← Ny292.out] at ho5 | (simp only [Int.reduceToNat] at ho5; rw [← Ny292.out] at ho5)); have n0_ := Aside0.mk (Kd.R_lower ho5 (below_size (bL HB))); have n1_ := blkB BK290 hb; have n2_ := blkB BK291 hb; have n3_ := Aside0.mk (below_step (bL HB) hb); clear BK290 BK291 HB; have HO294 := n0_; have BK290 := n1_; have BK291 := n2_; have HB := n3_; clear n0_ n1_ n2_ n3_; clear hb ho5) | ((with_reducible refine gate_dst (N := 8) rfl ?_); refine Kd.R_lit (Kd.int .i64) _ 3 ?hg (N := 8) ?hd (xs := ([1] : List Int)) (inner := [.int .i64 1]) (ok := fun _ => True) (okp := fun _ => True) ?hr ?hp (fun _ hk => hk) trivial (Below.refl _ _) (Nat.le_refl _) (by simp) ?_; (case hd => rfl); (case hg => rfl); (case hr => first | (go_simp; done) | (go_simp; rfl)); (case hp => exact (Reps.one (show Kd.M (Kd.int .i64) _ _ _ 1 [.int .i64 1] from rfl) (Reps.none _ _))); intro v296 w6 ho7 hb hg_ hnew_; clear hg_ hnew_; (first | rw [← Ny295.out] at ho7 | (simp only [Int.reduceToNat] at ho7; rw [← Ny295.out] at ho7)); have n0_ := Aside0.mk (Kd.R_elder' (rN HO294) (Kd.R_base ho7) hb); have n1_ := Aside0.mk (Kd.R_lower (Kd.R_new' ho7 (Kd.R_lt (rN HO294))) (below_size (bL HB))); have n2_ := blkB BK290 hb; have n3_ := blkB BK291 hb; have n4_ := Aside0.mk (below_step (bL HB) hb); clear HO294 BK290 BK291 HB; have HO294 := n0_; have HO297 := n1_; have BK290 := n2_; have BK291 := n3_; have HB := n4_; clear n0_ n1_ n2_ n3_ n4_; clear hb ho7))
 go_loopg [3, 4, 5] k (fun kq v3 v4 v5 w' => ∃ (x3_1 : List Int) (x4_1 : List Int) (x5_1 : Int) (x292000_1 : Bool), v5 = .int .i64 x5_1 ∧ Aside0 (lorgnetteref01_Of.l0 kq x3_1 x4_1 x5_1 a0_0 a0_1 = some (r1, r2)) ∧ Aside0 (kq ≤ k) ∧ Aside0 (Kd.R (Kd.int .i64) 3 w' w.heap.size (fun k_ => some k_ ≠ (v4 : Value).ownBlock) v3 x3_1) ∧ Aside0 (Kd.R (Kd.int .i64) 3 w' w.heap.size (fun k_ => some k_ ≠ (v3 : Value).ownBlock) v4 x4_1) ∧ Aside0 (w'.heap[gb290]? = some (.cells #[.int .u64 a0_0, .int .u64 a0_1] 24 (0, 0))) ∧ Aside0 (w'.heap[gb291]? = some (.cells #[.bool x292000_1, (.slice none 0 0)] 28 (0, 0))) ∧ Aside0 (Below w.heap.size w w'))
 case atStart => exact ⟨(y292), (y295), (0), (false), (by first | rfl | (simp; done) | (simp [*]; done)), H', ⟨Nat.le_refl _⟩, ⟨by (with_reducible repeat (first | apply Kd.R_alloc | apply Kd.R_drewN | apply Kd.R_drew)); exact Kd.R_mono HO294.out (fun _ hk => hk.2)⟩, ⟨by (with_reducible repeat (first | apply Kd.R_alloc | apply Kd.R_drewN | apply Kd.R_drew)); exact Kd.R_mono HO297.out (fun _ hk => hk.2)⟩, ⟨bN BK290⟩, ⟨bN BK291⟩, ⟨by repeat (first | (with_reducible first | exact HB.out | apply below_alloc | apply pw_below_drewN | apply below_drew1 | refine below_set ?_ GE290.out | refine below_set ?_ GE291.out) | exact HB.out)⟩⟩
 case round =>
  clear H'
  try clear p2
  obtain ⟨x3_1, x4_1, x5_1, x292000_1, rfl, HA, HK1, HO_3, HO_4, BK290, BK291, HB⟩ := hrel
  cases gk with
  | zero => exact absurd HA.out (by simp [lorgnetteref01_Of.l0])
  | succ k1 =>
   have H := HA.out
   clear HA
   simp only [lorgnetteref01_Of.l0] at H
   by_cases c8 : x5_1 < 128
   ·rw [if_pos c8] at H
    have c8b0 : decide (x5_1 < 128) = true := decide_eq_true c8
    clear c8
    have HC9 := Aside0.mk H
    clear H
    have hnb10 := NB290_291.out
    have hnc10 := NB291_290.out
    have hcz11_0 : wr.cell? ⟨gb290, 0, none⟩ = some (.int .u64 a0_0) := (blk_cell BK290.out 0).trans rfl
    have hcz11_1 : wr.cell? ⟨gb290, 1, none⟩ = some (.int .u64 a0_1) := (blk_cell BK290.out 1).trans rfl
    have hfz11_0 := blk_frozen BK290.out 0
    have hfz11_1 := blk_frozen BK290.out 1
    go_upto_if 16 with (fail)
    go_cut [6] (fun v6 wc => ∃ (kq : Nat) (x6_8 : Int), v6 = .int .u64 x6_8 ∧ Aside0 (lorgnetteref01_Of.j1 kq x3_1 x4_1 x5_1 x6_8 a0_0 a0_1 = some (r1, r2)) ∧ Aside0 (kq ≤ k1) ∧ Aside0 (Kd.R (Kd.int .i64) 3 wc w.heap.size (fun k_ => some k_ ≠ (u4 : Value).ownBlock) u3 x3_1) ∧ Aside0 (Kd.R (Kd.int .i64) 3 wc w.heap.size (fun k_ => some k_ ≠ (u3 : Value).ownBlock) u4 x4_1) ∧ Aside0 (wc.heap[gb290]? = some (.cells #[.int .u64 a0_0, .int .u64 a0_1] 24 (0, 0))) ∧ Aside0 (wc.heap[gb291]? = some (.cells #[.bool x292000_1, (.slice none 0 0)] 28 (0, 0))) ∧ Aside0 (Below w.heap.size w wc))
    case first =>
     have H := HC9.out
     clear HC9
     by_cases c12 : x5_1 ≥ 64
     ·rw [if_pos c12] at H
      have c12b0 : decide (64 ≤ x5_1) = true := decide_eq_true c12
      clear c12
      (first | rw [c12b0] | (simp only [i64_w, i32_w]; rw [c12b0]) | skip)
      have H' := Aside0.mk H
      clear H
      have hnb13 := NB290_291.out
      have hnc13 := NB291_290.out
      have hcz14_0 : wr.cell? ⟨gb290, 0, none⟩ = some (.int .u64 a0_0) := (blk_cell BK290.out 0).trans rfl
      have hcz14_1 : wr.cell? ⟨gb290, 1, none⟩ = some (.int .u64 a0_1) := (blk_cell BK290.out 1).trans rfl
      have hfz14_0 := blk_frozen BK290.out 0
      have hfz14_1 := blk_frozen BK290.out 1
      go_wp2
      go_meet
      case rel => exact ⟨_, (a0_0), (by first | rfl | (simp; done) | (simp [*]; done)), H', ⟨by have := HK1.out; first | omega | exact Nat.le_refl _⟩, ⟨by (with_reducible repeat (first | apply Kd.R_alloc | apply Kd.R_drewN | apply Kd.R_drew)); exact HO_3.out⟩, ⟨by (with_reducible repeat (first | apply Kd.R_alloc | apply Kd.R_drewN | apply Kd.R_drew)); exact HO_4.out⟩, ⟨bN BK290⟩, ⟨bN BK291⟩, ⟨by repeat (first | (with_reducible first | exact HB.out | apply below_alloc | apply pw_below_drewN | apply below_drew1 | refine below_set ?_ GE290.out | refine below_set ?_ GE291.out) | exact HB.out)⟩⟩
     ·rw [if_neg c12] at H
      have c12b0 : decide (64 ≤ x5_1) = false := decide_eq_false c12
      clear c12
      (first | rw [c12b0] | (simp only [i64_w, i32_w]; rw [c12b0]) | skip)
      have H' := Aside0.mk H
      clear H
      go_wp2
      go_meet
      case rel => exact ⟨_, (a0_1), (by first | rfl | (simp; done) | (simp [*]; done)), H', ⟨by have := HK1.out; first | omega | exact Nat.le_refl _⟩, ⟨by (with_reducible repeat (first | apply Kd.R_alloc | apply Kd.R_drewN | apply Kd.R_drew)); exact HO_3.out⟩, ⟨by (with_reducible repeat (first | apply Kd.R_alloc | apply Kd.R_drewN | apply Kd.R_drew)); exact HO_4.out⟩, ⟨bN BK290⟩, ⟨bN BK291⟩, ⟨by repeat (first | (with_reducible first | exact HB.out | apply below_alloc | apply pw_below_drewN | apply below_drew1 | refine below_set ?_ GE290.out | refine below_set ?_ GE291.out) | exact HB.out)⟩⟩
    case rest =>
     clear HC9
     try clear c1
     try clear p2
     try clear c8
     try clear c8b0
     try clear c9
     try clear c10
     try clear c12
     try clear c12b0
     try clear c13
     try clear hcz11_0
     try clear hcz11_1
     try clear hcz14_0
     try clear hcz14_1
     try clear hfz11_0
     try clear hfz11_1
     try clear hfz14_0
     try clear hfz14_1
     try clear p2
     obtain ⟨kq, x6_8, rfl, HA, HJ8, HO_3, HO_4, BK290, BK291, HB⟩ := hcut
     cases kq with
     | zero => exact absurd HA.out (by simp [lorgnetteref01_Of.j1])
     | succ kj8 =>
      have H := HA.out
      clear HA
      simp only [lorgnetteref01_Of.j1] at H
      obtain ⟨ji15, hji15⟩ : ∃ j_ : Int, (Int.tmod x5_1 64) = j_ := ⟨_, rfl⟩
      replace H : (if 0 ≤ (ji15) then (if (Go.bits .and .u64 (shr .u64 x6_8 (ji15)) 1) = 1 then (if x5_1 = 127 then ((lorgnetteref01_minus.f kj8 x4_1 x3_1).bind fun t302 => ((lorgnetteref01_trim.f kj8 true t302).bind fun bt305 => (some (bt305.1, bt305.2)))) else ((lorgnetteref01_plus.f kj8 x3_1 x4_1).bind fun t309 => ((lorgnetteref01_plus.f kj8 x4_1 x4_1).bind fun t312 => (lorgnetteref01_Of.l0 kj8 t309 t312 (wrap64 (x5_1 + 1)) a0_0 a0_1)))) else ((lorgnetteref01_plus.f kj8 x4_1 x4_1).bind fun t315 => (lorgnetteref01_Of.l0 kj8 x3_1 t315 (wrap64 (x5_1 + 1)) a0_0 a0_1))) else (none)) = some (r1, r2) := by first | (rw [hji15] at H; exact H) | (simp only [hji15] at H ⊢; exact H)
      by_cases c16 : 0 ≤ (ji15)
      ·rw [if_pos c16] at H
       have c16b0 := eq_true c16
       have c16b1 : decide (0 ≤ (ji15)) = true := decide_eq_true c16
       clear c16
       obtain ⟨ji17, hji17⟩ : ∃ j_ : Int, (shr .u64 x6_8 (ji15)) = j_ := ⟨_, rfl⟩
       replace H : (if (Go.bits .and .u64 (ji17) 1) = 1 then (if x5_1 = 127 then ((lorgnetteref01_minus.f kj8 x4_1 x3_1).bind fun t302 => ((lorgnetteref01_trim.f kj8 true t302).bind fun bt305 => (some (bt305.1, bt305.2)))) else ((lorgnetteref01_plus.f kj8 x3_1 x4_1).bind fun t309 => ((lorgnetteref01_plus.f kj8 x4_1 x4_1).bind fun t312 => (lorgnetteref01_Of.l0 kj8 t309 t312 (wrap64 (x5_1 + 1)) a0_0 a0_1)))) else ((lorgnetteref01_plus.f kj8 x4_1 x4_1).bind fun t315 => (lorgnetteref01_Of.l0 kj8 x3_1 t315 (wrap64 (x5_1 + 1)) a0_0 a0_1))) = some (r1, r2) := by first | (rw [hji17] at H; exact H) | (simp only [hji17] at H ⊢; exact H)
       have hji17_ : (x6_8 / 2 ^ min (ji15).toNat 64) = ji17 := hji17
       have hji17z : (ji15) ≤ 64 → (x6_8 / 2 ^ (ji15).toNat) = ji17 := shr_small hji17
       by_cases c18 : (Go.bits .and .u64 (ji17) 1) = 1
       ·rw [if_pos c18] at H
        have c18b0 : ((Go.bits .and .u64 (ji17) 1) == 1) = true := beq_iff_eq.mpr c18
        have c18b1 : ((Go.bits .and .u64 (ji17) 1) != 1) = false := bne_eq_false_iff_eq.mpr c18
        clear c18
        by_cases c19 : x5_1 = 127
        ·rw [if_pos c19] at H
         have c19b0 : (x5_1 == 127) = true := beq_iff_eq.mpr c19
         have c19b1 : (x5_1 != 127) = false := bne_eq_false_iff_eq.mpr c19
         clear c19
         replace H := Option.bind_eq_some_iff.mp H
         obtain ⟨t302, A200, H⟩ := H
         replace H : ((lorgnetteref01_trim.f kj8 true t302).bind fun bt305 => (some (bt305.1, bt305.2))) = some (r1, r2) := H
         have A20 := Aside0.mk A200
         clear A200
         replace H := Option.bind_eq_some_iff.mp H
         obtain ⟨⟨t305, t306⟩, A210, H⟩ := H
         replace H : (some (t305, t306)) = some (r1, r2) := H
         have A21 := Aside0.mk A210
         clear A210
         simp only [Option.some.injEq, Prod.mk.injEq] at H
         obtain ⟨rfl, rfl⟩ := H
         obtain ⟨Ao22, co22, eo22⟩ := Kd.R_slice HO_4.out
         subst eo22
         obtain ⟨Ao23, co23, eo23⟩ := Kd.R_slice HO_3.out
         subst eo23
         go_wp2_with (first | ((with_reducible refine gate_callee (f := 31) rfl ?_); refine goesL_ (some 29) rfl rfl Try.func31 (by kernel_rfl) rfl #[.slice Ao22 x4_1.length co22, .slice Ao23 x3_1.length co23] rfl (by (try simp only [List.map_toArray, List.map_cons, List.map_nil]); first | done | rfl | (simp only [List.length_drop, List.length_take]; rfl) | (go_simp; simp only [u8_w, w64_u8]; done) | (go_simp; simp only [u8_w, w64_u8]; rfl)) ?_; (with_reducible refine (lorgnetteref01_minus.calls kj8 _ _ x4_1 _ _ x3_1 t302 _ ?side1 ?side2 ?side3 ?side4 A20.out).mono ?_); (case side1 => repeat (first | exact (Kd.R_reads' HO_4.out).2.2 | (with_reducible refine Kd.C_alloc ?_ _) | (with_reducible refine Kd.C_drewN ?_ _) | (with_reducible refine Kd.C_drew ?_))); (case side2 => exact (Kd.R_reads' HO_4.out).2.1); (case side3 => repeat (first | exact (Kd.R_reads' HO_3.out).2.2 | (with_reducible refine Kd.C_alloc ?_ _) | (with_reducible refine Kd.C_drewN ?_ _) | (with_reducible refine Kd.C_drew ?_))); (case side4 => exact (Kd.R_reads' HO_3.out).2.1); rintro e w24 ⟨v303, rfl, ho0, hb⟩; refine ⟨_, rfl, ?_⟩; have n0_ := Aside0.mk (Kd.R_elder' (rN HO_3) (Kd.R_base ho0) hb); have n1_ := Aside0.mk (Kd.R_elder' (rN HO_4) (Kd.R_base ho0) hb); have n2_ := Aside0.mk (Kd.R_lower (Kd.R_new' (Kd.R_new' ho0 (Kd.R_lt (rN HO_3))) (Kd.R_lt (rN HO_4))) (below_size (bL HB))); have n3_ := blkB BK290 hb; have n4_ := blkB BK291 hb; have n5_ := Aside0.mk (below_step (bL HB) hb); clear HO_3 HO_4 BK290 BK291 HB; have HO_3 := n0_; have HO_4 := n1_; have HO304 := n2_; have BK290 := n3_; have BK291 := n4_; have HB := n5_; clear n0_ n1_ n2_ n3_ n4_ n5_; (try clear hb); (try clear hb2); (try clear hk); (try clear hi); (try clear ho0); obtain ⟨Ao25, co25, eo25⟩ := Kd.R_slice HO304.out; subst eo25) | ((with_reducible refine gate_callee (f := 30) rfl ?_); refine goesL_ (some 31) rfl rfl Try.func30 (by kernel_rfl) rfl #[.agg #[.bool true, .slice Ao25 t302.length co25]] rfl (by (try simp only [List.map_toArray, List.map_cons, List.map_nil]); first | done | rfl | (simp only [List.length_drop, List.length_take]; rfl) | (go_simp; simp only [u8_w, w64_u8]; done) | (go_simp; simp only [u8_w, w64_u8]; rfl)) ?_; (with_reducible refine (lorgnetteref01_trim.calls kj8 true (fun k_ => some k_ = (.slice Ao25 t302.length co25 : Value).ownBlock) (.slice Ao25 t302.length co25) t302 t305 t306 w _ ?side1 ?side2 A21.out).mono ?_); (case side1 => repeat (first | (with_reducible first | exact HB.out | apply below_alloc | apply pw_below_drewN | apply below_drew1 | refine below_set ?_ GE290.out | refine below_set ?_ GE291.out) | exact HB.out)); (case side2 => exact Kd.R_tight rfl HO304.out); rintro e w26 ⟨v307, rfl, ho0, hb, hkp⟩; refine ⟨_, rfl, ?_⟩; have n0_ := Aside0.mk (Kd.R_mono (ok' := fun k_ => some k_ ≠ (.slice Ao22 x4_1.length co22 : Value).ownBlock ∧ some k_ ≠ (v307 : Value).ownBlock) (Kd.R_keptB (HO_3.out) hkp (fun k_ hk_ hs_ => (hk_.2) hs_)) (fun k_ hk_ => ⟨hk_.1.1, fun e_ => Or.elim (ho0.1 k_ e_.symm) (fun hs_ => hk_.2.1 hs_) (fun hn_ => Nat.not_le.2 hk_.2.2 hn_)⟩)); have n1_ := Aside0.mk (Kd.R_mono (ok' := fun k_ => some k_ ≠ (.slice Ao23 x3_1.length co23 : Value).ownBlock ∧ some k_ ≠ (v307 : Value).ownBlock) (Kd.R_keptB (HO_4.out) hkp (fun k_ hk_ hs_ => (hk_.2) hs_)) (fun k_ hk_ => ⟨hk_.1.1, fun e_ => Or.elim (ho0.1 k_ e_.symm) (fun hs_ => hk_.2.1 hs_) (fun hn_ => Nat.not_le.2 hk_.2.2 hn_)⟩)); have n2_ := Aside0.mk (blk_kept (bN BK290) hkp (fun hs_ => (fun e_ => (Kd.R_ne HO304.out BK290.out (by decide)) e_) hs_)); have n3_ := Aside0.mk (blk_kept (bN BK291) hkp (fun hs_ => (fun e_ => (Kd.R_ne HO304.out BK291.out (by decide)) e_) hs_)); have n4_ := Aside0.mk (Kd.R_mono (ok' := fun k_ => some k_ ≠ (.slice Ao23 x3_1.length co23 : Value).ownBlock ∧ some k_ ≠ (.slice Ao22 x4_1.length co22 : Value).ownBlock) ho0 (fun k_ hk_ => ⟨Or.elim hk_ (fun hs_ => fun e_ => (((HO_3.out).1 k_ e_.symm).2) hs_) (fun hn_ => (Kd.fresh' (Kd.R_lt (rN HO_3)) k_ hn_)), Or.elim hk_ (fun hs_ => fun e_ => (((HO_4.out).1 k_ e_.symm).2) hs_) (fun hn_ => (Kd.fresh' (Kd.R_lt (rN HO_4)) k_ hn_))⟩)); have n5_ := Aside0.mk (hb); clear HO_3 HO_4 BK290 BK291 HB HO304; have HO_3 := n0_; have HO_4 := n1_; have BK290 := n2_; have BK291 := n3_; have HO308 := n4_; have HB := n5_; clear n0_ n1_ n2_ n3_ n4_ n5_; (try clear hb); (try clear hkp); (try clear ho0); have hnb27 := NB291_290.out; have hnc27 := NB290_291.out; have hcz28_0 : w26.cell? ⟨gb291, 0, none⟩ = some (.bool x292000_1) := (blk_cell BK291.out 0).trans rfl; have hcz28_1 : w26.cell? ⟨gb291, 1, none⟩ = some (.slice none 0 0) := (blk_cell BK291.out 1).trans rfl; have hfz28_0 := blk_frozen BK291.out 0; have hfz28_1 := blk_frozen BK291.out 1; obtain ⟨Ao29, co29, eo29⟩ := Kd.R_slice HO308.out; subst eo29))
         refine bodyPost_ret (results_cell_row rfl _ _ gb291 28 #[.bool t305, .slice Ao29 t306.length co29] (0, 0) _ rfl (by (with_reducible repeat (first | refine blk_drewN ?_ _ | refine blk_drew ?_ | refine blk_alloc ?_ _)); refine blk_put (cs := #[.bool t305, .slice none 0 0]) ?_ 1 _ rfl; (with_reducible repeat (first | refine blk_drewN ?_ _ | refine blk_drew ?_ | refine blk_alloc ?_ _)); refine blk_put (cs := #[.bool x292000_1, .slice none 0 0]) ?_ 0 _ rfl; (with_reducible repeat (first | refine blk_drewN ?_ _ | refine blk_drew ?_ | refine blk_alloc ?_ _)); exact BK291.out) Try.underlying28 rfl (by kernel_rfl)) rfl ?_
         exact ⟨_, by first | rfl | (simp [errW_none, errW_some] <;> rfl) | (simp only [← hji15, ← hji17]; first | rfl | (simp [errW_none, errW_some] <;> rfl)) | (simp [*, errW_none, errW_some] <;> rfl), by (with_reducible repeat (first | apply Kd.R_alloc | apply Kd.R_drewN | apply Kd.R_drew)); exact Kd.R_mono (Kd.R_far (p := ⟨gb291, 1, none⟩) (Kd.R_far (p := ⟨gb291, 0, none⟩) (Kd.R_types HO308.out BK291.out (by decide)) (fun _ hk => hk.2) (.bool t305)) (fun _ hk => hk.2) (.slice Ao29 t306.length co29)) (fun _ hk => trivial), by repeat (first | (with_reducible first | exact HB.out | apply below_alloc | apply pw_below_drewN | apply below_drew1 | refine below_set ?_ GE290.out | refine below_set ?_ GE291.out) | exact HB.out)⟩
        ·rw [if_neg c19] at H
         have c19b0 : (x5_1 == 127) = false := beq_eq_false_iff_ne.mpr c19
         have c19b1 : (x5_1 != 127) = true := bne_iff_ne.mpr c19
         replace H := Option.bind_eq_some_iff.mp H
         obtain ⟨t309, A300, H⟩ := H
         replace H : ((lorgnetteref01_plus.f kj8 x4_1 x4_1).bind fun t312 => (lorgnetteref01_Of.l0 kj8 t309 t312 (wrap64 (x5_1 + 1)) a0_0 a0_1)) = some (r1, r2) := H
         have A30 := Aside0.mk A300
         clear A300
         replace H := Option.bind_eq_some_iff.mp H
         obtain ⟨t312, A310, H⟩ := H
         replace H : (lorgnetteref01_Of.l0 kj8 t309 t312 (wrap64 (x5_1 + 1)) a0_0 a0_1) = some (r1, r2) := H
         have A31 := Aside0.mk A310
         clear A310
         have H' := Aside0.mk H
         clear H
         obtain ⟨Ao32, co32, eo32⟩ := Kd.R_slice HO_3.out
         subst eo32
         obtain ⟨Ao33, co33, eo33⟩ := Kd.R_slice HO_4.out
         subst eo33
         go_wp2_with (first | ((with_reducible refine gate_callee (f := 32) rfl ?_); refine goesL_ (some 34) rfl rfl Try.func32 (by kernel_rfl) rfl #[.slice Ao32 x3_1.length co32, .slice Ao33 x4_1.length co33] rfl (by (try simp only [List.map_toArray, List.map_cons, List.map_nil]); first | done | rfl | (simp only [List.length_drop, List.length_take]; rfl) | (go_simp; simp only [u8_w, w64_u8]; done) | (go_simp; simp only [u8_w, w64_u8]; rfl)) ?_; (with_reducible refine (lorgnetteref01_plus.calls kj8 _ _ x3_1 _ _ x4_1 t309 _ ?side1 ?side2 ?side3 ?side4 A30.out).mono ?_); (case side1 => repeat (first | exact (Kd.R_reads' HO_3.out).2.2 | (with_reducible refine Kd.C_alloc ?_ _) | (with_reducible refine Kd.C_drewN ?_ _) | (with_reducible refine Kd.C_drew ?_))); (case side2 => exact (Kd.R_reads' HO_3.out).2.1); (case side3 => repeat (first | exact (Kd.R_reads' HO_4.out).2.2 | (with_reducible refine Kd.C_alloc ?_ _) | (with_reducible refine Kd.C_drewN ?_ _) | (with_reducible refine Kd.C_drew ?_))); (case side4 => exact (Kd.R_reads' HO_4.out).2.1); rintro e w34 ⟨v310, rfl, ho0, hb⟩; refine ⟨_, rfl, ?_⟩; have n0_ := Aside0.mk (Kd.R_elder' (rN HO_3) (Kd.R_base ho0) hb); have n1_ := Aside0.mk (Kd.R_elder' (rN HO_4) (Kd.R_base ho0) hb); have n2_ := Aside0.mk (Kd.R_lower (Kd.R_new' (Kd.R_new' ho0 (Kd.R_lt (rN HO_3))) (Kd.R_lt (rN HO_4))) (below_size (bL HB))); have n3_ := blkB BK290 hb; have n4_ := blkB BK291 hb; have n5_ := Aside0.mk (below_step (bL HB) hb); clear HO_3 HO_4 BK290 BK291 HB; have HO_3 := n0_; have HO_4 := n1_; have HO311 := n2_; have BK290 := n3_; have BK291 := n4_; have HB := n5_; clear n0_ n1_ n2_ n3_ n4_ n5_; (try clear hb); (try clear hb2); (try clear hk); (try clear hi); (try clear ho0)) | ((with_reducible refine gate_callee (f := 32) rfl ?_); refine goesL_ (some 37) rfl rfl Try.func32 (by kernel_rfl) rfl #[.slice Ao33 x4_1.length co33, .slice Ao33 x4_1.length co33] rfl (by (try simp only [List.map_toArray, List.map_cons, List.map_nil]); first | done | rfl | (simp only [List.length_drop, List.length_take]; rfl) | (go_simp; simp only [u8_w, w64_u8]; done) | (go_simp; simp only [u8_w, w64_u8]; rfl)) ?_; (with_reducible refine (lorgnetteref01_plus.calls kj8 _ _ x4_1 _ _ x4_1 t312 _ ?side1 ?side2 ?side3 ?side4 A31.out).mono ?_); (case side1 => repeat (first | exact (Kd.R_reads' HO_4.out).2.2 | (with_reducible refine Kd.C_alloc ?_ _) | (with_reducible refine Kd.C_drewN ?_ _) | (with_reducible refine Kd.C_drew ?_))); (case side2 => exact (Kd.R_reads' HO_4.out).2.1); (case side3 => repeat (first | exact (Kd.R_reads' HO_4.out).2.2 | (with_reducible refine Kd.C_alloc ?_ _) | (with_reducible refine Kd.C_drewN ?_ _) | (with_reducible refine Kd.C_drew ?_))); (case side4 => exact (Kd.R_reads' HO_4.out).2.1); rintro e w35 ⟨v313, rfl, ho0, hb⟩; refine ⟨_, rfl, ?_⟩; have n0_ := Aside0.mk (Kd.R_elder' (rN HO_3) (Kd.R_base ho0) hb); have n1_ := Aside0.mk (Kd.R_elder' (rN HO_4) (Kd.R_base ho0) hb); have n2_ := Aside0.mk (Kd.R_elder' (rN HO311) (Kd.R_base ho0) hb); have n3_ := Aside0.mk (Kd.R_lower (Kd.R_new' (Kd.R_new' (Kd.R_new' ho0 (Kd.R_lt (rN HO_3))) (Kd.R_lt (rN HO_4))) (Kd.R_lt (rN HO311))) (below_size (bL HB))); have n4_ := blkB BK290 hb; have n5_ := blkB BK291 hb; have n6_ := Aside0.mk (below_step (bL HB) hb); clear HO_3 HO_4 HO311 BK290 BK291 HB; have HO_3 := n0_; have HO_4 := n1_; have HO311 := n2_; have HO314 := n3_; have BK290 := n4_; have BK291 := n5_; have HB := n6_; clear n0_ n1_ n2_ n3_ n4_ n5_ n6_; (try clear hb); (try clear hb2); (try clear hk); (try clear hi); (try clear ho0)))
         go_roundg kj8
         case measure => have := HK1.out; have := HJ8.out; omega
         case rel => exact ⟨(t309), (t312), (wrap64 (x5_1 + 1)), (x292000_1), (by first | rfl | (simp; done) | (simp [*]; done)), H', ⟨by have := HK1.out; have := HJ8.out; omega⟩, ⟨by (with_reducible repeat (first | apply Kd.R_alloc | apply Kd.R_drewN | apply Kd.R_drew)); exact Kd.R_mono HO311.out (fun _ hk => hk.2)⟩, ⟨by (with_reducible repeat (first | apply Kd.R_alloc | apply Kd.R_drewN | apply Kd.R_drew)); exact Kd.R_mono HO314.out (fun _ hk => hk.2)⟩, ⟨bN BK290⟩, ⟨bN BK291⟩, ⟨by repeat (first | (with_reducible first | exact HB.out | apply below_alloc | apply pw_below_drewN | apply below_drew1 | refine below_set ?_ GE290.out | refine below_set ?_ GE291.out) | exact HB.out)⟩⟩
       ·rw [if_neg c18] at H
        have c18b0 : ((Go.bits .and .u64 (ji17) 1) == 1) = false := beq_eq_false_iff_ne.mpr c18
        have c18b1 : ((Go.bits .and .u64 (ji17) 1) != 1) = true := bne_iff_ne.mpr c18
        replace H := Option.bind_eq_some_iff.mp H
        obtain ⟨t315, A360, H⟩ := H
        replace H : (lorgnetteref01_Of.l0 kj8 x3_1 t315 (wrap64 (x5_1 + 1)) a0_0 a0_1) = some (r1, r2) := H
        have A36 := Aside0.mk A360
        clear A360
        have H' := Aside0.mk H
        clear H
        obtain ⟨Ao37, co37, eo37⟩ := Kd.R_slice HO_4.out
        subst eo37
        go_wp2_with (first | ((with_reducible refine gate_callee (f := 32) rfl ?_); refine goesL_ (some 37) rfl rfl Try.func32 (by kernel_rfl) rfl #[.slice Ao37 x4_1.length co37, .slice Ao37 x4_1.length co37] rfl (by (try simp only [List.map_toArray, List.map_cons, List.map_nil]); first | done | rfl | (simp only [List.length_drop, List.length_take]; rfl) | (go_simp; simp only [u8_w, w64_u8]; done) | (go_simp; simp only [u8_w, w64_u8]; rfl)) ?_; (with_reducible refine (lorgnetteref01_plus.calls kj8 _ _ x4_1 _ _ x4_1 t315 _ ?side1 ?side2 ?side3 ?side4 A36.out).mono ?_); (case side1 => repeat (first | exact (Kd.R_reads' HO_4.out).2.2 | (with_reducible refine Kd.C_alloc ?_ _) | (with_reducible refine Kd.C_drewN ?_ _) | (with_reducible refine Kd.C_drew ?_))); (case side2 => exact (Kd.R_reads' HO_4.out).2.1); (case side3 => repeat (first | exact (Kd.R_reads' HO_4.out).2.2 | (with_reducible refine Kd.C_alloc ?_ _) | (with_reducible refine Kd.C_drewN ?_ _) | (with_reducible refine Kd.C_drew ?_))); (case side4 => exact (Kd.R_reads' HO_4.out).2.1); rintro e w38 ⟨v316, rfl, ho0, hb⟩; refine ⟨_, rfl, ?_⟩; have n0_ := Aside0.mk (Kd.R_elder' (rN HO_3) (Kd.R_base ho0) hb); have n1_ := Aside0.mk (Kd.R_elder' (rN HO_4) (Kd.R_base ho0) hb); have n2_ := Aside0.mk (Kd.R_lower (Kd.R_new' (Kd.R_new' ho0 (Kd.R_lt (rN HO_3))) (Kd.R_lt (rN HO_4))) (below_size (bL HB))); have n3_ := blkB BK290 hb; have n4_ := blkB BK291 hb; have n5_ := Aside0.mk (below_step (bL HB) hb); clear HO_3 HO_4 BK290 BK291 HB; have HO_3 := n0_; have HO_4 := n1_; have HO317 := n2_; have BK290 := n3_; have BK291 := n4_; have HB := n5_; clear n0_ n1_ n2_ n3_ n4_ n5_; (try clear hb); (try clear hb2); (try clear hk); (try clear hi); (try clear ho0)))
        go_roundg kj8
        case measure => have := HK1.out; have := HJ8.out; omega
        case rel => exact ⟨(x3_1), (t315), (wrap64 (x5_1 + 1)), (x292000_1), (by first | rfl | (simp; done) | (simp [*]; done)), H', ⟨by have := HK1.out; have := HJ8.out; omega⟩, ⟨by (with_reducible repeat (first | apply Kd.R_alloc | apply Kd.R_drewN | apply Kd.R_drew)); exact Kd.R_mono HO_3.out (fun _ hk => hk.2)⟩, ⟨by (with_reducible repeat (first | apply Kd.R_alloc | apply Kd.R_drewN | apply Kd.R_drew)); exact Kd.R_mono HO317.out (fun _ hk => hk.1.2)⟩, ⟨bN BK290⟩, ⟨bN BK291⟩, ⟨by repeat (first | (with_reducible first | exact HB.out | apply below_alloc | apply pw_below_drewN | apply below_drew1 | refine below_set ?_ GE290.out | refine below_set ?_ GE291.out) | exact HB.out)⟩⟩
      ·rw [if_neg c16] at H
       exact absurd H (by simp)
   ·rw [if_neg c8] at H
    have c8b0 : decide (x5_1 < 128) = false := decide_eq_false c8
    clear c8
    replace H := Option.bind_eq_some_iff.mp H
    obtain ⟨⟨t298, t299⟩, A390, H⟩ := H
    replace H : (some (t298, t299)) = some (r1, r2) := H
    have A39 := Aside0.mk A390
    clear A390
    simp only [Option.some.injEq, Prod.mk.injEq] at H
    obtain ⟨rfl, rfl⟩ := H
    obtain ⟨Ao40, co40, eo40⟩ := Kd.R_slice HO_3.out
    subst eo40
    go_wp2_with (first | ((with_reducible refine gate_callee (f := 30) rfl ?_); refine goesL_ (some 40) rfl rfl Try.func30 (by kernel_rfl) rfl #[.agg #[.bool false, .slice Ao40 x3_1.length co40]] rfl (by (try simp only [List.map_toArray, List.map_cons, List.map_nil]); first | done | rfl | (simp only [List.length_drop, List.length_take]; rfl) | (go_simp; simp only [u8_w, w64_u8]; done) | (go_simp; simp only [u8_w, w64_u8]; rfl)) ?_; (with_reducible refine (lorgnetteref01_trim.calls k1 false (fun k_ => some k_ = (.slice Ao40 x3_1.length co40 : Value).ownBlock) (.slice Ao40 x3_1.length co40) x3_1 t298 t299 w _ ?side1 ?side2 A39.out).mono ?_); (case side1 => repeat (first | (with_reducible first | exact HB.out | apply below_alloc | apply pw_below_drewN | apply below_drew1 | refine below_set ?_ GE290.out | refine below_set ?_ GE291.out) | exact HB.out)); (case side2 => exact Kd.R_tight rfl HO_3.out); rintro e w41 ⟨v300, rfl, ho0, hb, hkp⟩; refine ⟨_, rfl, ?_⟩; have n0_ := Aside0.mk (Kd.R_mono (ok' := fun k_ => some k_ ≠ (v300 : Value).ownBlock) (Kd.R_keptB (HO_4.out) hkp (fun k_ hk_ hs_ => (hk_) hs_)) (fun k_ hk_ => fun e_ => Or.elim (ho0.1 k_ e_.symm) (fun hs_ => hk_.2.1 hs_) (fun hn_ => Nat.not_le.2 hk_.2.2 hn_))); have n1_ := Aside0.mk (blk_kept (bN BK290) hkp (fun hs_ => (fun e_ => (Kd.R_ne HO_3.out BK290.out (by decide)) e_) hs_)); have n2_ := Aside0.mk (blk_kept (bN BK291) hkp (fun hs_ => (fun e_ => (Kd.R_ne HO_3.out BK291.out (by decide)) e_) hs_)); have n3_ := Aside0.mk (Kd.R_mono (ok' := fun k_ => some k_ ≠ (u4 : Value).ownBlock) ho0 (fun k_ hk_ => Or.elim hk_ (fun hs_ => fun e_ => (((HO_4.out).1 k_ e_.symm)) hs_) (fun hn_ => (Kd.fresh' (Kd.R_lt (rN HO_4)) k_ hn_)))); have n4_ := Aside0.mk (hb); clear HO_4 BK290 BK291 HB HO_3; have HO_4 := n0_; have BK290 := n1_; have BK291 := n2_; have HO301 := n3_; have HB := n4_; clear n0_ n1_ n2_ n3_ n4_; (try clear hb); (try clear hkp); (try clear ho0); have hnb42 := NB291_290.out; have hnc42 := NB290_291.out; have hcz43_0 : w41.cell? ⟨gb291, 0, none⟩ = some (.bool x292000_1) := (blk_cell BK291.out 0).trans rfl; have hcz43_1 : w41.cell? ⟨gb291, 1, none⟩ = some (.slice none 0 0) := (blk_cell BK291.out 1).trans rfl; have hfz43_0 := blk_frozen BK291.out 0; have hfz43_1 := blk_frozen BK291.out 1; obtain ⟨Ao44, co44, eo44⟩ := Kd.R_slice HO301.out; subst eo44))
    refine bodyPost_ret (results_cell_row rfl _ _ gb291 28 #[.bool t298, .slice Ao44 t299.length co44] (0, 0) _ rfl (by (with_reducible repeat (first | refine blk_drewN ?_ _ | refine blk_drew ?_ | refine blk_alloc ?_ _)); refine blk_put (cs := #[.bool t298, .slice none 0 0]) ?_ 1 _ rfl; (with_reducible repeat (first | refine blk_drewN ?_ _ | refine blk_drew ?_ | refine blk_alloc ?_ _)); refine blk_put (cs := #[.bool x292000_1, .slice none 0 0]) ?_ 0 _ rfl; (with_reducible repeat (first | refine blk_drewN ?_ _ | refine blk_drew ?_ | refine blk_alloc ?_ _)); exact BK291.out) Try.underlying28 rfl (by kernel_rfl)) rfl ?_
    exact ⟨_, by first | rfl | (simp [errW_none, errW_some] <;> rfl) | (simp [*, errW_none, errW_some] <;> rfl), by (with_reducible repeat (first | apply Kd.R_alloc | apply Kd.R_drewN | apply Kd.R_drew)); exact Kd.R_mono (Kd.R_far (p := ⟨gb291, 1, none⟩) (Kd.R_far (p := ⟨gb291, 0, none⟩) (Kd.R_types HO301.out BK291.out (by decide)) (fun _ hk => hk.2) (.bool t298)) (fun _ hk => hk.2) (.slice Ao44 t299.length co44)) (fun _ hk => trivial), by repeat (first | (with_reducible first | exact HB.out | apply below_alloc | apply pw_below_drewN | apply below_drew1 | refine below_set ?_ GE290.out | refine below_set ?_ GE291.out) | exact HB.out)⟩

end Go.Proofs.Ytjnaebcdidilgaa.Q
