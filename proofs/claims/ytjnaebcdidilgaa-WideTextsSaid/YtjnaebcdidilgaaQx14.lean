/- Functions of the program as Lean functions, and their walks: printed by print.py as this session changed it (mkprint.py). Lean checks it. No condition. (halved) -/
import Derived.Test.YtjnaebcdidilgaaQx0
namespace Go.Proofs.Ytjnaebcdidilgaa.Q
open Go.RowKit Go.Proofs.YtjnaebcdidilgaaW.PrintWords Go.Proofs.YtjnaebcdidilgaaW.PrintLast Go.Proofs.YtjnaebcdidilgaaW.PrintMore
attribute [local go_sem] max2_int min2_int max_two min_two max_three min_three max_four min_four   -- for this text's walks alone
attribute [local go_sem] Instr.field asAgg
set_option linter.unusedVariables false
set_option linter.unusedSimpArgs false

/-! ### lorgnetteref01_trim: function 30 -/
def lorgnetteref01_trim.l0 : Nat → Int → Bool → List Int → Option (Bool × List Int)
 | 0, _, _, _ => none
 | k + 1, x3, x262000, x262001 => if x3 > 0 then (if 0 ≤ (wrap64 (x3 - 1)) then (if (wrap64 (x3 - 1)) < (x262001.length : Int) then (if (rd x262001 (wrap64 (x3 - 1))) = 0 then (lorgnetteref01_trim.l0 k (wrap64 (x3 - 1)) x262000 x262001) else (if 0 ≤ x3 then (if x3 ≤ (x262001.length : Int) then ((some (x262001.take (x3 : Int).toNat : List Int)).bind fun y264 => (if x262000 = true then (some (true, y264)) else (some (false, y264)))) else (none)) else (none))) else (none)) else (none)) else (if 0 ≤ x3 then (if x3 ≤ (x262001.length : Int) then ((some (x262001.take (x3 : Int).toNat : List Int)).bind fun y267 => (if x262000 = true then (some (false, y267)) else (some (false, y267)))) else (none)) else (none))
def lorgnetteref01_trim.f (k : Nat) (a0_0 : Bool) (l0_1 : List Int) : Option (Bool × List Int) := lorgnetteref01_trim.l0 k (l0_1.length : Int) a0_0 l0_1
theorem lorgnetteref01_trim.mono_l : ∀ k, (∀ y0 y1 y2, LeO (lorgnetteref01_trim.l0 k y0 y1 y2) (lorgnetteref01_trim.l0 (k + 1) y0 y1 y2))
 | 0 => fun _ _ _ r h => by simp [lorgnetteref01_trim.l0] at h
 | k + 1 => by
  have ih0 := lorgnetteref01_trim.mono_l k
  ·intro y0 y1 y2
   unfold lorgnetteref01_trim.l0
   repeat' first
   | (with_reducible exact ih0 _ _ _)
   | (with_reducible exact LeO.refl _)
   | (with_reducible exact LeO.none _)
   | (with_reducible refine LeO.ite ?_ ?_)
   | (with_reducible refine LeO.bind ?_ (fun _ => ?_))
theorem lorgnetteref01_trim.mono : ∀ a0 a1 k, LeO (lorgnetteref01_trim.f k a0 a1) (lorgnetteref01_trim.f (k + 1) a0 a1) := by
 intro a0 a1 k
 have ih0 := lorgnetteref01_trim.mono_l k
 unfold lorgnetteref01_trim.f
 repeat' first
   | (with_reducible exact ih0 _ _ _)
   | (with_reducible exact LeO.refl _)
   | (with_reducible exact LeO.none _)
   | (with_reducible refine LeO.ite ?_ ?_)
   | (with_reducible refine LeO.bind ?_ (fun _ => ?_))
set_option maxHeartbeats 8000000 in
set_option maxRecDepth 100000 in
theorem lorgnetteref01_trim.calls (k : Nat) (a0_0 : Bool) (P0_1_ : Nat → Prop) (u9000_ : Value) (l0_1 : List Int) (r1 : Bool) (r2 : List Int) (w0 w : World) (hB : Below w0.heap.size w0 w) (ho0_1 : Kd.R (Kd.int .i64) 3 w w0.heap.size P0_1_ u9000_ l0_1) (h : lorgnetteref01_trim.f k a0_0 l0_1 = some (r1, r2)) :
  Calls Try.prog 30 #[.agg #[.bool a0_0, u9000_]] w fun e w' => ∃ v1_ : Value, e = .returned (.agg #[.bool r1, v1_]) ∧ Kd.R (Kd.int .i64) 3 w' w0.heap.size (fun k_ => (P0_1_ k_ ∨ w.heap.size ≤ k_)) v1_ r2 ∧ Below w0.heap.size w0 w' ∧ Kept w w' (fun k_ => P0_1_ k_) := by
 have hu28 := Try.underlying28
 have HO0_1 := Aside0.mk (show Kd.R (Kd.int .i64) 3 w w0.heap.size (fun k_ => (P0_1_ k_ ∨ w.heap.size ≤ k_)) u9000_ l0_1 from Kd.R_mono ho0_1 (fun k_ hk => (.inl hk)))
 have HK := Aside0.mk (Kept.refl w (fun k_ => P0_1_ k_))
 have HW0 := Aside0.mk hB.size
 have HB := Aside0.mk hB
 clear hB
 have H : (lorgnetteref01_trim.l0 k (l0_1.length : Int) a0_0 l0_1) = some (r1, r2) := h
 clear h
 have H' := Aside0.mk H
 clear H
 obtain ⟨Ao2, co2, eo2⟩ := Kd.R_slice HO0_1.out
 subst eo2
 go_enter Try.func30, Try.ntmps30
 go_wp2_with (first | ((with_reducible refine gate_dst (N := 1) rfl ?_); refine box_event ?hg (N := 1) ?hd (cs := #[.bool a0_0, .slice Ao2 l0_1.length co2]) (t := 28) ?hr ?_; (case hd => rfl); (case hg => rfl); (case hr => first | (go_simp; done) | (go_simp; rfl)); intro gb261 hg w3 hbox hb; have n0_ := Aside0.mk (Kd.R_below (rN HO0_1) hb); have n1_ := Aside0.mk (Kept.below (S := (fun k_ => P0_1_ k_)) (by repeat (first | (with_reducible first | exact HK.out | apply Kept.alloc | apply Kept.drewN | apply Kept.drew) | exact HK.out)) hb); have n2_ := Aside0.mk (below_step (bL HB) hb); have n3_ := Aside0.mk (hbox); have n4_ := Aside0.mk ((by rw [hg]; exact (by first | exact HK.out.1 | exact (show Kept w _ (fun k_ => P0_1_ k_) from by repeat (first | (with_reducible first | exact HK.out | apply Kept.alloc | apply Kept.drewN | apply Kept.drew) | exact HK.out)).1) : w.heap.size ≤ gb261)); have n5_ := Aside0.mk ((by rw [hg]; exact (below_size (bL HB)) : w0.heap.size ≤ gb261)); clear HO0_1 HK HB; have HO0_1 := n0_; have HK := n1_; have HB := n2_; have BK261 := n3_; have GW261 := n4_; have GE261 := n5_; clear n0_ n1_ n2_ n3_ n4_ n5_; clear hb hbox hg) | ((with_reducible refine gate_dst (N := 2) rfl ?_); refine box_event ?hg (N := 2) ?hd (cs := #[.bool false, .slice none 0 0]) (t := 28) ?hr ?_; (case hd => rfl); (case hg => rfl); (case hr => first | (go_simp; done) | (go_simp; rfl)); intro gb262 hg w4 hbox hb; have n0_ := Aside0.mk (Kd.R_below (rN HO0_1) hb); have n1_ := blkB BK261 hb; have n2_ := Aside0.mk (Kept.below (S := (fun k_ => P0_1_ k_)) (by repeat (first | (with_reducible first | exact HK.out | apply Kept.alloc | apply Kept.drewN | apply Kept.drew | refine Kept.setCell ?_ (.inr GW261.out) _) | exact HK.out)) hb); have n3_ := Aside0.mk (below_step (bL HB) hb); have n4_ := Aside0.mk (hbox); have n5_ := Aside0.mk ((by rw [hg]; exact (by first | exact HK.out.1 | exact (show Kept w _ (fun k_ => P0_1_ k_) from by repeat (first | (with_reducible first | exact HK.out | apply Kept.alloc | apply Kept.drewN | apply Kept.drew | refine Kept.setCell ?_ (.inr GW261.out) _) | exact HK.out)).1) : w.heap.size ≤ gb262)); have n6_ := Aside0.mk ((by rw [hg]; exact (below_size (bL HB)) : w0.heap.size ≤ gb262)); have n7_ := blkL BK261 hg; have n8_ := blkG BK261 hg; clear HO0_1 BK261 HK HB; have HO0_1 := n0_; have BK261 := n1_; have HK := n2_; have HB := n3_; have BK262 := n4_; have GW262 := n5_; have GE262 := n6_; have NB261_262 := n7_; have NB262_261 := n8_; clear n0_ n1_ n2_ n3_ n4_ n5_ n6_ n7_ n8_; clear hb hbox hg; have hnb5 := NB261_262.out; have hnc5 := NB262_261.out; have hcz6_0 : w4.cell? ⟨gb261, 0, none⟩ = some (.bool a0_0) := (blk_cell BK261.out 0).trans rfl; have hcz6_1 : w4.cell? ⟨gb261, 1, none⟩ = some (.slice Ao2 l0_1.length co2) := (blk_cell BK261.out 1).trans rfl; have hfz6_0 := blk_frozen BK261.out 0; have hfz6_1 := blk_frozen BK261.out 1))
 go_loopg [3] k (fun kq v3 w' => ∃ (x3_1 : Int), v3 = .int .i64 x3_1 ∧ Aside0 (lorgnetteref01_trim.l0 kq x3_1 a0_0 l0_1 = some (r1, r2)) ∧ Aside0 (kq ≤ k) ∧ Aside0 (Kd.R (Kd.int .i64) 3 w' w0.heap.size (fun k_ => (P0_1_ k_ ∨ w.heap.size ≤ k_)) (.slice Ao2 l0_1.length co2) l0_1) ∧ Aside0 (w'.heap[gb261]? = some (.cells #[.bool a0_0, (.slice Ao2 l0_1.length co2)] 28 (0, 0))) ∧ Aside0 (w'.heap[gb262]? = some (.cells #[.bool false, (.slice none 0 0)] 28 (0, 0))) ∧ Aside0 (Kept w w' (fun k_ => P0_1_ k_)) ∧ Aside0 (Below w0.heap.size w0 w'))
 case atStart => exact ⟨((l0_1.length : Int)), (by first | rfl | (simp; done) | (simp [*]; done)), H', ⟨Nat.le_refl _⟩, ⟨by (with_reducible repeat (first | apply Kd.R_alloc | apply Kd.R_drewN | apply Kd.R_drew)); exact HO0_1.out⟩, ⟨bN BK261⟩, ⟨bN BK262⟩, ⟨by repeat (first | (with_reducible first | exact HK.out | apply Kept.alloc | apply Kept.drewN | apply Kept.drew | refine Kept.setCell ?_ (.inr GW261.out) _ | refine Kept.setCell ?_ (.inr GW262.out) _) | exact HK.out)⟩, ⟨by repeat (first | (with_reducible first | exact HB.out | apply below_alloc | apply pw_below_drewN | apply below_drew1 | refine below_set ?_ GE261.out | refine below_set ?_ GE262.out) | exact HB.out)⟩⟩
 case round =>
  clear H'
  try clear p2
  try clear c3
  try clear c5
  try clear hcz6_0
  try clear hcz6_1
  try clear hfz6_0
  try clear hfz6_1
  obtain ⟨x3_1, rfl, HA, HK1, HO_262001, BK261, BK262, HK, HB⟩ := hrel
  cases gk with
  | zero => exact absurd HA.out (by simp [lorgnetteref01_trim.l0])
  | succ k1 =>
   have H := HA.out
   clear HA
   simp only [lorgnetteref01_trim.l0] at H
   by_cases c7 : x3_1 > 0
   ·rw [if_pos c7] at H
    have c7b0 : decide (0 < x3_1) = true := decide_eq_true c7
    clear c7
    obtain ⟨ji8, hji8⟩ : ∃ j_ : Int, (wrap64 (x3_1 - 1)) = j_ := ⟨_, rfl⟩
    replace H : (if 0 ≤ (ji8) then (if (ji8) < (l0_1.length : Int) then (if (rd l0_1 (ji8)) = 0 then (lorgnetteref01_trim.l0 k1 ji8 a0_0 l0_1) else (if 0 ≤ x3_1 then (if x3_1 ≤ (l0_1.length : Int) then ((some (l0_1.take (x3_1 : Int).toNat : List Int)).bind fun y264 => (if a0_0 = true then (some (true, y264)) else (some (false, y264)))) else (none)) else (none))) else (none)) else (none)) = some (r1, r2) := by first | (rw [hji8] at H; exact H) | (simp only [hji8] at H ⊢; exact H)
    have hji8w : (IntKind.i64.wrap (x3_1 - 1)) = ji8 := (i64_w _).trans hji8
    by_cases c9 : 0 ≤ (ji8)
    ·rw [if_pos c9] at H
     have c9b0 : decide (0 ≤ (ji8)) = true := decide_eq_true c9
     clear c9
     by_cases c10 : (ji8) < (l0_1.length : Int)
     ·rw [if_pos c10] at H
      have c10b0 : decide ((ji8) < (l0_1.length : Int)) = true := decide_eq_true c10
      clear c10
      by_cases c11 : (rd l0_1 (ji8)) = 0
      ·rw [if_pos c11] at H
       have c11b0 : ((rd l0_1 (ji8)) == 0) = true := beq_iff_eq.mpr c11
       have c11b1 : ((rd l0_1 (ji8)) != 0) = false := bne_eq_false_iff_eq.mpr c11
       clear c11
       have H' := Aside0.mk H
       clear H
       have hnb12 := NB261_262.out
       have hnc12 := NB262_261.out
       have hcz13_0 : wr.cell? ⟨gb261, 0, none⟩ = some (.bool a0_0) := (blk_cell BK261.out 0).trans rfl
       have hcz13_1 : wr.cell? ⟨gb261, 1, none⟩ = some (.slice Ao2 l0_1.length co2) := (blk_cell BK261.out 1).trans rfl
       have hfz13_0 := blk_frozen BK261.out 0
       have hfz13_1 := blk_frozen BK261.out 1
       have p263 : 0 ≤ ((ji8) : Int) := of_decide_eq_true (by first | (with_reducible assumption) | assumption)
       have q263 : (ji8) < (l0_1.length : Int) := of_decide_eq_true (by first | (with_reducible assumption) | assumption)
       obtain ⟨ad263, e263, hx263_0⟩ := Kd.at_int (Kd.R_reads' HO_262001.out).2.2 (ji8) p263 q263
       cases e263
       replace p263 := eq_true p263
       replace q263 := eq_true q263
       go_wp2
       go_roundg k1
       case measure => have := HK1.out; omega
       case rel => exact ⟨(ji8), (by first | rfl | (simp; done) | (simp only [← hji8] <;> (first | rfl | simp)) | (simp [*]; done)), H', ⟨by have := HK1.out; omega⟩, ⟨by (with_reducible repeat (first | apply Kd.R_alloc | apply Kd.R_drewN | apply Kd.R_drew)); exact HO_262001.out⟩, ⟨bN BK261⟩, ⟨bN BK262⟩, ⟨by repeat (first | (with_reducible first | exact HK.out | apply Kept.alloc | apply Kept.drewN | apply Kept.drew | refine Kept.setCell ?_ (.inr GW261.out) _ | refine Kept.setCell ?_ (.inr GW262.out) _) | exact HK.out)⟩, ⟨by repeat (first | (with_reducible first | exact HB.out | apply below_alloc | apply pw_below_drewN | apply below_drew1 | refine below_set ?_ GE261.out | refine below_set ?_ GE262.out) | exact HB.out)⟩⟩
      ·rw [if_neg c11] at H
       have c11b0 : ((rd l0_1 (ji8)) == 0) = false := beq_eq_false_iff_ne.mpr c11
       have c11b1 : ((rd l0_1 (ji8)) != 0) = true := bne_iff_ne.mpr c11
       by_cases c14 : 0 ≤ x3_1
       ·rw [if_pos c14] at H
        have c14b0 := eq_true c14
        have c14b1 : decide (0 ≤ x3_1) = true := decide_eq_true c14
        clear c14
        by_cases c15 : x3_1 ≤ (l0_1.length : Int)
        ·rw [if_pos c15] at H
         have c15b0 := eq_true c15
         have c15b1 : decide (x3_1 ≤ (l0_1.length : Int)) = true := decide_eq_true c15
         clear c15
         obtain ⟨y264, hy264⟩ : ∃ y_ : List Int, y_ = (l0_1.take (x3_1 : Int).toNat) := ⟨_, rfl⟩
         replace H : (if a0_0 = true then (some (true, y264)) else (some (false, y264))) = some (r1, r2) := by first | (rw [hy264]; with_reducible exact H) | (have H2_ := (Option.bind_some _ _).symm.trans H; rw [hy264]; with_reducible exact H2_) | (have H2_ := (Option.bind_some _ _).symm.trans H; with_reducible exact H2_) | with_reducible exact H | (rw [hy264]; exact H) | exact H
         have Ny264 := Aside0.mk hy264
         clear hy264
         by_cases c16 : a0_0 = true
         ·subst c16
          have H1 : (some (true, y264)) = some (r1, r2) := by rw [if_pos rfl] at H; exact H
          clear H
          have H := H1
          clear H1
          simp only [Option.some.injEq, Prod.mk.injEq] at H
          obtain ⟨rfl, rfl⟩ := H
          have hnb17 := NB261_262.out
          have hnc17 := NB262_261.out
          have hcz18_0 : wr.cell? ⟨gb261, 0, none⟩ = some (.bool true) := (blk_cell BK261.out 0).trans rfl
          have hcz18_1 : wr.cell? ⟨gb261, 1, none⟩ = some (.slice Ao2 l0_1.length co2) := (blk_cell BK261.out 1).trans rfl
          have hfz18_0 := blk_frozen BK261.out 0
          have hfz18_1 := blk_frozen BK261.out 1
          have p263 : 0 ≤ ((ji8) : Int) := of_decide_eq_true (by first | (with_reducible assumption) | assumption)
          have q263 : (ji8) < (l0_1.length : Int) := of_decide_eq_true (by first | (with_reducible assumption) | assumption)
          obtain ⟨ad263, e263, hx263_0⟩ := Kd.at_int (Kd.R_reads' HO_262001.out).2.2 (ji8) p263 q263
          cases e263
          replace p263 := eq_true p263
          replace q263 := eq_true q263
          have q19 : (x3_1 : Int) ≤ ((l0_1.length : Int) : Int) := of_decide_eq_true (by first | (with_reducible assumption) | assumption)
          obtain ⟨i019, hi019, _, hsz19, _⟩ := info_parts info3
          have hcut19 := cut_to (P := Try.prog) 26 3 .i64 Try.underlying26 hi019 (some ad263) l0_1.length co2 x3_1 (of_decide_eq_true (by first | (with_reducible assumption) | assumption)) q19 (Kd.R_reads' HO_262001.out).2.1
          have hr19 := Kd.R_take (m := (x3_1 : Int).toNat) HO_262001.out (by omega)
          have hy19 : y264.length = (x3_1 : Int).toNat := (by rw [Ny264.out, List.length_take]; omega)
          rw [← Ny264.out] at hr19
          rw [← hy19] at hr19 hcut19
          clear hy19 hi019 hsz19 HO_262001
          have HO266 := Aside0.mk hr19
          clear hr19
          replace q19 := eq_true q19
          have hcz20_0 : wr.cell? ⟨gb262, 0, none⟩ = some (.bool false) := (blk_cell BK262.out 0).trans rfl
          have hcz20_1 : wr.cell? ⟨gb262, 1, none⟩ = some (.slice none 0 0) := (blk_cell BK262.out 1).trans rfl
          have hfz20_0 := blk_frozen BK262.out 0
          have hfz20_1 := blk_frozen BK262.out 1
          go_wp2
          refine bodyPost_ret (results_cell_row rfl _ _ gb262 28 #[.bool true, .slice (some ad263) y264.length co2] (0, 0) _ rfl (by (with_reducible repeat (first | refine blk_drewN ?_ _ | refine blk_drew ?_ | refine blk_alloc ?_ _)); refine blk_put (cs := #[.bool true, .slice none 0 0]) ?_ 1 _ rfl; (with_reducible repeat (first | refine blk_drewN ?_ _ | refine blk_drew ?_ | refine blk_alloc ?_ _)); refine blk_put (cs := #[.bool false, .slice none 0 0]) ?_ 0 _ rfl; (with_reducible repeat (first | refine blk_drewN ?_ _ | refine blk_drew ?_ | refine blk_alloc ?_ _)); refine blk_far ?_ NB262_261.out _; (with_reducible repeat (first | refine blk_drewN ?_ _ | refine blk_drew ?_ | refine blk_alloc ?_ _)); refine blk_far ?_ NB262_261.out _; (with_reducible repeat (first | refine blk_drewN ?_ _ | refine blk_drew ?_ | refine blk_alloc ?_ _)); exact BK262.out) Try.underlying28 rfl (by kernel_rfl)) rfl ?_
          exact ⟨_, by first | rfl | (simp [errW_none, errW_some] <;> rfl) | (simp only [← hji8]; first | rfl | (simp [errW_none, errW_some] <;> rfl)) | (simp [*, errW_none, errW_some] <;> rfl), by (with_reducible repeat (first | apply Kd.R_alloc | apply Kd.R_drewN | apply Kd.R_drew)); exact Kd.R_mono (Kd.R_far (p := ⟨gb262, 1, none⟩) (Kd.R_far (p := ⟨gb262, 0, none⟩) (Kd.R_far (p := ⟨gb261, 0, none⟩) (Kd.R_far (p := ⟨gb261, 1, none⟩) (Kd.R_types (Kd.R_types HO266.out BK261.out (by decide)) BK262.out (by decide)) (fun _ hk => hk.1.2) (.slice (some ad263) y264.length co2)) (fun _ hk => hk.1.2) (.bool true)) (fun _ hk => hk.2) (.bool true)) (fun _ hk => hk.2) (.slice (some ad263) y264.length co2)) (fun _ hk => hk.1.1), by repeat (first | (with_reducible first | exact HB.out | apply below_alloc | apply pw_below_drewN | apply below_drew1 | refine below_set ?_ GE261.out | refine below_set ?_ GE262.out) | exact HB.out), by repeat (first | (with_reducible first | exact HK.out | apply Kept.alloc | apply Kept.drewN | apply Kept.drew | refine Kept.setCell ?_ (.inr GW261.out) _ | refine Kept.setCell ?_ (.inr GW262.out) _) | exact HK.out)⟩
         ·replace c16 := Bool.eq_false_iff.mpr c16
          subst c16
          have H1 : (some (false, y264)) = some (r1, r2) := by rw [if_neg (show ¬ (false = true) by decide)] at H; exact H
          clear H
          have H := H1
          clear H1
          simp only [Option.some.injEq, Prod.mk.injEq] at H
          obtain ⟨rfl, rfl⟩ := H
          have hnb21 := NB261_262.out
          have hnc21 := NB262_261.out
          have hcz22_0 : wr.cell? ⟨gb261, 0, none⟩ = some (.bool false) := (blk_cell BK261.out 0).trans rfl
          have hcz22_1 : wr.cell? ⟨gb261, 1, none⟩ = some (.slice Ao2 l0_1.length co2) := (blk_cell BK261.out 1).trans rfl
          have hfz22_0 := blk_frozen BK261.out 0
          have hfz22_1 := blk_frozen BK261.out 1
          have p263 : 0 ≤ ((ji8) : Int) := of_decide_eq_true (by first | (with_reducible assumption) | assumption)
          have q263 : (ji8) < (l0_1.length : Int) := of_decide_eq_true (by first | (with_reducible assumption) | assumption)
          obtain ⟨ad263, e263, hx263_0⟩ := Kd.at_int (Kd.R_reads' HO_262001.out).2.2 (ji8) p263 q263
          cases e263
          replace p263 := eq_true p263
          replace q263 := eq_true q263
          have q23 : (x3_1 : Int) ≤ ((l0_1.length : Int) : Int) := of_decide_eq_true (by first | (with_reducible assumption) | assumption)
          obtain ⟨i023, hi023, _, hsz23, _⟩ := info_parts info3
          have hcut23 := cut_to (P := Try.prog) 26 3 .i64 Try.underlying26 hi023 (some ad263) l0_1.length co2 x3_1 (of_decide_eq_true (by first | (with_reducible assumption) | assumption)) q23 (Kd.R_reads' HO_262001.out).2.1
          have hr23 := Kd.R_take (m := (x3_1 : Int).toNat) HO_262001.out (by omega)
          have hy23 : y264.length = (x3_1 : Int).toNat := (by rw [Ny264.out, List.length_take]; omega)
          rw [← Ny264.out] at hr23
          rw [← hy23] at hr23 hcut23
          clear hy23 hi023 hsz23 HO_262001
          have HO266 := Aside0.mk hr23
          clear hr23
          replace q23 := eq_true q23
          have hcz24_0 : wr.cell? ⟨gb262, 0, none⟩ = some (.bool false) := (blk_cell BK262.out 0).trans rfl
          have hcz24_1 : wr.cell? ⟨gb262, 1, none⟩ = some (.slice none 0 0) := (blk_cell BK262.out 1).trans rfl
          have hfz24_0 := blk_frozen BK262.out 0
          have hfz24_1 := blk_frozen BK262.out 1
          go_wp2
          refine bodyPost_ret (results_cell_row rfl _ _ gb262 28 #[.bool false, .slice (some ad263) y264.length co2] (0, 0) _ rfl (by (with_reducible repeat (first | refine blk_drewN ?_ _ | refine blk_drew ?_ | refine blk_alloc ?_ _)); refine blk_put (cs := #[.bool false, .slice none 0 0]) ?_ 1 _ rfl; (with_reducible repeat (first | refine blk_drewN ?_ _ | refine blk_drew ?_ | refine blk_alloc ?_ _)); refine blk_put (cs := #[.bool false, .slice none 0 0]) ?_ 0 _ rfl; (with_reducible repeat (first | refine blk_drewN ?_ _ | refine blk_drew ?_ | refine blk_alloc ?_ _)); refine blk_far ?_ NB262_261.out _; (with_reducible repeat (first | refine blk_drewN ?_ _ | refine blk_drew ?_ | refine blk_alloc ?_ _)); refine blk_far ?_ NB262_261.out _; (with_reducible repeat (first | refine blk_drewN ?_ _ | refine blk_drew ?_ | refine blk_alloc ?_ _)); exact BK262.out) Try.underlying28 rfl (by kernel_rfl)) rfl ?_
          exact ⟨_, by first | rfl | (simp [errW_none, errW_some] <;> rfl) | (simp only [← hji8]; first | rfl | (simp [errW_none, errW_some] <;> rfl)) | (simp [*, errW_none, errW_some] <;> rfl), by (with_reducible repeat (first | apply Kd.R_alloc | apply Kd.R_drewN | apply Kd.R_drew)); exact Kd.R_mono (Kd.R_far (p := ⟨gb262, 1, none⟩) (Kd.R_far (p := ⟨gb262, 0, none⟩) (Kd.R_far (p := ⟨gb261, 0, none⟩) (Kd.R_far (p := ⟨gb261, 1, none⟩) (Kd.R_types (Kd.R_types HO266.out BK261.out (by decide)) BK262.out (by decide)) (fun _ hk => hk.1.2) (.slice (some ad263) y264.length co2)) (fun _ hk => hk.1.2) (.bool false)) (fun _ hk => hk.2) (.bool false)) (fun _ hk => hk.2) (.slice (some ad263) y264.length co2)) (fun _ hk => hk.1.1), by repeat (first | (with_reducible first | exact HB.out | apply below_alloc | apply pw_below_drewN | apply below_drew1 | refine below_set ?_ GE261.out | refine below_set ?_ GE262.out) | exact HB.out), by repeat (first | (with_reducible first | exact HK.out | apply Kept.alloc | apply Kept.drewN | apply Kept.drew | refine Kept.setCell ?_ (.inr GW261.out) _ | refine Kept.setCell ?_ (.inr GW262.out) _) | exact HK.out)⟩
        ·rw [if_neg c15] at H
         exact absurd H (by simp)
       ·rw [if_neg c14] at H
        exact absurd H (by simp)
     ·rw [if_neg c10] at H
      exact absurd H (by simp)
    ·rw [if_neg c9] at H
     exact absurd H (by simp)
   ·rw [if_neg c7] at H
    have c7b0 : decide (0 < x3_1) = false := decide_eq_false c7
    clear c7
    by_cases c25 : 0 ≤ x3_1
    ·rw [if_pos c25] at H
     have c25b0 := eq_true c25
     have c25b1 : decide (0 ≤ x3_1) = true := decide_eq_true c25
     clear c25
     by_cases c26 : x3_1 ≤ (l0_1.length : Int)
     ·rw [if_pos c26] at H
      have c26b0 := eq_true c26
      have c26b1 : decide (x3_1 ≤ (l0_1.length : Int)) = true := decide_eq_true c26
      clear c26
      obtain ⟨y267, hy267⟩ : ∃ y_ : List Int, y_ = (l0_1.take (x3_1 : Int).toNat) := ⟨_, rfl⟩
      replace H : (if a0_0 = true then (some (false, y267)) else (some (false, y267))) = some (r1, r2) := by first | (rw [hy267]; with_reducible exact H) | (have H2_ := (Option.bind_some _ _).symm.trans H; rw [hy267]; with_reducible exact H2_) | (have H2_ := (Option.bind_some _ _).symm.trans H; with_reducible exact H2_) | with_reducible exact H | (rw [hy267]; exact H) | exact H
      have Ny267 := Aside0.mk hy267
      clear hy267
      by_cases c27 : a0_0 = true
      ·subst c27
       have H1 : (some (false, y267)) = some (r1, r2) := by rw [if_pos rfl] at H; exact H
       clear H
       have H := H1
       clear H1
       simp only [Option.some.injEq, Prod.mk.injEq] at H
       obtain ⟨rfl, rfl⟩ := H
       have hnb28 := NB261_262.out
       have hnc28 := NB262_261.out
       have hcz29_0 : wr.cell? ⟨gb261, 0, none⟩ = some (.bool true) := (blk_cell BK261.out 0).trans rfl
       have hcz29_1 : wr.cell? ⟨gb261, 1, none⟩ = some (.slice Ao2 l0_1.length co2) := (blk_cell BK261.out 1).trans rfl
       have hfz29_0 := blk_frozen BK261.out 0
       have hfz29_1 := blk_frozen BK261.out 1
       have q30 : (x3_1 : Int) ≤ ((l0_1.length : Int) : Int) := of_decide_eq_true (by first | (with_reducible assumption) | assumption)
       obtain ⟨i030, hi030, _, hsz30, _⟩ := info_parts info3
       have hcut30 := cut_to (P := Try.prog) 26 3 .i64 Try.underlying26 hi030 Ao2 l0_1.length co2 x3_1 (of_decide_eq_true (by first | (with_reducible assumption) | assumption)) q30 (Kd.R_reads' HO_262001.out).2.1
       have hr30 := Kd.R_take (m := (x3_1 : Int).toNat) HO_262001.out (by omega)
       have hy30 : y267.length = (x3_1 : Int).toNat := (by rw [Ny267.out, List.length_take]; omega)
       rw [← Ny267.out] at hr30
       rw [← hy30] at hr30 hcut30
       clear hy30 hi030 hsz30 HO_262001
       have HO269 := Aside0.mk hr30
       clear hr30
       replace q30 := eq_true q30
       have hcz31_0 : wr.cell? ⟨gb262, 0, none⟩ = some (.bool false) := (blk_cell BK262.out 0).trans rfl
       have hcz31_1 : wr.cell? ⟨gb262, 1, none⟩ = some (.slice none 0 0) := (blk_cell BK262.out 1).trans rfl
       have hfz31_0 := blk_frozen BK262.out 0
       have hfz31_1 := blk_frozen BK262.out 1
       go_wp2
       refine bodyPost_ret (results_cell_row rfl _ _ gb262 28 #[.bool false, .slice Ao2 y267.length co2] (0, 0) _ rfl (by (with_reducible repeat (first | refine blk_drewN ?_ _ | refine blk_drew ?_ | refine blk_alloc ?_ _)); refine blk_put (cs := #[.bool false, .slice none 0 0]) ?_ 1 _ rfl; (with_reducible repeat (first | refine blk_drewN ?_ _ | refine blk_drew ?_ | refine blk_alloc ?_ _)); refine blk_put (cs := #[.bool false, .slice none 0 0]) ?_ 0 _ rfl; (with_reducible repeat (first | refine blk_drewN ?_ _ | refine blk_drew ?_ | refine blk_alloc ?_ _)); refine blk_far ?_ NB262_261.out _; (with_reducible repeat (first | refine blk_drewN ?_ _ | refine blk_drew ?_ | refine blk_alloc ?_ _)); refine blk_far ?_ NB262_261.out _; (with_reducible repeat (first | refine blk_drewN ?_ _ | refine blk_drew ?_ | refine blk_alloc ?_ _)); exact BK262.out) Try.underlying28 rfl (by kernel_rfl)) rfl ?_
       exact ⟨_, by first | rfl | (simp [errW_none, errW_some] <;> rfl) | (simp [*, errW_none, errW_some] <;> rfl), by (with_reducible repeat (first | apply Kd.R_alloc | apply Kd.R_drewN | apply Kd.R_drew)); exact Kd.R_mono (Kd.R_far (p := ⟨gb262, 1, none⟩) (Kd.R_far (p := ⟨gb262, 0, none⟩) (Kd.R_far (p := ⟨gb261, 0, none⟩) (Kd.R_far (p := ⟨gb261, 1, none⟩) (Kd.R_types (Kd.R_types HO269.out BK261.out (by decide)) BK262.out (by decide)) (fun _ hk => hk.1.2) (.slice Ao2 y267.length co2)) (fun _ hk => hk.1.2) (.bool false)) (fun _ hk => hk.2) (.bool false)) (fun _ hk => hk.2) (.slice Ao2 y267.length co2)) (fun _ hk => hk.1.1), by repeat (first | (with_reducible first | exact HB.out | apply below_alloc | apply pw_below_drewN | apply below_drew1 | refine below_set ?_ GE261.out | refine below_set ?_ GE262.out) | exact HB.out), by repeat (first | (with_reducible first | exact HK.out | apply Kept.alloc | apply Kept.drewN | apply Kept.drew | refine Kept.setCell ?_ (.inr GW261.out) _ | refine Kept.setCell ?_ (.inr GW262.out) _) | exact HK.out)⟩
      ·replace c27 := Bool.eq_false_iff.mpr c27
       subst c27
       have H1 : (some (false, y267)) = some (r1, r2) := by rw [if_neg (show ¬ (false = true) by decide)] at H; exact H
       clear H
       have H := H1
       clear H1
       simp only [Option.some.injEq, Prod.mk.injEq] at H
       obtain ⟨rfl, rfl⟩ := H
       have hnb32 := NB261_262.out
       have hnc32 := NB262_261.out
       have hcz33_0 : wr.cell? ⟨gb261, 0, none⟩ = some (.bool false) := (blk_cell BK261.out 0).trans rfl
       have hcz33_1 : wr.cell? ⟨gb261, 1, none⟩ = some (.slice Ao2 l0_1.length co2) := (blk_cell BK261.out 1).trans rfl
       have hfz33_0 := blk_frozen BK261.out 0
       have hfz33_1 := blk_frozen BK261.out 1
       have q34 : (x3_1 : Int) ≤ ((l0_1.length : Int) : Int) := of_decide_eq_true (by first | (with_reducible assumption) | assumption)
       obtain ⟨i034, hi034, _, hsz34, _⟩ := info_parts info3
       have hcut34 := cut_to (P := Try.prog) 26 3 .i64 Try.underlying26 hi034 Ao2 l0_1.length co2 x3_1 (of_decide_eq_true (by first | (with_reducible assumption) | assumption)) q34 (Kd.R_reads' HO_262001.out).2.1
       have hr34 := Kd.R_take (m := (x3_1 : Int).toNat) HO_262001.out (by omega)
       have hy34 : y267.length = (x3_1 : Int).toNat := (by rw [Ny267.out, List.length_take]; omega)
       rw [← Ny267.out] at hr34
       rw [← hy34] at hr34 hcut34
       clear hy34 hi034 hsz34 HO_262001
       have HO269 := Aside0.mk hr34
       clear hr34
       replace q34 := eq_true q34
       have hcz35_0 : wr.cell? ⟨gb262, 0, none⟩ = some (.bool false) := (blk_cell BK262.out 0).trans rfl
       have hcz35_1 : wr.cell? ⟨gb262, 1, none⟩ = some (.slice none 0 0) := (blk_cell BK262.out 1).trans rfl
       have hfz35_0 := blk_frozen BK262.out 0
       have hfz35_1 := blk_frozen BK262.out 1
       go_wp2
       refine bodyPost_ret (results_cell_row rfl _ _ gb262 28 #[.bool false, .slice Ao2 y267.length co2] (0, 0) _ rfl (by (with_reducible repeat (first | refine blk_drewN ?_ _ | refine blk_drew ?_ | refine blk_alloc ?_ _)); refine blk_put (cs := #[.bool false, .slice none 0 0]) ?_ 1 _ rfl; (with_reducible repeat (first | refine blk_drewN ?_ _ | refine blk_drew ?_ | refine blk_alloc ?_ _)); refine blk_put (cs := #[.bool false, .slice none 0 0]) ?_ 0 _ rfl; (with_reducible repeat (first | refine blk_drewN ?_ _ | refine blk_drew ?_ | refine blk_alloc ?_ _)); refine blk_far ?_ NB262_261.out _; (with_reducible repeat (first | refine blk_drewN ?_ _ | refine blk_drew ?_ | refine blk_alloc ?_ _)); refine blk_far ?_ NB262_261.out _; (with_reducible repeat (first | refine blk_drewN ?_ _ | refine blk_drew ?_ | refine blk_alloc ?_ _)); exact BK262.out) Try.underlying28 rfl (by kernel_rfl)) rfl ?_
       exact ⟨_, by first | rfl | (simp [errW_none, errW_some] <;> rfl) | (simp [*, errW_none, errW_some] <;> rfl), by (with_reducible repeat (first | apply Kd.R_alloc | apply Kd.R_drewN | apply Kd.R_drew)); exact Kd.R_mono (Kd.R_far (p := ⟨gb262, 1, none⟩) (Kd.R_far (p := ⟨gb262, 0, none⟩) (Kd.R_far (p := ⟨gb261, 0, none⟩) (Kd.R_far (p := ⟨gb261, 1, none⟩) (Kd.R_types (Kd.R_types HO269.out BK261.out (by decide)) BK262.out (by decide)) (fun _ hk => hk.1.2) (.slice Ao2 y267.length co2)) (fun _ hk => hk.1.2) (.bool false)) (fun _ hk => hk.2) (.bool false)) (fun _ hk => hk.2) (.slice Ao2 y267.length co2)) (fun _ hk => hk.1.1), by repeat (first | (with_reducible first | exact HB.out | apply below_alloc | apply pw_below_drewN | apply below_drew1 | refine below_set ?_ GE261.out | refine below_set ?_ GE262.out) | exact HB.out), by repeat (first | (with_reducible first | exact HK.out | apply Kept.alloc | apply Kept.drewN | apply Kept.drew | refine Kept.setCell ?_ (.inr GW261.out) _ | refine Kept.setCell ?_ (.inr GW262.out) _) | exact HK.out)⟩
     ·rw [if_neg c26] at H
      exact absurd H (by simp)
    ·rw [if_neg c25] at H
     exact absurd H (by simp)

end Go.Proofs.Ytjnaebcdidilgaa.Q
