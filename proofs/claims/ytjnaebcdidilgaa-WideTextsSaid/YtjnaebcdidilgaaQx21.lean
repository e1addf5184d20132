/- Functions of the program as Lean functions, and their walks: printed by print.py as this session changed it (mkprint.py). Lean checks it. No condition. (halved) -/
import Derived.Test.YtjnaebcdidilgaaQx0
import Derived.Test.YtjnaebcdidilgaaQx14
namespace Go.Proofs.Ytjnaebcdidilgaa.Q
open Go.RowKit Go.Proofs.YtjnaebcdidilgaaW.PrintWords Go.Proofs.YtjnaebcdidilgaaW.PrintLast Go.Proofs.YtjnaebcdidilgaaW.PrintMore
attribute [local go_sem] max2_int min2_int max_two min_two max_three min_three max_four min_four   -- for this text's walks alone
attribute [local go_sem] Instr.field asAgg
set_option linter.unusedVariables false
set_option linter.unusedSimpArgs false

/-! ### lorgnetteref01_Parse: function 14 -/
mutual
def lorgnetteref01_Parse.j0 : Nat → ByteArray → Bool → Bool → Option (Bool × List Int × Bool)
 | 0, _, _, _ => none
 | k + 1, x0, x19, x338000 => if x19 = true then (some (x338000, ([] : List Int), false)) else (lorgnetteref01_Parse.l0 k x0 (([] : List Int)) (wrap64 ((x0.size : Int) - 1)))
def lorgnetteref01_Parse.l0 : Nat → ByteArray → List Int → Int → Option (Bool × List Int × Bool)
 | 0, _, _, _ => none
 | k + 1, x0, x5, x6 => if x6 ≥ 0 then (if 0 ≤ x6 then (if x6 < (x0.size : Int) then (if (bt x0 x6) < 48 then (some (false, ([] : List Int), false)) else (if (bt x0 x6) > 57 then (some (false, ([] : List Int), false)) else (if x5.length < 17592186044416 then (lorgnetteref01_Parse.l0 k x0 (x5 ++ [((bt x0 x6) - 48) % 256]) (wrap64 (x6 - 1))) else (none)))) else (none)) else (none)) else ((lorgnetteref01_trim.f k false x5).bind fun bt344 => (some (bt344.1, bt344.2, true)))
end
def lorgnetteref01_Parse.f (k : Nat) (a0 : ByteArray) : Option (Bool × List Int × Bool) := if a0.toList = ([] : List UInt8) then (lorgnetteref01_Parse.j0 k a0 true false) else (if (a0.size : Int) > 1 then (if 0 < (a0.size : Int) then (lorgnetteref01_Parse.j0 k a0 ((bt a0 0) == 48) false) else (none)) else (lorgnetteref01_Parse.j0 k a0 false false))
theorem lorgnetteref01_Parse.mono_l : ∀ k, (∀ y0 y1 y2, LeO (lorgnetteref01_Parse.j0 k y0 y1 y2) (lorgnetteref01_Parse.j0 (k + 1) y0 y1 y2)) ∧ (∀ y0 y1 y2, LeO (lorgnetteref01_Parse.l0 k y0 y1 y2) (lorgnetteref01_Parse.l0 (k + 1) y0 y1 y2))
 | 0 => ⟨fun _ _ _ r h => by simp [lorgnetteref01_Parse.j0] at h, fun _ _ _ r h => by simp [lorgnetteref01_Parse.l0] at h⟩
 | k + 1 => by
  obtain ⟨ih0, ih1⟩ := lorgnetteref01_Parse.mono_l k
  refine ⟨?_, ?_⟩
  ·intro y0 y1 y2
   unfold lorgnetteref01_Parse.j0
   repeat' first
   | (with_reducible exact ih0 _ _ _)
   | (with_reducible exact ih1 _ _ _)
   | (with_reducible exact lorgnetteref01_trim.mono _ _ _)
   | (with_reducible exact LeO.refl _)
   | (with_reducible exact LeO.none _)
   | (with_reducible refine LeO.ite ?_ ?_)
   | (with_reducible refine LeO.bind ?_ (fun _ => ?_))
  ·intro y0 y1 y2
   unfold lorgnetteref01_Parse.l0
   repeat' first
   | (with_reducible exact ih0 _ _ _)
   | (with_reducible exact ih1 _ _ _)
   | (with_reducible exact lorgnetteref01_trim.mono _ _ _)
   | (with_reducible exact LeO.refl _)
   | (with_reducible exact LeO.none _)
   | (with_reducible refine LeO.ite ?_ ?_)
   | (with_reducible refine LeO.bind ?_ (fun _ => ?_))
theorem lorgnetteref01_Parse.mono : ∀ a0 k, LeO (lorgnetteref01_Parse.f k a0) (lorgnetteref01_Parse.f (k + 1) a0) := by
 intro a0 k
 obtain ⟨ih0, ih1⟩ := lorgnetteref01_Parse.mono_l k
 unfold lorgnetteref01_Parse.f
 repeat' first
   | (with_reducible exact ih0 _ _ _)
   | (with_reducible exact ih1 _ _ _)
   | (with_reducible exact lorgnetteref01_trim.mono _ _ _)
   | (with_reducible exact LeO.refl _)
   | (with_reducible exact LeO.none _)
   | (with_reducible refine LeO.ite ?_ ?_)
   | (with_reducible refine LeO.bind ?_ (fun _ => ?_))
set_option maxHeartbeats 8000000 in
set_option maxRecDepth 100000 in
theorem lorgnetteref01_Parse.calls (k : Nat) (a0 : ByteArray) (r1 : Bool) (r2 : List Int) (r3 : Bool) (w : World) (h : lorgnetteref01_Parse.f k a0 = some (r1, r2, r3)) :
  Calls Try.prog 14 #[.string a0] w fun e w' => ∃ v1_ : Value, e = .returned (.tuple #[.agg #[.bool r1, v1_], .bool r3]) ∧ Kd.R (Kd.int .i64) 3 w' w.heap.size (fun _ => True) v1_ r2 ∧ Below w.heap.size w w' := by
 have hu28 := Try.underlying28
 have HB := Aside0.mk (Below.refl w.heap.size w)
 have H : (if a0.toList = ([] : List UInt8) then (lorgnetteref01_Parse.j0 k a0 true false) else (if (a0.size : Int) > 1 then (if 0 < (a0.size : Int) then (lorgnetteref01_Parse.j0 k a0 ((bt a0 0) == 48) false) else (none)) else (lorgnetteref01_Parse.j0 k a0 false false))) = some (r1, r2, r3) := h
 clear h
 have HC2 := Aside0.mk H
 clear H
 go_enter Try.func14, Try.ntmps14
 go_upto_region 2 with (first | ((with_reducible refine gate_dst (N := 2) rfl ?_); (try (refine gate_guard (by rfl) ?_; dsimp only)); refine box_event ?hg (N := 2) ?hd (cs := #[.bool false, .slice none 0 0]) (t := 28) ?hr ?_; (case hd => rfl); (case hg => rfl); (case hr => first | (go_simp; done) | (go_simp; rfl)); intro gb336 hg w3 hbox hb; have n0_ := Aside0.mk (below_step (bL HB) hb); have n1_ := Aside0.mk (hbox); have n2_ := Aside0.mk ((by rw [hg]; exact (below_size (bL HB)) : w.heap.size ≤ gb336)); have n3_ := Aside0.mk ((by rw [hg]; exact (below_size (bL HB)) : w.heap.size ≤ gb336)); clear HB; have HB := n0_; have BK336 := n1_; have GW336 := n2_; have GE336 := n3_; clear n0_ n1_ n2_ n3_; clear hb hbox hg) | ((with_reducible refine gate_dst (N := 4) rfl ?_); (try (refine gate_guard (by rfl) ?_; dsimp only)); refine box_event ?hg (N := 4) ?hd (cs := #[.bool false, .slice none 0 0]) (t := 28) ?hr ?_; (case hd => rfl); (case hg => rfl); (case hr => first | (go_simp; done) | (go_simp; rfl)); intro gb337 hg w4 hbox hb; have n0_ := blkB BK336 hb; have n1_ := Aside0.mk (below_step (bL HB) hb); have n2_ := Aside0.mk (hbox); have n3_ := Aside0.mk ((by rw [hg]; exact (below_size (bL HB)) : w.heap.size ≤ gb337)); have n4_ := Aside0.mk ((by rw [hg]; exact (below_size (bL HB)) : w.heap.size ≤ gb337)); have n5_ := blkL BK336 hg; have n6_ := blkG BK336 hg; clear BK336 HB; have BK336 := n0_; have HB := n1_; have BK337 := n2_; have GW337 := n3_; have GE337 := n4_; have NB336_337 := n5_; have NB337_336 := n6_; clear n0_ n1_ n2_ n3_ n4_ n5_ n6_; clear hb hbox hg; have hnb5 := NB337_336.out; have hnc5 := NB336_337.out; have hcz6_0 : w4.cell? ⟨gb337, 0, none⟩ = some (.bool false) := (blk_cell BK337.out 0).trans rfl; have hcz6_1 : w4.cell? ⟨gb337, 1, none⟩ = some (.slice none 0 0) := (blk_cell BK337.out 1).trans rfl; have hfz6_0 := blk_frozen BK337.out 0; have hfz6_1 := blk_frozen BK337.out 1))
 (try simp only [Act.put, List.setIfInBounds_toArray, List.set_cons_zero, List.set_cons_succ])
 go_cut [19] (fun v19 wc => ∃ (kq : Nat) (x19_1 : Bool), v19 = .bool x19_1 ∧ Aside0 (lorgnetteref01_Parse.j0 kq a0 x19_1 false = some (r1, r2, r3)) ∧ Aside0 (kq ≤ k) ∧ Aside0 (wc.heap[gb336]? = some (.cells #[.bool false, (.slice none 0 0)] 28 (0, 0))) ∧ Aside0 (wc.heap[gb337]? = some (.cells #[.bool false, (.slice none 0 0)] 28 (0, 0))) ∧ Aside0 (Below w.heap.size w wc))
 case first =>
  have H := HC2.out
  clear HC2
  by_cases c7 : a0.toList = ([] : List UInt8)
  ·rw [if_pos c7] at H
   have c7b0 : (a0.toList == ([] : List UInt8)) = true := beq_iff_eq.mpr c7
   have c7b1 : (a0.toList != ([] : List UInt8)) = false := bne_eq_false_iff_eq.mpr c7
   clear c7
   (first | rw [c7b0] | (simp only [i64_w, i32_w]; rw [c7b0]) | skip)
   have H' := Aside0.mk H
   clear H
   go_wp2
   go_meet
   case rel => exact ⟨_, (true), (by first | rfl | (simp; done) | (simp [*]; done)), H', ⟨by first | omega | exact Nat.le_refl _⟩, ⟨by (with_reducible repeat (first | refine blk_drewN ?_ _ | refine blk_drew ?_ | refine blk_alloc ?_ _)); refine blk_far ?_ NB336_337.out _; (with_reducible repeat (first | refine blk_drewN ?_ _ | refine blk_drew ?_ | refine blk_alloc ?_ _)); refine blk_far ?_ NB336_337.out _; (with_reducible repeat (first | refine blk_drewN ?_ _ | refine blk_drew ?_ | refine blk_alloc ?_ _)); exact BK336.out⟩, ⟨by (with_reducible repeat (first | refine blk_drewN ?_ _ | refine blk_drew ?_ | refine blk_alloc ?_ _)); refine blk_put (cs := #[.bool false, .slice none 0 0]) ?_ 1 _ rfl; (with_reducible repeat (first | refine blk_drewN ?_ _ | refine blk_drew ?_ | refine blk_alloc ?_ _)); refine blk_put (cs := #[.bool false, .slice none 0 0]) ?_ 0 _ rfl; (with_reducible repeat (first | refine blk_drewN ?_ _ | refine blk_drew ?_ | refine blk_alloc ?_ _)); exact BK337.out⟩, ⟨by repeat (first | (with_reducible first | exact HB.out | apply below_alloc | apply pw_below_drewN | apply below_drew1 | refine below_set ?_ GE336.out | refine below_set ?_ GE337.out) | exact HB.out)⟩⟩
  ·rw [if_neg c7] at H
   have c7b0 : (a0.toList == ([] : List UInt8)) = false := beq_eq_false_iff_ne.mpr c7
   have c7b1 : (a0.toList != ([] : List UInt8)) = true := bne_iff_ne.mpr c7
   (first | rw [c7b0] | (simp only [i64_w, i32_w]; rw [c7b0]) | skip)
   by_cases c8 : (a0.size : Int) > 1
   ·rw [if_pos c8] at H
    have c8b0 : decide (1 < (a0.size : Int)) = true := decide_eq_true c8
    have c8b1 : decide (1 < a0.size) = true := decide_eq_true (by omega)
    clear c8
    by_cases c9 : 0 < (a0.size : Int)
    ·rw [if_pos c9] at H
     have c9b0 : decide (0 < (a0.size : Int)) = true := decide_eq_true c9
     have c9b1 : decide (0 < a0.size) = true := decide_eq_true (by omega)
     clear c9
     have H' := Aside0.mk H
     clear H
     have p10 : 0 ≤ (0 : Int) := (by omega)
     have q10 : 0 < a0.size := (by have : (0 : Int) < (a0.size : Int) := of_decide_eq_true (by first | (with_reducible assumption) | assumption); omega)
     have hx10 : ∀ h : 0 < a0.size, ((a0[0]'h).toNat : Int) = bt a0 0 := bt_at a0 0
     clear p10
     have qi10 : (0 < (a0.size : Int)) = True := eq_true (of_decide_eq_true (by first | (with_reducible assumption) | assumption))
     replace q10 := eq_true q10
     go_wp2
     go_meet
     case rel => exact ⟨_, (((bt a0 0) == 48)), (by first | rfl | (simp; done) | (simp [*]; done)), H', ⟨by first | omega | exact Nat.le_refl _⟩, ⟨by (with_reducible repeat (first | refine blk_drewN ?_ _ | refine blk_drew ?_ | refine blk_alloc ?_ _)); refine blk_far ?_ NB336_337.out _; (with_reducible repeat (first | refine blk_drewN ?_ _ | refine blk_drew ?_ | refine blk_alloc ?_ _)); refine blk_far ?_ NB336_337.out _; (with_reducible repeat (first | refine blk_drewN ?_ _ | refine blk_drew ?_ | refine blk_alloc ?_ _)); exact BK336.out⟩, ⟨by (with_reducible repeat (first | refine blk_drewN ?_ _ | refine blk_drew ?_ | refine blk_alloc ?_ _)); refine blk_put (cs := #[.bool false, .slice none 0 0]) ?_ 1 _ rfl; (with_reducible repeat (first | refine blk_drewN ?_ _ | refine blk_drew ?_ | refine blk_alloc ?_ _)); refine blk_put (cs := #[.bool false, .slice none 0 0]) ?_ 0 _ rfl; (with_reducible repeat (first | refine blk_drewN ?_ _ | refine blk_drew ?_ | refine blk_alloc ?_ _)); exact BK337.out⟩, ⟨by repeat (first | (with_reducible first | exact HB.out | apply below_alloc | apply pw_below_drewN | apply below_drew1 | refine below_set ?_ GE336.out | refine below_set ?_ GE337.out) | exact HB.out)⟩⟩
    ·rw [if_neg c9] at H
     exact absurd H (by simp)
   ·rw [if_neg c8] at H
    have c8b0 : decide (1 < (a0.size : Int)) = false := decide_eq_false c8
    have c8b1 : decide (1 < a0.size) = false := decide_eq_false (by omega)
    clear c8
    have H' := Aside0.mk H
    clear H
    go_wp2
    go_meet
    case rel => exact ⟨_, (false), (by first | rfl | (simp; done) | (simp [*]; done)), H', ⟨by first | omega | exact Nat.le_refl _⟩, ⟨by (with_reducible repeat (first | refine blk_drewN ?_ _ | refine blk_drew ?_ | refine blk_alloc ?_ _)); refine blk_far ?_ NB336_337.out _; (with_reducible repeat (first | refine blk_drewN ?_ _ | refine blk_drew ?_ | refine blk_alloc ?_ _)); refine blk_far ?_ NB336_337.out _; (with_reducible repeat (first | refine blk_drewN ?_ _ | refine blk_drew ?_ | refine blk_alloc ?_ _)); exact BK336.out⟩, ⟨by (with_reducible repeat (first | refine blk_drewN ?_ _ | refine blk_drew ?_ | refine blk_alloc ?_ _)); refine blk_put (cs := #[.bool false, .slice none 0 0]) ?_ 1 _ rfl; (with_reducible repeat (first | refine blk_drewN ?_ _ | refine blk_drew ?_ | refine blk_alloc ?_ _)); refine blk_put (cs := #[.bool false, .slice none 0 0]) ?_ 0 _ rfl; (with_reducible repeat (first | refine blk_drewN ?_ _ | refine blk_drew ?_ | refine blk_alloc ?_ _)); exact BK337.out⟩, ⟨by repeat (first | (with_reducible first | exact HB.out | apply below_alloc | apply pw_below_drewN | apply below_drew1 | refine below_set ?_ GE336.out | refine below_set ?_ GE337.out) | exact HB.out)⟩⟩
 case rest =>
  clear HC2
  try clear c1
  try clear p1
  try clear q1
  try clear hx1
  try clear qi1
  try clear p2
  try clear c5
  try clear c7
  try clear c7b0
  try clear c7b1
  try clear c8
  try clear c8b0
  try clear c8b1
  try clear c9
  try clear c9b0
  try clear c9b1
  try clear p10
  try clear q10
  try clear hx10
  try clear qi10
  try clear hcz6_0
  try clear hcz6_1
  try clear hfz6_0
  try clear hfz6_1
  try clear p10
  try clear q10
  obtain ⟨kq, x19_1, rfl, HA, HJ1, BK336, BK337, HB⟩ := hcut
  cases kq with
  | zero => exact absurd HA.out (by simp [lorgnetteref01_Parse.j0])
  | succ kj1 =>
   have H := HA.out
   clear HA
   simp only [lorgnetteref01_Parse.j0] at H
   by_cases c11 : x19_1 = true
   ·subst c11
    have H1 : (some (false, ([] : List Int), false)) = some (r1, r2, r3) := by rw [if_pos rfl] at H; exact H
    clear H
    have H := H1
    clear H1
    simp only [Option.some.injEq, Prod.mk.injEq] at H
    obtain ⟨rfl, rfl, rfl⟩ := H
    have hnb12 := NB337_336.out
    have hnc12 := NB336_337.out
    have hcz13_0 : wc.cell? ⟨gb337, 0, none⟩ = some (.bool false) := (blk_cell BK337.out 0).trans rfl
    have hcz13_1 : wc.cell? ⟨gb337, 1, none⟩ = some (.slice none 0 0) := (blk_cell BK337.out 1).trans rfl
    have hfz13_0 := blk_frozen BK337.out 0
    have hfz13_1 := blk_frozen BK337.out 1
    have hcz14_0 : wc.cell? ⟨gb336, 0, none⟩ = some (.bool false) := (blk_cell BK336.out 0).trans rfl
    have hcz14_1 : wc.cell? ⟨gb336, 1, none⟩ = some (.slice none 0 0) := (blk_cell BK336.out 1).trans rfl
    have hfz14_0 := blk_frozen BK336.out 0
    have hfz14_1 := blk_frozen BK336.out 1
    go_wp2
    refine bodyPost_ret (results_ct rfl _ _ gb336 28 #[.bool false, .slice none 0 0] (0, 0) _ rfl (by (with_reducible repeat (first | refine blk_drewN ?_ _ | refine blk_drew ?_ | refine blk_alloc ?_ _)); refine blk_put (cs := #[.bool false, .slice none 0 0]) ?_ 1 _ rfl; (with_reducible repeat (first | refine blk_drewN ?_ _ | refine blk_drew ?_ | refine blk_alloc ?_ _)); refine blk_put (cs := #[.bool false, .slice none 0 0]) ?_ 0 _ rfl; (with_reducible repeat (first | refine blk_drewN ?_ _ | refine blk_drew ?_ | refine blk_alloc ?_ _)); exact BK336.out) Try.underlying28 rfl (by kernel_rfl)) rfl ?_
    exact ⟨_, by first | rfl | (simp [errW_none, errW_some] <;> rfl) | (simp [*, errW_none, errW_some] <;> rfl), by first | exact Kd.R_nil _ _ _ _ _ | exact Kd.N_nil _ _ _ _ _ | exact Kd.V_nil _ _ _ _ _ | exact Kd.Q_nil _ _ _ _ _ | exact Kd.S_nil _ _ _ _ _, by repeat (first | (with_reducible first | exact HB.out | apply below_alloc | apply pw_below_drewN | apply below_drew1 | refine below_set ?_ GE336.out | refine below_set ?_ GE337.out) | exact HB.out)⟩
   ·replace c11 := Bool.eq_false_iff.mpr c11
    subst c11
    have H1 : (lorgnetteref01_Parse.l0 kj1 a0 (([] : List Int)) (wrap64 ((a0.size : Int) - 1))) = some (r1, r2, r3) := by rw [if_neg (show ¬ (false = true) by decide)] at H; exact H
    clear H
    have H := H1
    clear H1
    obtain ⟨y338, hy338⟩ : ∃ y_ : List Int, y_ = (([] : List Int)) := ⟨_, rfl⟩
    replace H : (lorgnetteref01_Parse.l0 kj1 a0 y338 (wrap64 ((a0.size : Int) - 1))) = some (r1, r2, r3) := by first | (rw [hy338]; with_reducible exact H) | (have H2_ := (Option.bind_some _ _).symm.trans H; rw [hy338]; with_reducible exact H2_) | (have H2_ := (Option.bind_some _ _).symm.trans H; with_reducible exact H2_) | with_reducible exact H | (rw [hy338]; exact H) | exact H
    have Ny338 := Aside0.mk hy338
    clear hy338
    have H' := Aside0.mk H
    clear H
    go_wp2_with (first | ((with_reducible refine gate_dst (N := 21) rfl ?_); (try (refine gate_guard (by rfl) ?_; dsimp only)); refine Kd.R_lit (Kd.int .i64) _ 3 ?hg (N := 21) ?hd (xs := ([] : List Int)) (inner := []) (ok := fun _ => True) (okp := fun _ => True) ?hr ?hp (fun _ hk => hk) trivial (Below.refl _ _) (Nat.le_refl _) (by simp) ?_; (case hd => rfl); (case hg => rfl); (case hr => first | (go_simp; done) | (go_simp; rfl)); (case hp => exact (Reps.none _ _)); intro v339 w15 ho16 hb hg_ hnew_; clear hg_ hnew_; (first | rw [← Ny338.out] at ho16 | (simp only [Int.reduceToNat] at ho16; rw [← Ny338.out] at ho16)); have n0_ := Aside0.mk (Kd.R_lower ho16 (below_size (bL HB))); have n1_ := blkB BK336 hb; have n2_ := blkB BK337 hb; have n3_ := Aside0.mk (below_step (bL HB) hb); clear BK336 BK337 HB; have HO340 := n0_; have BK336 := n1_; have BK337 := n2_; have HB := n3_; clear n0_ n1_ n2_ n3_; clear hb ho16))
    go_loopg [5, 6] kj1 (fun kq v5 v6 w' => ∃ (x5_2 : List Int) (x6_2 : Int) (x337000_2 : Bool), v6 = .int .i64 x6_2 ∧ Aside0 (lorgnetteref01_Parse.l0 kq a0 x5_2 x6_2 = some (r1, r2, r3)) ∧ Aside0 (kq ≤ kj1) ∧ Aside0 (Kd.R (Kd.int .i64) 3 w' w.heap.size (fun _ => True) v5 x5_2) ∧ Aside0 (w'.heap[gb336]? = some (.cells #[.bool x337000_2, (.slice none 0 0)] 28 (0, 0))) ∧ Aside0 (w'.heap[gb337]? = some (.cells #[.bool false, (.slice none 0 0)] 28 (0, 0))) ∧ Aside0 (Below w.heap.size w w'))
    case atStart => exact ⟨(y338), (wrap64 ((a0.size : Int) - 1)), (false), (by first | rfl | (simp; done) | (simp [*]; done)), H', ⟨Nat.le_refl _⟩, ⟨by (with_reducible repeat (first | apply Kd.R_alloc | apply Kd.R_drewN | apply Kd.R_drew)); exact HO340.out⟩, ⟨bN BK336⟩, ⟨bN BK337⟩, ⟨by repeat (first | (with_reducible first | exact HB.out | apply below_alloc | apply pw_below_drewN | apply below_drew1 | refine below_set ?_ GE336.out | refine below_set ?_ GE337.out) | exact HB.out)⟩⟩
    case round =>
     clear H'
     try clear c1
     try clear p1
     try clear q1
     try clear hx1
     try clear qi1
     try clear p2
     try clear c5
     try clear p6
     try clear c7
     try clear c7b0
     try clear c7b1
     try clear c8
     try clear c8b0
     try clear c8b1
     try clear c9
     try clear c9b0
     try clear c9b1
     try clear p10
     try clear q10
     try clear hx10
     try clear qi10
     try clear c11
     try clear c12
     try clear c14
     try clear hcz13_0
     try clear hcz13_1
     try clear hcz14_0
     try clear hcz14_1
     try clear hcz6_0
     try clear hcz6_1
     try clear hfz13_0
     try clear hfz13_1
     try clear hfz14_0
     try clear hfz14_1
     try clear hfz6_0
     try clear hfz6_1
     try clear p1
     try clear p10
     try clear p2
     try clear q1
     try clear q10
     obtain ⟨x5_2, x6_2, x337000_2, rfl, HA, HK2, HO_5, BK336, BK337, HB⟩ := hrel
     cases gk with
     | zero => exact absurd HA.out (by simp [lorgnetteref01_Parse.l0])
     | succ k2 =>
      have H := HA.out
      clear HA
      simp only [lorgnetteref01_Parse.l0] at H
      by_cases c17 : x6_2 ≥ 0
      ·rw [if_pos c17] at H
       have c17b0 : decide (0 ≤ x6_2) = true := decide_eq_true c17
       clear c17
       by_cases c18 : 0 ≤ x6_2
       ·rw [if_pos c18] at H
        have c18b0 : decide (0 ≤ x6_2) = true := decide_eq_true c18
        clear c18
        by_cases c19 : x6_2 < (a0.size : Int)
        ·rw [if_pos c19] at H
         have c19b0 : decide (x6_2 < (a0.size : Int)) = true := decide_eq_true c19
         clear c19
         by_cases c21 : (bt a0 x6_2) < 48
         ·rw [if_pos c21] at H
          have c21b0 : decide ((bt a0 x6_2) < 48) = true := decide_eq_true c21
          clear c21
          simp only [Option.some.injEq, Prod.mk.injEq] at H
          obtain ⟨rfl, rfl, rfl⟩ := H
          have p20 : 0 ≤ (x6_2 : Int) := of_decide_eq_true (by first | (with_reducible assumption) | assumption)
          have q20 : x6_2 < (a0.size : Int) := of_decide_eq_true (by first | (with_reducible assumption) | assumption)
          have hx20 := bt_at a0 x6_2
          replace p20 := eq_true p20
          replace q20 := eq_true q20
          have hnb22 := NB336_337.out
          have hnc22 := NB337_336.out
          have hcz23_0 : wr.cell? ⟨gb336, 0, none⟩ = some (.bool x337000_2) := (blk_cell BK336.out 0).trans rfl
          have hcz23_1 : wr.cell? ⟨gb336, 1, none⟩ = some (.slice none 0 0) := (blk_cell BK336.out 1).trans rfl
          have hfz23_0 := blk_frozen BK336.out 0
          have hfz23_1 := blk_frozen BK336.out 1
          go_wp2
          refine bodyPost_ret (results_ct rfl _ _ gb336 28 #[.bool false, .slice none 0 0] (0, 0) _ rfl (by (with_reducible repeat (first | refine blk_drewN ?_ _ | refine blk_drew ?_ | refine blk_alloc ?_ _)); refine blk_put (cs := #[.bool false, .slice none 0 0]) ?_ 1 _ rfl; (with_reducible repeat (first | refine blk_drewN ?_ _ | refine blk_drew ?_ | refine blk_alloc ?_ _)); refine blk_put (cs := #[.bool x337000_2, .slice none 0 0]) ?_ 0 _ rfl; (with_reducible repeat (first | refine blk_drewN ?_ _ | refine blk_drew ?_ | refine blk_alloc ?_ _)); exact BK336.out) Try.underlying28 rfl (by kernel_rfl)) rfl ?_
          exact ⟨_, by first | rfl | (simp [errW_none, errW_some] <;> rfl) | (simp [*, errW_none, errW_some] <;> rfl), by first | exact Kd.R_nil _ _ _ _ _ | exact Kd.N_nil _ _ _ _ _ | exact Kd.V_nil _ _ _ _ _ | exact Kd.Q_nil _ _ _ _ _ | exact Kd.S_nil _ _ _ _ _, by repeat (first | (with_reducible first | exact HB.out | apply below_alloc | apply pw_below_drewN | apply below_drew1 | refine below_set ?_ GE336.out | refine below_set ?_ GE337.out) | exact HB.out)⟩
         ·rw [if_neg c21] at H
          have c21b0 : decide ((bt a0 x6_2) < 48) = false := decide_eq_false c21
          clear c21
          by_cases c25 : (bt a0 x6_2) > 57
          ·rw [if_pos c25] at H
           have c25b0 : decide (57 < (bt a0 x6_2)) = true := decide_eq_true c25
           clear c25
           simp only [Option.some.injEq, Prod.mk.injEq] at H
           obtain ⟨rfl, rfl, rfl⟩ := H
           have p20 : 0 ≤ (x6_2 : Int) := of_decide_eq_true (by first | (with_reducible assumption) | assumption)
           have q20 : x6_2 < (a0.size : Int) := of_decide_eq_true (by first | (with_reducible assumption) | assumption)
           have hx20 := bt_at a0 x6_2
           replace p20 := eq_true p20
           replace q20 := eq_true q20
           have p24 : 0 ≤ (x6_2 : Int) := of_decide_eq_true (by first | (with_reducible assumption) | assumption)
           have q24 : x6_2 < (a0.size : Int) := of_decide_eq_true (by first | (with_reducible assumption) | assumption)
           have hx24 := bt_at a0 x6_2
           replace p24 := eq_true p24
           replace q24 := eq_true q24
           have hnb26 := NB336_337.out
           have hnc26 := NB337_336.out
           have hcz27_0 : wr.cell? ⟨gb336, 0, none⟩ = some (.bool x337000_2) := (blk_cell BK336.out 0).trans rfl
           have hcz27_1 : wr.cell? ⟨gb336, 1, none⟩ = some (.slice none 0 0) := (blk_cell BK336.out 1).trans rfl
           have hfz27_0 := blk_frozen BK336.out 0
           have hfz27_1 := blk_frozen BK336.out 1
           go_wp2
           refine bodyPost_ret (results_ct rfl _ _ gb336 28 #[.bool false, .slice none 0 0] (0, 0) _ rfl (by (with_reducible repeat (first | refine blk_drewN ?_ _ | refine blk_drew ?_ | refine blk_alloc ?_ _)); refine blk_put (cs := #[.bool false, .slice none 0 0]) ?_ 1 _ rfl; (with_reducible repeat (first | refine blk_drewN ?_ _ | refine blk_drew ?_ | refine blk_alloc ?_ _)); refine blk_put (cs := #[.bool x337000_2, .slice none 0 0]) ?_ 0 _ rfl; (with_reducible repeat (first | refine blk_drewN ?_ _ | refine blk_drew ?_ | refine blk_alloc ?_ _)); exact BK336.out) Try.underlying28 rfl (by kernel_rfl)) rfl ?_
           exact ⟨_, by first | rfl | (simp [errW_none, errW_some] <;> rfl) | (simp [*, errW_none, errW_some] <;> rfl), by first | exact Kd.R_nil _ _ _ _ _ | exact Kd.N_nil _ _ _ _ _ | exact Kd.V_nil _ _ _ _ _ | exact Kd.Q_nil _ _ _ _ _ | exact Kd.S_nil _ _ _ _ _, by repeat (first | (with_reducible first | exact HB.out | apply below_alloc | apply pw_below_drewN | apply below_drew1 | refine below_set ?_ GE336.out | refine below_set ?_ GE337.out) | exact HB.out)⟩
          ·rw [if_neg c25] at H
           have c25b0 : decide (57 < (bt a0 x6_2)) = false := decide_eq_false c25
           clear c25
           by_cases c29 : x5_2.length < 17592186044416
           ·rw [if_pos c29] at H
            have LMc29 := Aside0.mk c29
            clear c29
            obtain ⟨y341, hy341⟩ : ∃ y_ : List Int, y_ = (x5_2 ++ [((bt a0 x6_2) - 48) % 256]) := ⟨_, rfl⟩
            replace H : (lorgnetteref01_Parse.l0 k2 a0 y341 (wrap64 (x6_2 - 1))) = some (r1, r2, r3) := by first | (rw [hy341]; with_reducible exact H) | (have H2_ := (Option.bind_some _ _).symm.trans H; rw [hy341]; with_reducible exact H2_) | (have H2_ := (Option.bind_some _ _).symm.trans H; with_reducible exact H2_) | with_reducible exact H | (rw [hy341]; exact H) | exact H
            have Ny341 := Aside0.mk hy341
            clear hy341
            have H' := Aside0.mk H
            clear H
            have p20 : 0 ≤ (x6_2 : Int) := of_decide_eq_true (by first | (with_reducible assumption) | assumption)
            have q20 : x6_2 < (a0.size : Int) := of_decide_eq_true (by first | (with_reducible assumption) | assumption)
            have hx20 := bt_at a0 x6_2
            replace p20 := eq_true p20
            replace q20 := eq_true q20
            have p24 : 0 ≤ (x6_2 : Int) := of_decide_eq_true (by first | (with_reducible assumption) | assumption)
            have q24 : x6_2 < (a0.size : Int) := of_decide_eq_true (by first | (with_reducible assumption) | assumption)
            have hx24 := bt_at a0 x6_2
            replace p24 := eq_true p24
            replace q24 := eq_true q24
            have p28 : 0 ≤ (x6_2 : Int) := of_decide_eq_true (by first | (with_reducible assumption) | assumption)
            have q28 : x6_2 < (a0.size : Int) := of_decide_eq_true (by first | (with_reducible assumption) | assumption)
            have hx28 := bt_at a0 x6_2
            replace p28 := eq_true p28
            replace q28 := eq_true q28
            go_wp2_with (first | ((with_reducible refine gate_builtin (b := .append) (xs := #[.tmp 40, .tmp 46]) rfl ?_); (try (refine gate_guard (by rfl) ?_; dsimp only)); at_builtin; refine Kd.R_append (Kd.int .i64) (w0 := w) w.heap.size rfl (.tmp 40) (.tmp 46) 26 3 (.int .i64 0) 8 rfl Try.underlying26 info3 rfl (by decide) (by omega) u5 x5_2 (((bt a0 x6_2) - 48) % 256) [.int .i64 (((bt a0 x6_2) - 48) % 256)] (fun _ => True) (fun _ => False) rfl rfl ?aP (fun _ hk => hk.elim) ?aF ?aO ?aB ?aS ?aL ?_; (case aP => exact rfl); (case aB => exact (bL HB)); (case aF => exact (fun _ _ => trivial)); (case aO => exact (rN HO_5)); (case aS => exact (below_size (bL HB))); (case aL => have := LMc29.out; omega); intro v342 w30 ho hb hg hat; rw [← Ny341.out] at ho; have n0_ := Aside0.mk (blk_grown (g := gb336) (o := .cells #[.bool x337000_2, .slice none 0 0] 28 (0, 0)) (bN BK336) hg (Kd.R_ne HO_5.out BK336.out (by decide))); have n1_ := Aside0.mk (blk_grown (g := gb337) (o := .cells #[.bool false, .slice none 0 0] 28 (0, 0)) (bN BK337) hg (Kd.R_ne HO_5.out BK337.out (by decide))); have n2_ := Aside0.mk (hb); have n3_ := Aside0.mk (ho); clear BK336 BK337 HB HO_5; have BK336 := n0_; have BK337 := n1_; have HB := n2_; have HO343 := n3_; clear n0_ n1_ n2_ n3_; clear ho hb hg hat))
            go_roundg k2
            case measure => have := HJ1.out; have := HK2.out; omega
            case rel => exact ⟨(y341), (wrap64 (x6_2 - 1)), (x337000_2), (by first | rfl | (simp; done) | (simp [*]; done)), H', ⟨by have := HJ1.out; have := HK2.out; omega⟩, ⟨by (with_reducible repeat (first | apply Kd.R_alloc | apply Kd.R_drewN | apply Kd.R_drew)); exact HO343.out⟩, ⟨bN BK336⟩, ⟨bN BK337⟩, ⟨by repeat (first | (with_reducible first | exact HB.out | apply below_alloc | apply pw_below_drewN | apply below_drew1 | refine below_set ?_ GE336.out | refine below_set ?_ GE337.out) | exact HB.out)⟩⟩
           ·rw [if_neg c29] at H
            exact absurd H (by simp)
        ·rw [if_neg c19] at H
         exact absurd H (by simp)
       ·rw [if_neg c18] at H
        exact absurd H (by simp)
      ·rw [if_neg c17] at H
       have c17b0 : decide (0 ≤ x6_2) = false := decide_eq_false c17
       clear c17
       replace H := Option.bind_eq_some_iff.mp H
       obtain ⟨⟨t344, t345⟩, A310, H⟩ := H
       replace H : (some (t344, t345, true)) = some (r1, r2, r3) := H
       have A31 := Aside0.mk A310
       clear A310
       simp only [Option.some.injEq, Prod.mk.injEq] at H
       obtain ⟨rfl, rfl, rfl⟩ := H
       obtain ⟨Ao32, co32, eo32⟩ := Kd.R_slice HO_5.out
       subst eo32
       go_wp2_with (first | ((with_reducible refine gate_callee (f := 30) rfl ?_); refine goesL_ (some 50) rfl rfl Try.func30 (by kernel_rfl) rfl #[.agg #[.bool false, .slice Ao32 x5_2.length co32]] rfl (by (try simp only [List.map_toArray, List.map_cons, List.map_nil]); first | done | rfl | (simp only [List.length_drop, List.length_take]; rfl) | (go_simp; simp only [u8_w, w64_u8]; done) | (go_simp; simp only [u8_w, w64_u8]; rfl)) ?_; (with_reducible refine (lorgnetteref01_trim.calls k2 false (fun k_ => some k_ = (.slice Ao32 x5_2.length co32 : Value).ownBlock) (.slice Ao32 x5_2.length co32) x5_2 t344 t345 w _ ?side1 ?side2 A31.out).mono ?_); (case side1 => repeat (first | (with_reducible first | exact HB.out | apply below_alloc | apply pw_below_drewN | apply below_drew1 | refine below_set ?_ GE336.out | refine below_set ?_ GE337.out) | exact HB.out)); (case side2 => exact Kd.R_tight rfl HO_5.out); rintro e w33 ⟨v346, rfl, ho0, hb, hkp⟩; refine ⟨_, rfl, ?_⟩; have n0_ := Aside0.mk (blk_kept (bN BK336) hkp (fun hs_ => (fun e_ => (Kd.R_ne HO_5.out BK336.out (by decide)) e_) hs_)); have n1_ := Aside0.mk (blk_kept (bN BK337) hkp (fun hs_ => (fun e_ => (Kd.R_ne HO_5.out BK337.out (by decide)) e_) hs_)); have n2_ := Aside0.mk (Kd.R_mono (ok' := fun k_ => True) ho0 (fun k_ hk_ => trivial)); have n3_ := Aside0.mk (hb); clear BK336 BK337 HB HO_5; have BK336 := n0_; have BK337 := n1_; have HO347 := n2_; have HB := n3_; clear n0_ n1_ n2_ n3_; (try clear hb); (try clear hkp); (try clear ho0); have hnb34 := NB336_337.out; have hnc34 := NB337_336.out; have hcz35_0 : w33.cell? ⟨gb336, 0, none⟩ = some (.bool x337000_2) := (blk_cell BK336.out 0).trans rfl; have hcz35_1 : w33.cell? ⟨gb336, 1, none⟩ = some (.slice none 0 0) := (blk_cell BK336.out 1).trans rfl; have hfz35_0 := blk_frozen BK336.out 0; have hfz35_1 := blk_frozen BK336.out 1; obtain ⟨Ao36, co36, eo36⟩ := Kd.R_slice HO347.out; subst eo36))
       refine bodyPost_ret (results_ct rfl _ _ gb336 28 #[.bool t344, .slice Ao36 t345.length co36] (0, 0) _ rfl (by (with_reducible repeat (first | refine blk_drewN ?_ _ | refine blk_drew ?_ | refine blk_alloc ?_ _)); refine blk_put (cs := #[.bool t344, .slice none 0 0]) ?_ 1 _ rfl; (with_reducible repeat (first | refine blk_drewN ?_ _ | refine blk_drew ?_ | refine blk_alloc ?_ _)); refine blk_put (cs := #[.bool x337000_2, .slice none 0 0]) ?_ 0 _ rfl; (with_reducible repeat (first | refine blk_drewN ?_ _ | refine blk_drew ?_ | refine blk_alloc ?_ _)); exact BK336.out) Try.underlying28 rfl (by kernel_rfl)) rfl ?_
       exact ⟨_, by first | rfl | (simp [errW_none, errW_some] <;> rfl) | (simp [*, errW_none, errW_some] <;> rfl), by (with_reducible repeat (first | apply Kd.R_alloc | apply Kd.R_drewN | apply Kd.R_drew)); exact Kd.R_mono (Kd.R_far (p := ⟨gb336, 1, none⟩) (Kd.R_far (p := ⟨gb336, 0, none⟩) (Kd.R_types HO347.out BK336.out (by decide)) (fun _ hk => hk.2) (.bool t344)) (fun _ hk => hk.2) (.slice Ao36 t345.length co36)) (fun _ hk => trivial), by repeat (first | (with_reducible first | exact HB.out | apply below_alloc | apply pw_below_drewN | apply below_drew1 | refine below_set ?_ GE336.out | refine below_set ?_ GE337.out) | exact HB.out)⟩

end Go.Proofs.Ytjnaebcdidilgaa.Q
