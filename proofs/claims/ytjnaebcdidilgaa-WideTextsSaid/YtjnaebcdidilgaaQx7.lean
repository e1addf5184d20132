/- Functions of the program as Lean functions, and their walks: printed by print.py as this session changed it (mkprint.py). Lean checks it. No condition. (halved) -/
import Derived.Test.YtjnaebcdidilgaaQx0
import Derived.Test.YtjnaebcdidilgaaQx3
import Derived.Test.YtjnaebcdidilgaaQx6
namespace Go.Proofs.Ytjnaebcdidilgaa.Q
open Go.RowKit Go.Proofs.YtjnaebcdidilgaaW.PrintWords Go.Proofs.YtjnaebcdidilgaaW.PrintLast Go.Proofs.YtjnaebcdidilgaaW.PrintMore
attribute [local go_sem] max2_int min2_int max_two min_two max_three min_three max_four min_four   -- for this text's walks alone
attribute [local go_sem] Instr.field asAgg
set_option linter.unusedVariables false
set_option linter.unusedSimpArgs false

/-! ### wide_Parse: function 13 -/
mutual
def wide_Parse.j0 : Nat → ByteArray → Bool → Option (Int × Int × Int)
 | 0, _, _ => none
 | k + 1, x0, x19 => if x19 = true then (some (0, 0, 17)) else (if x0.size ≤ 9223372036854775807 then ((some (bytesOf x0 : List Int)).bind fun y140 => (wide_Parse.l0 k 0 y140 (y140.length : Int) 0 0 0)) else (none))
def wide_Parse.l0 : Nat → Int → List Int → Int → Int → Int → Int → Option (Int × Int × Int)
 | 0, _, _, _, _, _, _ => none
 | k + 1, x5, x23, x24, x25, x140000, x140001 => if x25 < x24 then (if 0 ≤ x25 then (if x25 < (x23.length : Int) then (if (rd x23 x25) < 48 then (wide_Parse.j2 k x5 (rd x23 x25) x23 x24 x25 true x140000 x140001) else (wide_Parse.j2 k x5 (rd x23 x25) x23 x24 x25 (decide ((rd x23 x25) > 57)) x140000 x140001)) else (none)) else (none)) else (if x5 = 0 then (some (x140000, x140001, 0)) else (some (0, 0, x5)))
def wide_Parse.j2 : Nat → Int → Int → List Int → Int → Int → Bool → Int → Int → Option (Int × Int × Int)
 | 0, _, _, _, _, _, _, _, _ => none
 | k + 1, x5, x7, x23, x24, x25, x34, x140000, x140001 => if x34 = true then (some (0, 0, 17)) else (if x5 = 0 then ((wide_Of.f 10).bind fun bt144 => ((wide_Mul.f k x140000 x140001 bt144.1 bt144.2).bind fun bt146 => (if bt146.2.2 = 0 then ((wide_Of.f ((x7 - 48) % 256)).bind fun bt149 => ((wide_Add.f bt146.1 bt146.2.1 bt149.1 bt149.2).bind fun bt151 => (wide_Parse.l0 k bt151.2.2 x23 x24 (wrap64 (x25 + 1)) bt151.1 bt151.2.1))) else (wide_Parse.l0 k bt146.2.2 x23 x24 (wrap64 (x25 + 1)) bt146.1 bt146.2.1)))) else (wide_Parse.l0 k x5 x23 x24 (wrap64 (x25 + 1)) x140000 x140001))
end
def wide_Parse.f (k : Nat) (a0 : ByteArray) : Option (Int × Int × Int) := if a0.toList = ([] : List UInt8) then (wide_Parse.j0 k a0 true) else (if (a0.size : Int) > 1 then (if 0 < (a0.size : Int) then (wide_Parse.j0 k a0 ((bt a0 0) == 48)) else (none)) else (wide_Parse.j0 k a0 false))
theorem wide_Parse.mono_l : ∀ k, (∀ y0 y1, LeO (wide_Parse.j0 k y0 y1) (wide_Parse.j0 (k + 1) y0 y1)) ∧ (∀ y0 y1 y2 y3 y4 y5, LeO (wide_Parse.l0 k y0 y1 y2 y3 y4 y5) (wide_Parse.l0 (k + 1) y0 y1 y2 y3 y4 y5)) ∧ (∀ y0 y1 y2 y3 y4 y5 y6 y7, LeO (wide_Parse.j2 k y0 y1 y2 y3 y4 y5 y6 y7) (wide_Parse.j2 (k + 1) y0 y1 y2 y3 y4 y5 y6 y7))
 | 0 => ⟨fun _ _ r h => by simp [wide_Parse.j0] at h, fun _ _ _ _ _ _ r h => by simp [wide_Parse.l0] at h, fun _ _ _ _ _ _ _ _ r h => by simp [wide_Parse.j2] at h⟩
 | k + 1 => by
  obtain ⟨ih0, ih1, ih2⟩ := wide_Parse.mono_l k
  refine ⟨?_, ?_, ?_⟩
  ·intro y0 y1
   unfold wide_Parse.j0
   repeat' first
   | (with_reducible exact ih0 _ _)
   | (with_reducible exact ih1 _ _ _ _ _ _)
   | (with_reducible exact ih2 _ _ _ _ _ _ _ _)
   | (with_reducible exact wide_Mul.mono _ _ _ _ _)
   | (with_reducible exact LeO.refl _)
   | (with_reducible exact LeO.none _)
   | (with_reducible refine LeO.ite ?_ ?_)
   | (with_reducible refine LeO.bind ?_ (fun _ => ?_))
  ·intro y0 y1 y2 y3 y4 y5
   unfold wide_Parse.l0
   repeat' first
   | (with_reducible exact ih0 _ _)
   | (with_reducible exact ih1 _ _ _ _ _ _)
   | (with_reducible exact ih2 _ _ _ _ _ _ _ _)
   | (with_reducible exact wide_Mul.mono _ _ _ _ _)
   | (with_reducible exact LeO.refl _)
   | (with_reducible exact LeO.none _)
   | (with_reducible refine LeO.ite ?_ ?_)
   | (with_reducible refine LeO.bind ?_ (fun _ => ?_))
  ·intro y0 y1 y2 y3 y4 y5 y6 y7
   unfold wide_Parse.j2
   repeat' first
   | (with_reducible exact ih0 _ _)
   | (with_reducible exact ih1 _ _ _ _ _ _)
   | (with_reducible exact ih2 _ _ _ _ _ _ _ _)
   | (with_reducible exact wide_Mul.mono _ _ _ _ _)
   | (with_reducible exact LeO.refl _)
   | (with_reducible exact LeO.none _)
   | (with_reducible refine LeO.ite ?_ ?_)
   | (with_reducible refine LeO.bind ?_ (fun _ => ?_))
theorem wide_Parse.mono : ∀ a0 k, LeO (wide_Parse.f k a0) (wide_Parse.f (k + 1) a0) := by
 intro a0 k
 obtain ⟨ih0, ih1, ih2⟩ := wide_Parse.mono_l k
 unfold wide_Parse.f
 repeat' first
   | (with_reducible exact ih0 _ _)
   | (with_reducible exact ih1 _ _ _ _ _ _)
   | (with_reducible exact ih2 _ _ _ _ _ _ _ _)
   | (with_reducible exact wide_Mul.mono _ _ _ _ _)
   | (with_reducible exact LeO.refl _)
   | (with_reducible exact LeO.none _)
   | (with_reducible refine LeO.ite ?_ ?_)
   | (with_reducible refine LeO.bind ?_ (fun _ => ?_))
def wide_Parse.T10 : Bool × List (List Nat × List Nat) := (true, [([], []), ([], []), ([0, 1, 1], [0, 1]), ([2], [2]), ([3], [3]), ([3], [3]), ([4, 2, 0, 1, 2, 3, 4], [4]), ([5, 6, 0, 1, 2, 3, 4, 5, 6], [5])])
def wide_Parse.B10 : List Nat := [0, 0, 3, 7, 15, 15, 31, 127]
theorem wide_Parse.tab10 : rtab .any (opsOf Try.f13 10) = wide_Parse.T10 := by kernel_rfl
theorem wide_Parse.bits10 : waitsOk wide_Parse.T10.2 wide_Parse.B10 = true := by kernel_rfl
def wide_Parse.T12 : Bool × List (List Nat × List Nat) := (true, [([], []), ([], []), ([1], [1]), ([2], [2]), ([3], [3]), ([0, 4, 4], [0, 4]), ([5], [5]), ([6], [6]), ([6], [6]), ([7, 5, 0, 1, 2, 3, 4, 5, 6, 7], [7]), ([8, 9, 0, 1, 2, 3, 4, 5, 6, 7, 8, 9], [8])])
def wide_Parse.B12 : List Nat := [0, 0, 2, 6, 14, 31, 63, 127, 127, 255, 1023]
theorem wide_Parse.tab12 : rtab .any (opsOf Try.f13 12) = wide_Parse.T12 := by kernel_rfl
theorem wide_Parse.bits12 : waitsOk wide_Parse.T12.2 wide_Parse.B12 = true := by kernel_rfl
set_option maxHeartbeats 8000000 in
set_option maxRecDepth 100000 in
theorem wide_Parse.calls (k : Nat) (a0 : ByteArray) (r1 : Int) (r2 : Int) (r3 : Int) (w : World) (h : wide_Parse.f k a0 = some (r1, r2, r3)) :
  Calls Try.prog 13 #[.string a0] w fun e w' => e = .returned (.tuple #[.agg #[.int .u64 r1, .int .u64 r2], .int .i64 r3]) ∧ Below w.heap.size w w' := by
 have hu24 := Try.underlying24
 have HB := Aside0.mk (Below.refl w.heap.size w)
 have H : (if a0.toList = ([] : List UInt8) then (wide_Parse.j0 k a0 true) else (if (a0.size : Int) > 1 then (if 0 < (a0.size : Int) then (wide_Parse.j0 k a0 ((bt a0 0) == 48)) else (none)) else (wide_Parse.j0 k a0 false))) = some (r1, r2, r3) := h
 clear h
 have HC2 := Aside0.mk H
 clear H
 go_enter Try.func13, Try.ntmps13
 go_upto_region 1 with (first | ((with_reducible refine gate_dst (N := 2) rfl ?_); (try (refine gate_guard (by rfl) ?_; dsimp only)); refine box_event ?hg (N := 2) ?hd (cs := #[.int .u64 0, .int .u64 0]) (t := 24) ?hr ?_; (case hd => rfl); (case hg => rfl); (case hr => first | (go_simp; done) | (go_simp; rfl)); intro gb138 hg w3 hbox hb; have n0_ := Aside0.mk (below_step (bL HB) hb); have n1_ := Aside0.mk (hbox); have n2_ := Aside0.mk ((by rw [hg]; exact (below_size (bL HB)) : w.heap.size ≤ gb138)); have n3_ := Aside0.mk ((by rw [hg]; exact (below_size (bL HB)) : w.heap.size ≤ gb138)); clear HB; have HB := n0_; have BK138 := n1_; have GW138 := n2_; have GE138 := n3_; clear n0_ n1_ n2_ n3_; clear hb hbox hg))
 (try simp only [Act.put, List.setIfInBounds_toArray, List.set_cons_zero, List.set_cons_succ])
 go_cut [19] (fun v19 wc => ∃ (kq : Nat) (x19_1 : Bool), v19 = .bool x19_1 ∧ Aside0 (wide_Parse.j0 kq a0 x19_1 = some (r1, r2, r3)) ∧ Aside0 (kq ≤ k) ∧ Aside0 (wc.heap[gb138]? = some (.cells #[.int .u64 0, .int .u64 0] 24 (0, 0))) ∧ Aside0 (Below w.heap.size w wc))
 case first =>
  have H := HC2.out
  clear HC2
  by_cases c4 : a0.toList = ([] : List UInt8)
  ·rw [if_pos c4] at H
   have c4b0 : (a0.toList == ([] : List UInt8)) = true := beq_iff_eq.mpr c4
   have c4b1 : (a0.toList != ([] : List UInt8)) = false := bne_eq_false_iff_eq.mpr c4
   clear c4
   (first | rw [c4b0] | (simp only [i64_w, i32_w]; rw [c4b0]) | skip)
   have H' := Aside0.mk H
   clear H
   go_wp2
   go_meet
   case rel => exact ⟨_, (true), (by first | rfl | (simp; done) | (simp [*]; done)), H', ⟨by first | omega | exact Nat.le_refl _⟩, ⟨bN BK138⟩, ⟨by repeat (first | (with_reducible first | exact HB.out | apply below_alloc | apply pw_below_drewN | apply below_drew1 | refine below_set ?_ GE138.out) | exact HB.out)⟩⟩
  ·rw [if_neg c4] at H
   have c4b0 : (a0.toList == ([] : List UInt8)) = false := beq_eq_false_iff_ne.mpr c4
   have c4b1 : (a0.toList != ([] : List UInt8)) = true := bne_iff_ne.mpr c4
   (first | rw [c4b0] | (simp only [i64_w, i32_w]; rw [c4b0]) | skip)
   by_cases c5 : (a0.size : Int) > 1
   ·rw [if_pos c5] at H
    have c5b0 : decide (1 < (a0.size : Int)) = true := decide_eq_true c5
    have c5b1 : decide (1 < a0.size) = true := decide_eq_true (by omega)
    clear c5
    by_cases c6 : 0 < (a0.size : Int)
    ·rw [if_pos c6] at H
     have c6b0 : decide (0 < (a0.size : Int)) = true := decide_eq_true c6
     have c6b1 : decide (0 < a0.size) = true := decide_eq_true (by omega)
     clear c6
     have H' := Aside0.mk H
     clear H
     have p7 : 0 ≤ (0 : Int) := (by omega)
     have q7 : 0 < a0.size := (by have : (0 : Int) < (a0.size : Int) := of_decide_eq_true (by first | (with_reducible assumption) | assumption); omega)
     have hx7 : ∀ h : 0 < a0.size, ((a0[0]'h).toNat : Int) = bt a0 0 := bt_at a0 0
     clear p7
     have qi7 : (0 < (a0.size : Int)) = True := eq_true (of_decide_eq_true (by first | (with_reducible assumption) | assumption))
     replace q7 := eq_true q7
     go_wp2
     go_meet
     case rel => exact ⟨_, (((bt a0 0) == 48)), (by first | rfl | (simp; done) | (simp [*]; done)), H', ⟨by first | omega | exact Nat.le_refl _⟩, ⟨bN BK138⟩, ⟨by repeat (first | (with_reducible first | exact HB.out | apply below_alloc | apply pw_below_drewN | apply below_drew1 | refine below_set ?_ GE138.out) | exact HB.out)⟩⟩
    ·rw [if_neg c6] at H
     exact absurd H (by simp)
   ·rw [if_neg c5] at H
    have c5b0 : decide (1 < (a0.size : Int)) = false := decide_eq_false c5
    have c5b1 : decide (1 < a0.size) = false := decide_eq_false (by omega)
    clear c5
    have H' := Aside0.mk H
    clear H
    go_wp2
    go_meet
    case rel => exact ⟨_, (false), (by first | rfl | (simp; done) | (simp [*]; done)), H', ⟨by first | omega | exact Nat.le_refl _⟩, ⟨bN BK138⟩, ⟨by repeat (first | (with_reducible first | exact HB.out | apply below_alloc | apply pw_below_drewN | apply below_drew1 | refine below_set ?_ GE138.out) | exact HB.out)⟩⟩
 case rest =>
  clear HC2
  try clear c1
  try clear p2
  try clear c4
  try clear c4b0
  try clear c4b1
  try clear c5
  try clear c5b0
  try clear c5b1
  try clear c6
  try clear c6b0
  try clear c6b1
  try clear p7
  try clear q7
  try clear hx7
  try clear qi7
  try clear p7
  try clear q7
  obtain ⟨kq, x19_1, rfl, HA, HJ1, BK138, HB⟩ := hcut
  cases kq with
  | zero => exact absurd HA.out (by simp [wide_Parse.j0])
  | succ kj1 =>
   have H := HA.out
   clear HA
   simp only [wide_Parse.j0] at H
   by_cases c8 : x19_1 = true
   ·subst c8
    have H1 : (some (0, 0, 17)) = some (r1, r2, r3) := by rw [if_pos rfl] at H; exact H
    clear H
    have H := H1
    clear H1
    simp only [Option.some.injEq, Prod.mk.injEq] at H
    obtain ⟨rfl, rfl, rfl⟩ := H
    have hcz9_0 : wc.cell? ⟨gb138, 0, none⟩ = some (.int .u64 0) := (blk_cell BK138.out 0).trans rfl
    have hcz9_1 : wc.cell? ⟨gb138, 1, none⟩ = some (.int .u64 0) := (blk_cell BK138.out 1).trans rfl
    have hfz9_0 := blk_frozen BK138.out 0
    have hfz9_1 := blk_frozen BK138.out 1
    go_wp2
    refine bodyPost_ret (results_ct rfl _ _ gb138 24 #[.int .u64 0, .int .u64 0] (0, 0) _ rfl (by (with_reducible repeat (first | refine blk_drewN ?_ _ | refine blk_drew ?_ | refine blk_alloc ?_ _)); refine blk_put (cs := #[.int .u64 0, .int .u64 0]) ?_ 1 _ rfl; (with_reducible repeat (first | refine blk_drewN ?_ _ | refine blk_drew ?_ | refine blk_alloc ?_ _)); refine blk_put (cs := #[.int .u64 0, .int .u64 0]) ?_ 0 _ rfl; (with_reducible repeat (first | refine blk_drewN ?_ _ | refine blk_drew ?_ | refine blk_alloc ?_ _)); exact BK138.out) Try.underlying24 rfl (by kernel_rfl)) rfl ?_
    exact ⟨by first | rfl | (simp [errW_none, errW_some] <;> rfl) | (simp [*, errW_none, errW_some] <;> rfl), by repeat (first | (with_reducible first | exact HB.out | apply below_alloc | apply pw_below_drewN | apply below_drew1 | refine below_set ?_ GE138.out) | exact HB.out)⟩
   ·replace c8 := Bool.eq_false_iff.mpr c8
    subst c8
    have H1 : (if a0.size ≤ 9223372036854775807 then ((some (bytesOf a0 : List Int)).bind fun y140 => (wide_Parse.l0 kj1 0 y140 (y140.length : Int) 0 0 0)) else (none)) = some (r1, r2, r3) := by rw [if_neg (show ¬ (false = true) by decide)] at H; exact H
    clear H
    have H := H1
    clear H1
    by_cases c10 : a0.size ≤ 9223372036854775807
    ·rw [if_pos c10] at H
     have c10b0 := eq_true c10
     have c10b1 : decide (a0.size ≤ 9223372036854775807) = true := decide_eq_true c10
     try have c10b2 : (9223372036854775807 < a0.size) = False := eq_false (Nat.not_lt.2 c10)
     clear c10
     obtain ⟨y140, hy140⟩ : ∃ y_ : List Int, y_ = (bytesOf a0) := ⟨_, rfl⟩
     replace H : (wide_Parse.l0 kj1 0 y140 (y140.length : Int) 0 0 0) = some (r1, r2, r3) := by first | (rw [hy140]; with_reducible exact H) | (have H2_ := (Option.bind_some _ _).symm.trans H; rw [hy140]; with_reducible exact H2_) | (have H2_ := (Option.bind_some _ _).symm.trans H; with_reducible exact H2_) | with_reducible exact H | (rw [hy140]; exact H) | exact H
     have Ny140 := Aside0.mk hy140
     clear hy140
     have H' := Aside0.mk H
     clear H
     go_wp2_with (first | ((with_reducible refine gate_dst (N := 4) rfl ?_); (try (refine gate_guard (by rfl) ?_; dsimp only)); refine box_event ?hg (N := 4) ?hd (cs := #[.int .u64 0, .int .u64 0]) (t := 24) ?hr ?_; (case hd => rfl); (case hg => rfl); (case hr => first | (go_simp; done) | (go_simp; rfl)); intro gb139 hg w11 hbox hb; have n0_ := blkB BK138 hb; have n1_ := Aside0.mk (below_step (bL HB) hb); have n2_ := Aside0.mk (hbox); have n3_ := Aside0.mk ((by rw [hg]; exact (below_size (bL HB)) : w.heap.size ≤ gb139)); have n4_ := Aside0.mk ((by rw [hg]; exact (below_size (bL HB)) : w.heap.size ≤ gb139)); have n5_ := blkL BK138 hg; have n6_ := blkG BK138 hg; clear BK138 HB; have BK138 := n0_; have HB := n1_; have BK139 := n2_; have GW139 := n3_; have GE139 := n4_; have NB138_139 := n5_; have NB139_138 := n6_; clear n0_ n1_ n2_ n3_ n4_ n5_ n6_; clear hb hbox hg; have hnb12 := NB139_138.out; have hnc12 := NB138_139.out; have hcz13_0 : w11.cell? ⟨gb139, 0, none⟩ = some (.int .u64 0) := (blk_cell BK139.out 0).trans rfl; have hcz13_1 : w11.cell? ⟨gb139, 1, none⟩ = some (.int .u64 0) := (blk_cell BK139.out 1).trans rfl; have hfz13_0 := blk_frozen BK139.out 0; have hfz13_1 := blk_frozen BK139.out 1) | ((with_reducible refine gate_dst (N := 23) rfl ?_); (try (refine gate_guard (by rfl) ?_; dsimp only)); refine Kd.V_conv _ 5 rfl (N := 23) rfl 9 56 _ rfl a0 rfl Try.underlying9 Try.underlying56 Try.underlying5 (ok := (fun k_ => k_ ≠ gb138 ∧ k_ ≠ gb139)) (of_decide_eq_true (by first | (with_reducible assumption) | assumption)) (fun k_ hk => ⟨Kd.freshB (g := gb138) (o := .cells #[.int .u64 0, .int .u64 0] 24 (0, 0)) (bF BK138) k_ hk, Kd.freshB (g := gb139) (o := .cells #[.int .u64 0, .int .u64 0] 24 (0, 0)) (by (with_reducible repeat (first | refine blk_drewN ?_ _ | refine blk_drew ?_ | refine blk_alloc ?_ _)); refine blk_put (cs := #[.int .u64 0, .int .u64 0]) ?_ 1 _ rfl; (with_reducible repeat (first | refine blk_drewN ?_ _ | refine blk_drew ?_ | refine blk_alloc ?_ _)); refine blk_put (cs := #[.int .u64 0, .int .u64 0]) ?_ 0 _ rfl; (with_reducible repeat (first | refine blk_drewN ?_ _ | refine blk_drew ?_ | refine blk_alloc ?_ _)); exact BK139.out) k_ hk⟩) (Below.refl _ _) (Nat.le_refl _) ?_; intro v141 w14 ho15 hb hg_ hnew_; clear hg_ hnew_; (first | rw [← Ny140.out] at ho15 | (simp only [Int.reduceToNat] at ho15; rw [← Ny140.out] at ho15)); have n0_ := Aside0.mk (Kd.V_lower ho15 (below_size (bL HB))); have n1_ := Aside0.mk (blk_below (g := gb138) (o := .cells #[.int .u64 0, .int .u64 0] 24 (0, 0)) (bF BK138) hb); have n2_ := Aside0.mk (blk_below (g := gb139) (o := .cells #[.int .u64 0, .int .u64 0] 24 (0, 0)) (by (with_reducible repeat (first | refine blk_drewN ?_ _ | refine blk_drew ?_ | refine blk_alloc ?_ _)); refine blk_put (cs := #[.int .u64 0, .int .u64 0]) ?_ 1 _ rfl; (with_reducible repeat (first | refine blk_drewN ?_ _ | refine blk_drew ?_ | refine blk_alloc ?_ _)); refine blk_put (cs := #[.int .u64 0, .int .u64 0]) ?_ 0 _ rfl; (with_reducible repeat (first | refine blk_drewN ?_ _ | refine blk_drew ?_ | refine blk_alloc ?_ _)); exact BK139.out) hb); have n3_ := Aside0.mk (below_step (bL HB) hb); clear BK138 BK139 HB; have HO142 := n0_; have BK138 := n1_; have BK139 := n2_; have HB := n3_; clear n0_ n1_ n2_ n3_; clear hb ho15; obtain ⟨Ao16, co16, eo16⟩ := Kd.V_slice HO142.out; subst eo16))
     go_loopg [5, 25] kj1 (fun kq v5 v25 w' => ∃ (x5_2 : Int) (x25_2 : Int) (x139000_2 : Int) (x139001_2 : Int) (x140000_2 : Int) (x140001_2 : Int), v5 = .int .i64 x5_2 ∧ v25 = .int .i64 x25_2 ∧ Aside0 (wide_Parse.l0 kq x5_2 y140 (y140.length : Int) x25_2 x140000_2 x140001_2 = some (r1, r2, r3)) ∧ Aside0 (kq ≤ kj1) ∧ Aside0 (Kd.V (Kd.int .u8) 5 w' w.heap.size (fun k_ => k_ ≠ gb138 ∧ k_ ≠ gb139) (.slice Ao16 y140.length co16) y140) ∧ Aside0 (w'.heap[gb138]? = some (.cells #[.int .u64 x139000_2, .int .u64 x139001_2] 24 (0, 0))) ∧ Aside0 (w'.heap[gb139]? = some (.cells #[.int .u64 x140000_2, .int .u64 x140001_2] 24 (0, 0))) ∧ Aside0 (Below w.heap.size w w'))
     case atStart => exact ⟨(0), (0), (0), (0), (0), (0), (by first | rfl | (simp; done) | (simp [*]; done)), (by first | rfl | (simp; done) | (simp [*]; done)), H', ⟨Nat.le_refl _⟩, ⟨by (with_reducible repeat (first | apply Kd.V_alloc | apply Kd.V_drewN | apply Kd.V_drew)); exact HO142.out⟩, ⟨bN BK138⟩, ⟨bN BK139⟩, ⟨by repeat (first | (with_reducible first | exact HB.out | apply below_alloc | apply pw_below_drewN | apply below_drew1 | refine below_set ?_ GE138.out | refine below_set ?_ GE139.out) | exact HB.out)⟩⟩
     case round =>
      clear H'
      try clear c1
      try clear p2
      try clear c4
      try clear c4b0
      try clear c4b1
      try clear c5
      try clear c5b0
      try clear c5b1
      try clear c6
      try clear c6b0
      try clear c6b1
      try clear p7
      try clear q7
      try clear hx7
      try clear qi7
      try clear c8
      try clear c10
      try clear c10b0
      try clear c10b1
      try clear c10b2
      try clear c12
      try clear c13
      try clear hcz13_0
      try clear hcz13_1
      try clear hcz9_0
      try clear hcz9_1
      try clear hfz13_0
      try clear hfz13_1
      try clear hfz9_0
      try clear hfz9_1
      try clear p2
      try clear p7
      try clear q7
      obtain ⟨x5_2, x25_2, x139000_2, x139001_2, x140000_2, x140001_2, rfl, rfl, HA, HK2, HO_23, BK138, BK139, HB⟩ := hrel
      cases gk with
      | zero => exact absurd HA.out (by simp [wide_Parse.l0])
      | succ k2 =>
       have H := HA.out
       clear HA
       simp only [wide_Parse.l0] at H
       by_cases c17 : x25_2 < (y140.length : Int)
       ·rw [if_pos c17] at H
        have c17b0 : decide (x25_2 < (y140.length : Int)) = true := decide_eq_true c17
        clear c17
        by_cases c18 : 0 ≤ x25_2
        ·rw [if_pos c18] at H
         have c18b0 : decide (0 ≤ x25_2) = true := decide_eq_true c18
         clear c18
         by_cases c19 : x25_2 < (y140.length : Int)
         ·rw [if_pos c19] at H
          have c19b0 : decide (x25_2 < (y140.length : Int)) = true := decide_eq_true c19
          clear c19
          have HC20 := Aside0.mk H
          clear H
          have p143 : 0 ≤ (x25_2 : Int) := of_decide_eq_true (by first | (with_reducible assumption) | assumption)
          have q143 : x25_2 < (y140.length : Int) := of_decide_eq_true (by first | (with_reducible assumption) | assumption)
          obtain ⟨ad143, e143, hx143_0⟩ := Kd.at_int (Kd.V_reads' HO_23.out).2.2 x25_2 p143 q143
          cases e143
          replace p143 := eq_true p143
          replace q143 := eq_true q143
          go_upto_region 7 with (fail)
          go_cut [34] (fun v34 wc => ∃ (kq : Nat) (x34_19 : Bool), v34 = .bool x34_19 ∧ Aside0 (wide_Parse.j2 kq x5_2 (rd y140 x25_2) y140 (y140.length : Int) x25_2 x34_19 x140000_2 x140001_2 = some (r1, r2, r3)) ∧ Aside0 (kq ≤ k2) ∧ Aside0 (Kd.V (Kd.int .u8) 5 wc w.heap.size (fun k_ => k_ ≠ gb138 ∧ k_ ≠ gb139) (.slice (some ad143) y140.length co16) y140) ∧ Aside0 (wc.heap[gb138]? = some (.cells #[.int .u64 x139000_2, .int .u64 x139001_2] 24 (0, 0))) ∧ Aside0 (wc.heap[gb139]? = some (.cells #[.int .u64 x140000_2, .int .u64 x140001_2] 24 (0, 0))) ∧ Aside0 (Below w.heap.size w wc))
          case first =>
           have H := HC20.out
           clear HC20
           by_cases c21 : (rd y140 x25_2) < 48
           ·rw [if_pos c21] at H
            have c21b0 : decide ((rd y140 x25_2) < 48) = true := decide_eq_true c21
            clear c21
            (first | rw [c21b0] | (simp only [i64_w, i32_w]; rw [c21b0]) | skip)
            have H' := Aside0.mk H
            clear H
            go_wp2
            go_meet
            case rel => exact ⟨_, (true), (by first | rfl | (simp; done) | (simp [*]; done)), H', ⟨by have := HJ1.out; have := HK2.out; first | omega | exact Nat.le_refl _⟩, ⟨by (with_reducible repeat (first | apply Kd.V_alloc | apply Kd.V_drewN | apply Kd.V_drew)); exact HO_23.out⟩, ⟨bN BK138⟩, ⟨bN BK139⟩, ⟨by repeat (first | (with_reducible first | exact HB.out | apply below_alloc | apply pw_below_drewN | apply below_drew1 | refine below_set ?_ GE138.out | refine below_set ?_ GE139.out) | exact HB.out)⟩⟩
           ·rw [if_neg c21] at H
            have c21b0 : decide ((rd y140 x25_2) < 48) = false := decide_eq_false c21
            clear c21
            (first | rw [c21b0] | (simp only [i64_w, i32_w]; rw [c21b0]) | skip)
            have H' := Aside0.mk H
            clear H
            go_wp2
            go_meet
            case rel => exact ⟨_, (decide ((rd y140 x25_2) > 57)), (by first | rfl | (simp; done) | (simp [*]; done)), H', ⟨by have := HJ1.out; have := HK2.out; first | omega | exact Nat.le_refl _⟩, ⟨by (with_reducible repeat (first | apply Kd.V_alloc | apply Kd.V_drewN | apply Kd.V_drew)); exact HO_23.out⟩, ⟨bN BK138⟩, ⟨bN BK139⟩, ⟨by repeat (first | (with_reducible first | exact HB.out | apply below_alloc | apply pw_below_drewN | apply below_drew1 | refine below_set ?_ GE138.out | refine below_set ?_ GE139.out) | exact HB.out)⟩⟩
          case rest =>
           clear HC20
           try clear c1
           try clear p1
           try clear q1
           try clear hx1
           try clear c2
           try clear p2
           try clear c4
           try clear c4b0
           try clear c4b1
           try clear c5
           try clear c5b0
           try clear c5b1
           try clear c6
           try clear c6b0
           try clear c6b1
           try clear p7
           try clear q7
           try clear hx7
           try clear qi7
           try clear c8
           try clear c10
           try clear c10b0
           try clear c10b1
           try clear c10b2
           try clear c12
           try clear c13
           try clear p14
           try clear q14
           try clear hx14
           try clear c17
           try clear c17b0
           try clear c18
           try clear c18b0
           try clear c19
           try clear c19b0
           try clear c21
           try clear c21b0
           try clear hcz13_0
           try clear hcz13_1
           try clear hcz9_0
           try clear hcz9_1
           try clear hfz13_0
           try clear hfz13_1
           try clear hfz9_0
           try clear hfz9_1
           try clear hx143_0
           try clear p143
           try clear p2
           try clear p7
           try clear q143
           try clear q7
           obtain ⟨kq, x34_19, rfl, HA, HJ19, HO_23, BK138, BK139, HB⟩ := hcut
           cases kq with
           | zero => exact absurd HA.out (by simp [wide_Parse.j2])
           | succ kj19 =>
            have H := HA.out
            clear HA
            simp only [wide_Parse.j2] at H
            by_cases c22 : x34_19 = true
            ·subst c22
             have H1 : (some (0, 0, 17)) = some (r1, r2, r3) := by rw [if_pos rfl] at H; exact H
             clear H
             have H := H1
             clear H1
             simp only [Option.some.injEq, Prod.mk.injEq] at H
             obtain ⟨rfl, rfl, rfl⟩ := H
             have hnb23 := NB138_139.out
             have hnc23 := NB139_138.out
             have hcz24_0 : wc.cell? ⟨gb138, 0, none⟩ = some (.int .u64 x139000_2) := (blk_cell BK138.out 0).trans rfl
             have hcz24_1 : wc.cell? ⟨gb138, 1, none⟩ = some (.int .u64 x139001_2) := (blk_cell BK138.out 1).trans rfl
             have hfz24_0 := blk_frozen BK138.out 0
             have hfz24_1 := blk_frozen BK138.out 1
             go_wp2
             refine bodyPost_ret (results_ct rfl _ _ gb138 24 #[.int .u64 0, .int .u64 0] (0, 0) _ rfl (by (with_reducible repeat (first | refine blk_drewN ?_ _ | refine blk_drew ?_ | refine blk_alloc ?_ _)); refine blk_put (cs := #[.int .u64 0, .int .u64 x139001_2]) ?_ 1 _ rfl; (with_reducible repeat (first | refine blk_drewN ?_ _ | refine blk_drew ?_ | refine blk_alloc ?_ _)); refine blk_put (cs := #[.int .u64 x139000_2, .int .u64 x139001_2]) ?_ 0 _ rfl; (with_reducible repeat (first | refine blk_drewN ?_ _ | refine blk_drew ?_ | refine blk_alloc ?_ _)); exact BK138.out) Try.underlying24 rfl (by kernel_rfl)) rfl ?_
             exact ⟨by first | rfl | (simp [errW_none, errW_some] <;> rfl) | (simp [*, errW_none, errW_some] <;> rfl), by repeat (first | (with_reducible first | exact HB.out | apply below_alloc | apply pw_below_drewN | apply below_drew1 | refine below_set ?_ GE138.out | refine below_set ?_ GE139.out) | exact HB.out)⟩
            ·replace c22 := Bool.eq_false_iff.mpr c22
             subst c22
             have H1 : (if x5_2 = 0 then ((wide_Of.f 10).bind fun bt144 => ((wide_Mul.f kj19 x140000_2 x140001_2 bt144.1 bt144.2).bind fun bt146 => (if bt146.2.2 = 0 then ((wide_Of.f (((rd y140 x25_2) - 48) % 256)).bind fun bt149 => ((wide_Add.f bt146.1 bt146.2.1 bt149.1 bt149.2).bind fun bt151 => (wide_Parse.l0 kj19 bt151.2.2 y140 (y140.length : Int) (wrap64 (x25_2 + 1)) bt151.1 bt151.2.1))) else (wide_Parse.l0 kj19 bt146.2.2 y140 (y140.length : Int) (wrap64 (x25_2 + 1)) bt146.1 bt146.2.1)))) else (wide_Parse.l0 kj19 x5_2 y140 (y140.length : Int) (wrap64 (x25_2 + 1)) x140000_2 x140001_2)) = some (r1, r2, r3) := by rw [if_neg (show ¬ (false = true) by decide)] at H; exact H
             clear H
             have H := H1
             clear H1
             by_cases c25 : x5_2 = 0
             ·rw [if_pos c25] at H
              have c25b0 : (x5_2 == 0) = true := beq_iff_eq.mpr c25
              have c25b1 : (x5_2 != 0) = false := bne_eq_false_iff_eq.mpr c25
              clear c25
              replace H := Option.bind_eq_some_iff.mp H
              obtain ⟨⟨t144, t145⟩, A260, H⟩ := H
              replace H : ((wide_Mul.f kj19 x140000_2 x140001_2 t144 t145).bind fun bt146 => (if bt146.2.2 = 0 then ((wide_Of.f (((rd y140 x25_2) - 48) % 256)).bind fun bt149 => ((wide_Add.f bt146.1 bt146.2.1 bt149.1 bt149.2).bind fun bt151 => (wide_Parse.l0 kj19 bt151.2.2 y140 (y140.length : Int) (wrap64 (x25_2 + 1)) bt151.1 bt151.2.1))) else (wide_Parse.l0 kj19 bt146.2.2 y140 (y140.length : Int) (wrap64 (x25_2 + 1)) bt146.1 bt146.2.1))) = some (r1, r2, r3) := H
              have A26 := Aside0.mk A260
              clear A260
              replace H := Option.bind_eq_some_iff.mp H
              obtain ⟨⟨t146, t147, t148⟩, A270, H⟩ := H
              replace H : (if t148 = 0 then ((wide_Of.f (((rd y140 x25_2) - 48) % 256)).bind fun bt149 => ((wide_Add.f t146 t147 bt149.1 bt149.2).bind fun bt151 => (wide_Parse.l0 kj19 bt151.2.2 y140 (y140.length : Int) (wrap64 (x25_2 + 1)) bt151.1 bt151.2.1))) else (wide_Parse.l0 kj19 t148 y140 (y140.length : Int) (wrap64 (x25_2 + 1)) t146 t147)) = some (r1, r2, r3) := H
              have A27 := Aside0.mk A270
              clear A270
              by_cases c28 : t148 = 0
              ·rw [if_pos c28] at H
               have c28b0 : (t148 == 0) = true := beq_iff_eq.mpr c28
               have c28b1 : (t148 != 0) = false := bne_eq_false_iff_eq.mpr c28
               clear c28
               replace H := Option.bind_eq_some_iff.mp H
               obtain ⟨⟨t149, t150⟩, A290, H⟩ := H
               replace H : ((wide_Add.f t146 t147 t149 t150).bind fun bt151 => (wide_Parse.l0 kj19 bt151.2.2 y140 (y140.length : Int) (wrap64 (x25_2 + 1)) bt151.1 bt151.2.1)) = some (r1, r2, r3) := H
               have A29 := Aside0.mk A290
               clear A290
               replace H := Option.bind_eq_some_iff.mp H
               obtain ⟨⟨t151, t152, t153⟩, A300, H⟩ := H
               replace H : (wide_Parse.l0 kj19 t153 y140 (y140.length : Int) (wrap64 (x25_2 + 1)) t151 t152) = some (r1, r2, r3) := H
               have A30 := Aside0.mk A300
               clear A300
               have H' := Aside0.mk H
               clear H
               try go_wp2
               have n0_ := Aside0.mk (Kd.V_drew HO_23.out)
               have n1_ := Aside0.mk (blk_drew BK138.out)
               have n2_ := Aside0.mk (blk_drew BK139.out)
               have n3_ := Aside0.mk (below_drew1 HB.out)
               clear HO_23
               clear BK138
               clear BK139
               clear HB
               have HO_23 := n0_
               have BK138 := n1_
               have BK139 := n2_
               have HB := n3_
               clear n0_ n1_ n2_ n3_
               refine start_ (n := 8) (S := fun w' => w'.cell? ⟨gb139, 0, none⟩ = some (.int .u64 x140000_2) ∧ w'.cell? ⟨gb139, 1, none⟩ = some (.int .u64 x140001_2)) (ds := [6]) #[false, false, false, false, false, false, false, false] (by kernel_rfl) rfl rfl ⟨(blk_cell BK139.out 0).trans rfl, (blk_cell BK139.out 1).trans rfl⟩ (fun hHeld => ?_); refine with_tabW wide_Parse.tab10 wide_Parse.bits10 (fun HT_ HW_ => ?_)
               generalize wc.drew = w31 at HO_23 BK138 BK139 HB hHeld ⊢
               refine take_ (i := 0) (N := some 39) (v := ?_) (a' := ?_) #[true, false, false, false, false, false, false, false] rfl rfl (take_ofW HT_.out HW_.out (by kernel_rfl)) (fun _ _ _ h => h) (Or.inl ⟨by rfl, ?_⟩) hHeld ?_ ?_
               rotate_left
               ·rintro w' ⟨s0, s1⟩
                go_simp
                with_reducible rfl
               rotate_left
               ·simp only [Act.put, List.setIfInBounds_toArray, List.set_cons_zero, List.set_cons_succ, i64_w, i32_w]
                rfl
               refine one_ (i := 1) (N := some 40) #[true, true, false, false, false, false, false, false] rfl rfl (one_of HT_.out (by kernel_rfl)) (by decide) (fun K hK => ?_)
               refine goes_ Try.func12 (by kernel_rfl) rfl #[.int .i64 10] (by rfl) rfl rfl (by (try simp only [List.map_toArray, List.map_cons, List.map_nil]); first | done | rfl | (simp only [List.length_drop, List.length_take]; rfl) | (go_simp; simp only [u8_w, w64_u8]; done) | (go_simp; simp only [u8_w, w64_u8]; rfl)) ?_
               with_reducible refine (wide_Of.calls 10 t144 t145 _ A26.out).mono ?_
               rintro e w32 ⟨rfl, hb⟩
               refine ⟨_, rfl, ?_⟩
               have n0_ := Aside0.mk (Kd.V_below (vN HO_23) hb)
               have n1_ := blkB BK138 hb
               have n2_ := blkB BK139 hb
               have n3_ := Aside0.mk (below_step (bL HB) hb)
               clear HO_23
               clear BK138
               clear BK139
               clear HB
               have HO_23 := n0_
               have BK138 := n1_
               have BK139 := n2_
               have HB := n3_
               clear n0_ n1_ n2_ n3_
               (try clear hb)
               (try clear hb2)
               (try clear hk)
               (try clear hi)
               refine hK.out _ _ ⟨(blk_cell BK139.out 0).trans rfl, (blk_cell BK139.out 1).trans rfl⟩ (fun hHeld => ?_)
               clear hK K
               refine norm_ (a' := ?_) ?_ ?_
               rotate_left
               ·show Act.put _ (some 40) _ = _
                simp only [Act.put, List.setIfInBounds_toArray, List.set_cons_zero, List.set_cons_succ, i64_w, i32_w]
                rfl
               refine one_ (i := 2) (N := some 41) #[true, true, true, false, false, false, false, false] rfl rfl (one_of HT_.out (by kernel_rfl)) (by decide) (fun K hK => ?_)
               refine goes_ Try.func19 (by kernel_rfl) rfl #[.agg #[.int .u64 x140000_2, .int .u64 x140001_2], .agg #[.int .u64 t144, .int .u64 t145]] (by rfl) rfl rfl (by (try simp only [List.map_toArray, List.map_cons, List.map_nil]); first | done | rfl | (simp only [List.length_drop, List.length_take]; rfl) | (go_simp; simp only [u8_w, w64_u8]; done) | (go_simp; simp only [u8_w, w64_u8]; rfl)) ?_
               with_reducible refine (wide_Mul.calls kj19 x140000_2 x140001_2 t144 t145 t146 t147 t148 _ A27.out).mono ?_
               rintro e w33 ⟨rfl, hb⟩
               refine ⟨_, rfl, ?_⟩
               have n0_ := Aside0.mk (Kd.V_below (vN HO_23) hb)
               have n1_ := blkB BK138 hb
               have n2_ := blkB BK139 hb
               have n3_ := Aside0.mk (below_step (bL HB) hb)
               clear HO_23
               clear BK138
               clear BK139
               clear HB
               have HO_23 := n0_
               have BK138 := n1_
               have BK139 := n2_
               have HB := n3_
               clear n0_ n1_ n2_ n3_
               (try clear hb)
               (try clear hb2)
               (try clear hk)
               (try clear hi)
               refine hK.out _ _ ⟨(blk_cell BK139.out 0).trans rfl, (blk_cell BK139.out 1).trans rfl⟩ (fun hHeld => ?_)
               clear hK K
               refine norm_ (a' := ?_) ?_ ?_
               rotate_left
               ·show Act.put _ (some 41) _ = _
                simp only [Act.put, List.setIfInBounds_toArray, List.set_cons_zero, List.set_cons_succ, i64_w, i32_w]
                rfl
               refine pure_ (i := 3) (N := some 38) (v := ?_) (a' := ?_) #[true, true, true, true, false, false, false, false] rfl rfl (any_of HT_.out (by kernel_rfl)) (fun _ _ _ h => h) (Or.inl ⟨by rfl, ?_⟩) ?_ ?_
               rotate_left
               ·intro w'
                go_simp
                with_reducible rfl
               rotate_left
               ·simp only [Act.put, List.setIfInBounds_toArray, List.set_cons_zero, List.set_cons_succ, i64_w, i32_w]
                rfl
               refine pure_ (i := 4) (N := some 42) (v := ?_) (a' := ?_) #[true, true, true, true, true, false, false, false] rfl rfl (any_of HT_.out (by kernel_rfl)) (fun _ _ _ h => h) (Or.inl ⟨by rfl, ?_⟩) ?_ ?_
               rotate_left
               ·intro w'
                go_simp
                with_reducible rfl
               rotate_left
               ·simp only [Act.put, List.setIfInBounds_toArray, List.set_cons_zero, List.set_cons_succ, i64_w, i32_w]
                rfl
               refine pure_ (i := 5) (N := some 43) (v := ?_) (a' := ?_) #[true, true, true, true, true, true, false, false] rfl rfl (any_of HT_.out (by kernel_rfl)) (fun _ _ _ h => h) (Or.inl ⟨by rfl, ?_⟩) ?_ ?_
               rotate_left
               ·intro w'
                go_simp
                with_reducible rfl
               rotate_left
               ·simp only [Act.put, List.setIfInBounds_toArray, List.set_cons_zero, List.set_cons_succ, i64_w, i32_w]
                rfl
               refine last_ (i := 6) (N := none) #[true, true, true, true, true, true, true, false] rfl rfl (one_of HT_.out (by kernel_rfl)) (by decide) (fun K hK => ?_)
               have hs34 : w33.cell? ⟨gb139, 0, none⟩ = some (.int .u64 x140000_2) := (blk_cell BK139.out 0).trans rfl
               have hfs34 := blk_frozen BK139.out 0
               have hns34_0 := NB138_139.out
               have hms34_0 := NB139_138.out
               have hs35 : w33.cell? ⟨gb139, 1, none⟩ = some (.int .u64 x140001_2) := (blk_cell BK139.out 1).trans rfl
               have hfs35 := blk_frozen BK139.out 1
               have hns35_0 := NB138_139.out
               have hms35_0 := NB139_138.out
               refine skip_ (w1 := ?_) (by rfl) rfl ?_ ?_
               rotate_left
               ·go_simp
                rfl
               refine hK.out _ _ ?_
               clear hK K
               refine pure_ (i := 7) (N := some 5) (v := ?_) (a' := ?_) #[true, true, true, true, true, true, true, true] rfl rfl (any_of HT_.out (by kernel_rfl)) (fun _ _ _ h => h) (Or.inl ⟨by rfl, ?_⟩) ?_ ?_
               rotate_left
               ·intro w'
                go_simp
                with_reducible rfl
               rotate_left
               ·simp only [Act.put, List.setIfInBounds_toArray, List.set_cons_zero, List.set_cons_succ, i64_w, i32_w]
                rfl
               refine done_ (done_of HT_.out (by kernel_rfl)) ?_
               try go_wp2
               have n0_ : Aside0 (Kd.V (Kd.int .u8) 5 ((w33.setCell ⟨gb139, 0, none⟩ (.int .u64 t146)).setCell ⟨gb139, 1, none⟩ (.int .u64 t147)) w.heap.size (fun k_ => k_ ≠ gb138 ∧ k_ ≠ gb139) (.slice (some ad143) y140.length co16) y140) := ⟨by (with_reducible repeat (first | apply Kd.V_alloc | apply Kd.V_drewN | apply Kd.V_drew)); exact Kd.V_mono (Kd.V_far (p := ⟨gb139, 1, none⟩) (Kd.V_far (p := ⟨gb139, 0, none⟩) (Kd.V_mono HO_23.out (fun k_ hk => (⟨hk, hk.2⟩ : _ ∧ k_ ≠ gb139))) (fun _ hk => hk.2) (.int .u64 t146)) (fun _ hk => hk.2) (.int .u64 t147)) (fun _ hk => ⟨hk.1.1, hk.1.2⟩)⟩
               have n1_ : Aside0 (((w33.setCell ⟨gb139, 0, none⟩ (.int .u64 t146)).setCell ⟨gb139, 1, none⟩ (.int .u64 t147)).heap[gb138]? = some (.cells #[.int .u64 x139000_2, .int .u64 x139001_2] 24 (0, 0))) := ⟨by (with_reducible repeat (first | refine blk_drewN ?_ _ | refine blk_drew ?_ | refine blk_alloc ?_ _)); refine blk_far ?_ NB138_139.out _; (with_reducible repeat (first | refine blk_drewN ?_ _ | refine blk_drew ?_ | refine blk_alloc ?_ _)); refine blk_far ?_ NB138_139.out _; (with_reducible repeat (first | refine blk_drewN ?_ _ | refine blk_drew ?_ | refine blk_alloc ?_ _)); exact BK138.out⟩
               have n2_ : Aside0 (((w33.setCell ⟨gb139, 0, none⟩ (.int .u64 t146)).setCell ⟨gb139, 1, none⟩ (.int .u64 t147)).heap[gb139]? = some (.cells #[.int .u64 t146, .int .u64 t147] 24 (0, 0))) := ⟨by (with_reducible repeat (first | refine blk_drewN ?_ _ | refine blk_drew ?_ | refine blk_alloc ?_ _)); refine blk_put (cs := #[.int .u64 t146, .int .u64 x140001_2]) ?_ 1 _ rfl; (with_reducible repeat (first | refine blk_drewN ?_ _ | refine blk_drew ?_ | refine blk_alloc ?_ _)); refine blk_put (cs := #[.int .u64 x140000_2, .int .u64 x140001_2]) ?_ 0 _ rfl; (with_reducible repeat (first | refine blk_drewN ?_ _ | refine blk_drew ?_ | refine blk_alloc ?_ _)); exact BK139.out⟩
               have n3_ : Aside0 (Below w.heap.size w ((w33.setCell ⟨gb139, 0, none⟩ (.int .u64 t146)).setCell ⟨gb139, 1, none⟩ (.int .u64 t147))) := ⟨by repeat (first | (with_reducible first | exact HB.out | apply below_alloc | apply pw_below_drewN | apply below_drew1 | refine below_set ?_ GE138.out | refine below_set ?_ GE139.out) | exact HB.out)⟩
               (try clear HO_23)
               (try clear BK138)
               (try clear BK139)
               (try clear HB)
               generalize ((w33.setCell ⟨gb139, 0, none⟩ (.int .u64 t146)).setCell ⟨gb139, 1, none⟩ (.int .u64 t147)) = w36 at n0_ n1_ n2_ n3_ ⊢
               have HO_23 := n0_
               have BK138 := n1_
               have BK139 := n2_
               have HB := n3_
               clear n0_ n1_ n2_ n3_
               have n0_ := Aside0.mk (Kd.V_drew HO_23.out)
               have n1_ := Aside0.mk (blk_drew BK138.out)
               have n2_ := Aside0.mk (blk_drew BK139.out)
               have n3_ := Aside0.mk (below_drew1 HB.out)
               clear HO_23
               clear BK138
               clear BK139
               clear HB
               have HO_23 := n0_
               have BK138 := n1_
               have BK139 := n2_
               have HB := n3_
               clear n0_ n1_ n2_ n3_
               refine start_ (n := 11) (S := fun w' => w'.cell? ⟨gb139, 0, none⟩ = some (.int .u64 t146) ∧ w'.cell? ⟨gb139, 1, none⟩ = some (.int .u64 t147)) (ds := [9]) #[false, false, false, false, false, false, false, false, false, false, false] (by kernel_rfl) rfl rfl ⟨(blk_cell BK139.out 0).trans rfl, (blk_cell BK139.out 1).trans rfl⟩ (fun hHeld => ?_); refine with_tabW wide_Parse.tab12 wide_Parse.bits12 (fun HT_ HW_ => ?_)
               generalize w36.drew = w37 at HO_23 BK138 BK139 HB hHeld ⊢
               refine pure_ (i := 1) (N := some 48) (v := ?_) (a' := ?_) #[false, true, false, false, false, false, false, false, false, false, false] rfl rfl (any_of HT_.out (by kernel_rfl)) (fun _ _ _ h => h) (Or.inl ⟨by rfl, ?_⟩) ?_ ?_
               rotate_left
               ·intro w'
                go_simp
                with_reducible rfl
               rotate_left
               ·simp only [Act.put, List.setIfInBounds_toArray, List.set_cons_zero, List.set_cons_succ, i64_w, i32_w]
                rfl
               refine pure_ (i := 2) (N := some 49) (v := ?_) (a' := ?_) #[false, true, true, false, false, false, false, false, false, false, false] rfl rfl (any_of HT_.out (by kernel_rfl)) (fun _ _ _ h => h) (Or.inl ⟨by rfl, ?_⟩) ?_ ?_
               rotate_left
               ·intro w'
                go_simp
                with_reducible rfl
               rotate_left
               ·simp only [Act.put, List.setIfInBounds_toArray, List.set_cons_zero, List.set_cons_succ, i64_w, i32_w]
                rfl
               refine pure_ (i := 3) (N := some 50) (v := ?_) (a' := ?_) #[false, true, true, true, false, false, false, false, false, false, false] rfl rfl (any_of HT_.out (by kernel_rfl)) (fun _ _ _ h => h) (Or.inl ⟨by rfl, ?_⟩) ?_ ?_
               rotate_left
               ·intro w'
                go_simp
                with_reducible rfl
               rotate_left
               ·simp only [Act.put, List.setIfInBounds_toArray, List.set_cons_zero, List.set_cons_succ, i64_w, i32_w]
                rfl
               refine take_ (i := 0) (N := some 47) (v := ?_) (a' := ?_) #[true, true, true, true, false, false, false, false, false, false, false] rfl rfl (take_ofW HT_.out HW_.out (by kernel_rfl)) (fun _ _ _ h => h) (Or.inl ⟨by rfl, ?_⟩) hHeld ?_ ?_
               rotate_left
               ·rintro w' ⟨s0, s1⟩
                go_simp
                with_reducible rfl
               rotate_left
               ·simp only [Act.put, List.setIfInBounds_toArray, List.set_cons_zero, List.set_cons_succ, i64_w, i32_w]
                rfl
               refine one_ (i := 4) (N := some 51) #[true, true, true, true, true, false, false, false, false, false, false] rfl rfl (one_of HT_.out (by kernel_rfl)) (by decide) (fun K hK => ?_)
               refine goes_ Try.func12 (by kernel_rfl) rfl #[.int .i64 (((rd y140 x25_2) - 48) % 256)] (by rfl) rfl rfl (by (try simp only [List.map_toArray, List.map_cons, List.map_nil]); first | done | rfl | (simp only [List.length_drop, List.length_take]; rfl) | (go_simp; simp only [u8_w, w64_u8]; done) | (go_simp; simp only [u8_w, w64_u8]; rfl)) ?_
               with_reducible refine (wide_Of.calls (((rd y140 x25_2) - 48) % 256) t149 t150 _ A29.out).mono ?_
               rintro e w38 ⟨rfl, hb⟩
               refine ⟨_, rfl, ?_⟩
               have n0_ := Aside0.mk (Kd.V_below (vN HO_23) hb)
               have n1_ := blkB BK138 hb
               have n2_ := blkB BK139 hb
               have n3_ := Aside0.mk (below_step (bL HB) hb)
               clear HO_23
               clear BK138
               clear BK139
               clear HB
               have HO_23 := n0_
               have BK138 := n1_
               have BK139 := n2_
               have HB := n3_
               clear n0_ n1_ n2_ n3_
               (try clear hb)
               (try clear hb2)
               (try clear hk)
               (try clear hi)
               refine hK.out _ _ ⟨(blk_cell BK139.out 0).trans rfl, (blk_cell BK139.out 1).trans rfl⟩ (fun hHeld => ?_)
               clear hK K
               refine norm_ (a' := ?_) ?_ ?_
               rotate_left
               ·show Act.put _ (some 51) _ = _
                simp only [Act.put, List.setIfInBounds_toArray, List.set_cons_zero, List.set_cons_succ, i64_w, i32_w]
                rfl
               refine one_ (i := 5) (N := some 52) #[true, true, true, true, true, true, false, false, false, false, false] rfl rfl (one_of HT_.out (by kernel_rfl)) (by decide) (fun K hK => ?_)
               refine goes_ Try.func18 (by kernel_rfl) rfl #[.agg #[.int .u64 t146, .int .u64 t147], .agg #[.int .u64 t149, .int .u64 t150]] (by rfl) rfl rfl (by (try simp only [List.map_toArray, List.map_cons, List.map_nil]); first | done | rfl | (simp only [List.length_drop, List.length_take]; rfl) | (go_simp; simp only [u8_w, w64_u8]; done) | (go_simp; simp only [u8_w, w64_u8]; rfl)) ?_
               with_reducible refine (wide_Add.calls t146 t147 t149 t150 t151 t152 t153 _ A30.out).mono ?_
               rintro e w39 ⟨rfl, hb⟩
               refine ⟨_, rfl, ?_⟩
               have n0_ := Aside0.mk (Kd.V_below (vN HO_23) hb)
               have n1_ := blkB BK138 hb
               have n2_ := blkB BK139 hb
               have n3_ := Aside0.mk (below_step (bL HB) hb)
               clear HO_23
               clear BK138
               clear BK139
               clear HB
               have HO_23 := n0_
               have BK138 := n1_
               have BK139 := n2_
               have HB := n3_
               clear n0_ n1_ n2_ n3_
               (try clear hb)
               (try clear hb2)
               (try clear hk)
               (try clear hi)
               refine hK.out _ _ ⟨(blk_cell BK139.out 0).trans rfl, (blk_cell BK139.out 1).trans rfl⟩ (fun hHeld => ?_)
               clear hK K
               refine norm_ (a' := ?_) ?_ ?_
               rotate_left
               ·show Act.put _ (some 52) _ = _
                simp only [Act.put, List.setIfInBounds_toArray, List.set_cons_zero, List.set_cons_succ, i64_w, i32_w]
                rfl
               refine pure_ (i := 6) (N := some 46) (v := ?_) (a' := ?_) #[true, true, true, true, true, true, true, false, false, false, false] rfl rfl (any_of HT_.out (by kernel_rfl)) (fun _ _ _ h => h) (Or.inl ⟨by rfl, ?_⟩) ?_ ?_
               rotate_left
               ·intro w'
                go_simp
                with_reducible rfl
               rotate_left
               ·simp only [Act.put, List.setIfInBounds_toArray, List.set_cons_zero, List.set_cons_succ, i64_w, i32_w]
                rfl
               refine pure_ (i := 7) (N := some 53) (v := ?_) (a' := ?_) #[true, true, true, true, true, true, true, true, false, false, false] rfl rfl (any_of HT_.out (by kernel_rfl)) (fun _ _ _ h => h) (Or.inl ⟨by rfl, ?_⟩) ?_ ?_
               rotate_left
               ·intro w'
                go_simp
                with_reducible rfl
               rotate_left
               ·simp only [Act.put, List.setIfInBounds_toArray, List.set_cons_zero, List.set_cons_succ, i64_w, i32_w]
                rfl
               refine pure_ (i := 8) (N := some 54) (v := ?_) (a' := ?_) #[true, true, true, true, true, true, true, true, true, false, false] rfl rfl (any_of HT_.out (by kernel_rfl)) (fun _ _ _ h => h) (Or.inl ⟨by rfl, ?_⟩) ?_ ?_
               rotate_left
               ·intro w'
                go_simp
                with_reducible rfl
               rotate_left
               ·simp only [Act.put, List.setIfInBounds_toArray, List.set_cons_zero, List.set_cons_succ, i64_w, i32_w]
                rfl
               refine last_ (i := 9) (N := none) #[true, true, true, true, true, true, true, true, true, true, false] rfl rfl (one_of HT_.out (by kernel_rfl)) (by decide) (fun K hK => ?_)
               have hs40 : w39.cell? ⟨gb139, 0, none⟩ = some (.int .u64 t146) := (blk_cell BK139.out 0).trans rfl
               have hfs40 := blk_frozen BK139.out 0
               have hns40_0 := NB138_139.out
               have hms40_0 := NB139_138.out
               have hs41 : w39.cell? ⟨gb139, 1, none⟩ = some (.int .u64 t147) := (blk_cell BK139.out 1).trans rfl
               have hfs41 := blk_frozen BK139.out 1
               have hns41_0 := NB138_139.out
               have hms41_0 := NB139_138.out
               refine skip_ (w1 := ?_) (by rfl) rfl ?_ ?_
               rotate_left
               ·go_simp
                rfl
               refine hK.out _ _ ?_
               clear hK K
               refine pure_ (i := 10) (N := some 5) (v := ?_) (a' := ?_) #[true, true, true, true, true, true, true, true, true, true, true] rfl rfl (any_of HT_.out (by kernel_rfl)) (fun _ _ _ h => h) (Or.inl ⟨by rfl, ?_⟩) ?_ ?_
               rotate_left
               ·intro w'
                go_simp
                with_reducible rfl
               rotate_left
               ·simp only [Act.put, List.setIfInBounds_toArray, List.set_cons_zero, List.set_cons_succ, i64_w, i32_w]
                rfl
               refine done_ (done_of HT_.out (by kernel_rfl)) ?_
               try go_wp2
               go_roundg kj19
               case measure => have := HJ1.out; have := HK2.out; have := HJ19.out; omega
               case rel => exact ⟨(t153), (wrap64 (x25_2 + 1)), (x139000_2), (x139001_2), (t151), (t152), (by first | rfl | (simp; done) | (simp [*]; done)), (by first | rfl | (simp; done) | (simp [*]; done)), H', ⟨by have := HJ1.out; have := HK2.out; have := HJ19.out; omega⟩, ⟨by (with_reducible repeat (first | apply Kd.V_alloc | apply Kd.V_drewN | apply Kd.V_drew)); exact Kd.V_mono (Kd.V_far (p := ⟨gb139, 1, none⟩) (Kd.V_far (p := ⟨gb139, 0, none⟩) (Kd.V_mono HO_23.out (fun k_ hk => (⟨hk, hk.2⟩ : _ ∧ k_ ≠ gb139))) (fun _ hk => hk.2) (.int .u64 t151)) (fun _ hk => hk.2) (.int .u64 t152)) (fun _ hk => ⟨hk.1.1, hk.1.2⟩)⟩, ⟨by (with_reducible repeat (first | refine blk_drewN ?_ _ | refine blk_drew ?_ | refine blk_alloc ?_ _)); refine blk_far ?_ NB138_139.out _; (with_reducible repeat (first | refine blk_drewN ?_ _ | refine blk_drew ?_ | refine blk_alloc ?_ _)); refine blk_far ?_ NB138_139.out _; (with_reducible repeat (first | refine blk_drewN ?_ _ | refine blk_drew ?_ | refine blk_alloc ?_ _)); exact BK138.out⟩, ⟨by (with_reducible repeat (first | refine blk_drewN ?_ _ | refine blk_drew ?_ | refine blk_alloc ?_ _)); refine blk_put (cs := #[.int .u64 t151, .int .u64 t147]) ?_ 1 _ rfl; (with_reducible repeat (first | refine blk_drewN ?_ _ | refine blk_drew ?_ | refine blk_alloc ?_ _)); refine blk_put (cs := #[.int .u64 t146, .int .u64 t147]) ?_ 0 _ rfl; (with_reducible repeat (first | refine blk_drewN ?_ _ | refine blk_drew ?_ | refine blk_alloc ?_ _)); exact BK139.out⟩, ⟨by repeat (first | (with_reducible first | exact HB.out | apply below_alloc | apply pw_below_drewN | apply below_drew1 | refine below_set ?_ GE138.out | refine below_set ?_ GE139.out) | exact HB.out)⟩⟩
              ·rw [if_neg c28] at H
               have c28b0 : (t148 == 0) = false := beq_eq_false_iff_ne.mpr c28
               have c28b1 : (t148 != 0) = true := bne_iff_ne.mpr c28
               have H' := Aside0.mk H
               clear H
               try go_wp2
               have n0_ := Aside0.mk (Kd.V_drew HO_23.out)
               have n1_ := Aside0.mk (blk_drew BK138.out)
               have n2_ := Aside0.mk (blk_drew BK139.out)
               have n3_ := Aside0.mk (below_drew1 HB.out)
               clear HO_23
               clear BK138
               clear BK139
               clear HB
               have HO_23 := n0_
               have BK138 := n1_
               have BK139 := n2_
               have HB := n3_
               clear n0_ n1_ n2_ n3_
               refine start_ (n := 8) (S := fun w' => w'.cell? ⟨gb139, 0, none⟩ = some (.int .u64 x140000_2) ∧ w'.cell? ⟨gb139, 1, none⟩ = some (.int .u64 x140001_2)) (ds := [6]) #[false, false, false, false, false, false, false, false] (by kernel_rfl) rfl rfl ⟨(blk_cell BK139.out 0).trans rfl, (blk_cell BK139.out 1).trans rfl⟩ (fun hHeld => ?_); refine with_tabW wide_Parse.tab10 wide_Parse.bits10 (fun HT_ HW_ => ?_)
               generalize wc.drew = w42 at HO_23 BK138 BK139 HB hHeld ⊢
               refine take_ (i := 0) (N := some 39) (v := ?_) (a' := ?_) #[true, false, false, false, false, false, false, false] rfl rfl (take_ofW HT_.out HW_.out (by kernel_rfl)) (fun _ _ _ h => h) (Or.inl ⟨by rfl, ?_⟩) hHeld ?_ ?_
               rotate_left
               ·rintro w' ⟨s0, s1⟩
                go_simp
                with_reducible rfl
               rotate_left
               ·simp only [Act.put, List.setIfInBounds_toArray, List.set_cons_zero, List.set_cons_succ, i64_w, i32_w]
                rfl
               refine one_ (i := 1) (N := some 40) #[true, true, false, false, false, false, false, false] rfl rfl (one_of HT_.out (by kernel_rfl)) (by decide) (fun K hK => ?_)
               refine goes_ Try.func12 (by kernel_rfl) rfl #[.int .i64 10] (by rfl) rfl rfl (by (try simp only [List.map_toArray, List.map_cons, List.map_nil]); first | done | rfl | (simp only [List.length_drop, List.length_take]; rfl) | (go_simp; simp only [u8_w, w64_u8]; done) | (go_simp; simp only [u8_w, w64_u8]; rfl)) ?_
               with_reducible refine (wide_Of.calls 10 t144 t145 _ A26.out).mono ?_
               rintro e w43 ⟨rfl, hb⟩
               refine ⟨_, rfl, ?_⟩
               have n0_ := Aside0.mk (Kd.V_below (vN HO_23) hb)
               have n1_ := blkB BK138 hb
               have n2_ := blkB BK139 hb
               have n3_ := Aside0.mk (below_step (bL HB) hb)
               clear HO_23
               clear BK138
               clear BK139
               clear HB
               have HO_23 := n0_
               have BK138 := n1_
               have BK139 := n2_
               have HB := n3_
               clear n0_ n1_ n2_ n3_
               (try clear hb)
               (try clear hb2)
               (try clear hk)
               (try clear hi)
               refine hK.out _ _ ⟨(blk_cell BK139.out 0).trans rfl, (blk_cell BK139.out 1).trans rfl⟩ (fun hHeld => ?_)
               clear hK K
               refine norm_ (a' := ?_) ?_ ?_
               rotate_left
               ·show Act.put _ (some 40) _ = _
                simp only [Act.put, List.setIfInBounds_toArray, List.set_cons_zero, List.set_cons_succ, i64_w, i32_w]
                rfl
               refine one_ (i := 2) (N := some 41) #[true, true, true, false, false, false, false, false] rfl rfl (one_of HT_.out (by kernel_rfl)) (by decide) (fun K hK => ?_)
               refine goes_ Try.func19 (by kernel_rfl) rfl #[.agg #[.int .u64 x140000_2, .int .u64 x140001_2], .agg #[.int .u64 t144, .int .u64 t145]] (by rfl) rfl rfl (by (try simp only [List.map_toArray, List.map_cons, List.map_nil]); first | done | rfl | (simp only [List.length_drop, List.length_take]; rfl) | (go_simp; simp only [u8_w, w64_u8]; done) | (go_simp; simp only [u8_w, w64_u8]; rfl)) ?_
               with_reducible refine (wide_Mul.calls kj19 x140000_2 x140001_2 t144 t145 t146 t147 t148 _ A27.out).mono ?_
               rintro e w44 ⟨rfl, hb⟩
               refine ⟨_, rfl, ?_⟩
               have n0_ := Aside0.mk (Kd.V_below (vN HO_23) hb)
               have n1_ := blkB BK138 hb
               have n2_ := blkB BK139 hb
               have n3_ := Aside0.mk (below_step (bL HB) hb)
               clear HO_23
               clear BK138
               clear BK139
               clear HB
               have HO_23 := n0_
               have BK138 := n1_
               have BK139 := n2_
               have HB := n3_
               clear n0_ n1_ n2_ n3_
               (try clear hb)
               (try clear hb2)
               (try clear hk)
               (try clear hi)
               refine hK.out _ _ ⟨(blk_cell BK139.out 0).trans rfl, (blk_cell BK139.out 1).trans rfl⟩ (fun hHeld => ?_)
               clear hK K
               refine norm_ (a' := ?_) ?_ ?_
               rotate_left
               ·show Act.put _ (some 41) _ = _
                simp only [Act.put, List.setIfInBounds_toArray, List.set_cons_zero, List.set_cons_succ, i64_w, i32_w]
                rfl
               refine pure_ (i := 3) (N := some 38) (v := ?_) (a' := ?_) #[true, true, true, true, false, false, false, false] rfl rfl (any_of HT_.out (by kernel_rfl)) (fun _ _ _ h => h) (Or.inl ⟨by rfl, ?_⟩) ?_ ?_
               rotate_left
               ·intro w'
                go_simp
                with_reducible rfl
               rotate_left
               ·simp only [Act.put, List.setIfInBounds_toArray, List.set_cons_zero, List.set_cons_succ, i64_w, i32_w]
                rfl
               refine pure_ (i := 4) (N := some 42) (v := ?_) (a' := ?_) #[true, true, true, true, true, false, false, false] rfl rfl (any_of HT_.out (by kernel_rfl)) (fun _ _ _ h => h) (Or.inl ⟨by rfl, ?_⟩) ?_ ?_
               rotate_left
               ·intro w'
                go_simp
                with_reducible rfl
               rotate_left
               ·simp only [Act.put, List.setIfInBounds_toArray, List.set_cons_zero, List.set_cons_succ, i64_w, i32_w]
                rfl
               refine pure_ (i := 5) (N := some 43) (v := ?_) (a' := ?_) #[true, true, true, true, true, true, false, false] rfl rfl (any_of HT_.out (by kernel_rfl)) (fun _ _ _ h => h) (Or.inl ⟨by rfl, ?_⟩) ?_ ?_
               rotate_left
               ·intro w'
                go_simp
                with_reducible rfl
               rotate_left
               ·simp only [Act.put, List.setIfInBounds_toArray, List.set_cons_zero, List.set_cons_succ, i64_w, i32_w]
                rfl
               refine last_ (i := 6) (N := none) #[true, true, true, true, true, true, true, false] rfl rfl (one_of HT_.out (by kernel_rfl)) (by decide) (fun K hK => ?_)
               have hs45 : w44.cell? ⟨gb139, 0, none⟩ = some (.int .u64 x140000_2) := (blk_cell BK139.out 0).trans rfl
               have hfs45 := blk_frozen BK139.out 0
               have hns45_0 := NB138_139.out
               have hms45_0 := NB139_138.out
               have hs46 : w44.cell? ⟨gb139, 1, none⟩ = some (.int .u64 x140001_2) := (blk_cell BK139.out 1).trans rfl
               have hfs46 := blk_frozen BK139.out 1
               have hns46_0 := NB138_139.out
               have hms46_0 := NB139_138.out
               refine skip_ (w1 := ?_) (by rfl) rfl ?_ ?_
               rotate_left
               ·go_simp
                rfl
               refine hK.out _ _ ?_
               clear hK K
               refine pure_ (i := 7) (N := some 5) (v := ?_) (a' := ?_) #[true, true, true, true, true, true, true, true] rfl rfl (any_of HT_.out (by kernel_rfl)) (fun _ _ _ h => h) (Or.inl ⟨by rfl, ?_⟩) ?_ ?_
               rotate_left
               ·intro w'
                go_simp
                with_reducible rfl
               rotate_left
               ·simp only [Act.put, List.setIfInBounds_toArray, List.set_cons_zero, List.set_cons_succ, i64_w, i32_w]
                rfl
               refine done_ (done_of HT_.out (by kernel_rfl)) ?_
               try go_wp2
               go_roundg kj19
               case measure => have := HJ1.out; have := HK2.out; have := HJ19.out; omega
               case rel => exact ⟨(t148), (wrap64 (x25_2 + 1)), (x139000_2), (x139001_2), (t146), (t147), (by first | rfl | (simp; done) | (simp [*]; done)), (by first | rfl | (simp; done) | (simp [*]; done)), H', ⟨by have := HJ1.out; have := HK2.out; have := HJ19.out; omega⟩, ⟨by (with_reducible repeat (first | apply Kd.V_alloc | apply Kd.V_drewN | apply Kd.V_drew)); exact Kd.V_mono (Kd.V_far (p := ⟨gb139, 1, none⟩) (Kd.V_far (p := ⟨gb139, 0, none⟩) (Kd.V_mono HO_23.out (fun k_ hk => (⟨hk, hk.2⟩ : _ ∧ k_ ≠ gb139))) (fun _ hk => hk.2) (.int .u64 t146)) (fun _ hk => hk.2) (.int .u64 t147)) (fun _ hk => ⟨hk.1.1, hk.1.2⟩)⟩, ⟨by (with_reducible repeat (first | refine blk_drewN ?_ _ | refine blk_drew ?_ | refine blk_alloc ?_ _)); refine blk_far ?_ NB138_139.out _; (with_reducible repeat (first | refine blk_drewN ?_ _ | refine blk_drew ?_ | refine blk_alloc ?_ _)); refine blk_far ?_ NB138_139.out _; (with_reducible repeat (first | refine blk_drewN ?_ _ | refine blk_drew ?_ | refine blk_alloc ?_ _)); exact BK138.out⟩, ⟨by (with_reducible repeat (first | refine blk_drewN ?_ _ | refine blk_drew ?_ | refine blk_alloc ?_ _)); refine blk_put (cs := #[.int .u64 t146, .int .u64 x140001_2]) ?_ 1 _ rfl; (with_reducible repeat (first | refine blk_drewN ?_ _ | refine blk_drew ?_ | refine blk_alloc ?_ _)); refine blk_put (cs := #[.int .u64 x140000_2, .int .u64 x140001_2]) ?_ 0 _ rfl; (with_reducible repeat (first | refine blk_drewN ?_ _ | refine blk_drew ?_ | refine blk_alloc ?_ _)); exact BK139.out⟩, ⟨by repeat (first | (with_reducible first | exact HB.out | apply below_alloc | apply pw_below_drewN | apply below_drew1 | refine below_set ?_ GE138.out | refine below_set ?_ GE139.out) | exact HB.out)⟩⟩
             ·rw [if_neg c25] at H
              have c25b0 : (x5_2 == 0) = false := beq_eq_false_iff_ne.mpr c25
              have c25b1 : (x5_2 != 0) = true := bne_iff_ne.mpr c25
              have H' := Aside0.mk H
              clear H
              go_wp2
              go_roundg kj19
              case measure => have := HJ1.out; have := HK2.out; have := HJ19.out; omega
              case rel => exact ⟨(x5_2), (wrap64 (x25_2 + 1)), (x139000_2), (x139001_2), (x140000_2), (x140001_2), (by first | rfl | (simp; done) | (simp [*]; done)), (by first | rfl | (simp; done) | (simp [*]; done)), H', ⟨by have := HJ1.out; have := HK2.out; have := HJ19.out; omega⟩, ⟨by (with_reducible repeat (first | apply Kd.V_alloc | apply Kd.V_drewN | apply Kd.V_drew)); exact HO_23.out⟩, ⟨bN BK138⟩, ⟨bN BK139⟩, ⟨by repeat (first | (with_reducible first | exact HB.out | apply below_alloc | apply pw_below_drewN | apply below_drew1 | refine below_set ?_ GE138.out | refine below_set ?_ GE139.out) | exact HB.out)⟩⟩
         ·rw [if_neg c19] at H
          exact absurd H (by simp)
        ·rw [if_neg c18] at H
         exact absurd H (by simp)
       ·rw [if_neg c17] at H
        have c17b0 : decide (x25_2 < (y140.length : Int)) = false := decide_eq_false c17
        clear c17
        by_cases c47 : x5_2 = 0
        ·rw [if_pos c47] at H
         have c47b0 : (x5_2 == 0) = true := beq_iff_eq.mpr c47
         have c47b1 : (x5_2 != 0) = false := bne_eq_false_iff_eq.mpr c47
         clear c47
         simp only [Option.some.injEq, Prod.mk.injEq] at H
         obtain ⟨rfl, rfl, rfl⟩ := H
         have hnb48 := NB139_138.out
         have hnc48 := NB138_139.out
         have hcz49_0 : wr.cell? ⟨gb139, 0, none⟩ = some (.int .u64 x140000_2) := (blk_cell BK139.out 0).trans rfl
         have hcz49_1 : wr.cell? ⟨gb139, 1, none⟩ = some (.int .u64 x140001_2) := (blk_cell BK139.out 1).trans rfl
         have hfz49_0 := blk_frozen BK139.out 0
         have hfz49_1 := blk_frozen BK139.out 1
         have hcz50_0 : wr.cell? ⟨gb138, 0, none⟩ = some (.int .u64 x139000_2) := (blk_cell BK138.out 0).trans rfl
         have hcz50_1 : wr.cell? ⟨gb138, 1, none⟩ = some (.int .u64 x139001_2) := (blk_cell BK138.out 1).trans rfl
         have hfz50_0 := blk_frozen BK138.out 0
         have hfz50_1 := blk_frozen BK138.out 1
         go_wp2
         refine bodyPost_ret (results_ct rfl _ _ gb138 24 #[.int .u64 x140000_2, .int .u64 x140001_2] (0, 0) _ rfl (by (with_reducible repeat (first | refine blk_drewN ?_ _ | refine blk_drew ?_ | refine blk_alloc ?_ _)); refine blk_put (cs := #[.int .u64 x140000_2, .int .u64 x139001_2]) ?_ 1 _ rfl; (with_reducible repeat (first | refine blk_drewN ?_ _ | refine blk_drew ?_ | refine blk_alloc ?_ _)); refine blk_put (cs := #[.int .u64 x139000_2, .int .u64 x139001_2]) ?_ 0 _ rfl; (with_reducible repeat (first | refine blk_drewN ?_ _ | refine blk_drew ?_ | refine blk_alloc ?_ _)); exact BK138.out) Try.underlying24 rfl (by kernel_rfl)) rfl ?_
         exact ⟨by first | rfl | (simp [errW_none, errW_some] <;> rfl) | (simp [*, errW_none, errW_some] <;> rfl), by repeat (first | (with_reducible first | exact HB.out | apply below_alloc | apply pw_below_drewN | apply below_drew1 | refine below_set ?_ GE138.out | refine below_set ?_ GE139.out) | exact HB.out)⟩
        ·rw [if_neg c47] at H
         have c47b0 : (x5_2 == 0) = false := beq_eq_false_iff_ne.mpr c47
         have c47b1 : (x5_2 != 0) = true := bne_iff_ne.mpr c47
         simp only [Option.some.injEq, Prod.mk.injEq] at H
         obtain ⟨rfl, rfl, rfl⟩ := H
         have hnb51 := NB138_139.out
         have hnc51 := NB139_138.out
         have hcz52_0 : wr.cell? ⟨gb138, 0, none⟩ = some (.int .u64 x139000_2) := (blk_cell BK138.out 0).trans rfl
         have hcz52_1 : wr.cell? ⟨gb138, 1, none⟩ = some (.int .u64 x139001_2) := (blk_cell BK138.out 1).trans rfl
         have hfz52_0 := blk_frozen BK138.out 0
         have hfz52_1 := blk_frozen BK138.out 1
         go_wp2
         refine bodyPost_ret (results_ct rfl _ _ gb138 24 #[.int .u64 0, .int .u64 0] (0, 0) _ rfl (by (with_reducible repeat (first | refine blk_drewN ?_ _ | refine blk_drew ?_ | refine blk_alloc ?_ _)); refine blk_put (cs := #[.int .u64 0, .int .u64 x139001_2]) ?_ 1 _ rfl; (with_reducible repeat (first | refine blk_drewN ?_ _ | refine blk_drew ?_ | refine blk_alloc ?_ _)); refine blk_put (cs := #[.int .u64 x139000_2, .int .u64 x139001_2]) ?_ 0 _ rfl; (with_reducible repeat (first | refine blk_drewN ?_ _ | refine blk_drew ?_ | refine blk_alloc ?_ _)); exact BK138.out) Try.underlying24 rfl (by kernel_rfl)) rfl ?_
         exact ⟨by first | rfl | (simp [errW_none, errW_some] <;> rfl) | (simp [*, errW_none, errW_some] <;> rfl), by repeat (first | (with_reducible first | exact HB.out | apply below_alloc | apply pw_below_drewN | apply below_drew1 | refine below_set ?_ GE138.out | refine below_set ?_ GE139.out) | exact HB.out)⟩
    ·rw [if_neg c10] at H
     exact absurd H (by simp)

end Go.Proofs.Ytjnaebcdidilgaa.Q
