/- Functions of the program as Lean functions, and their walks: printed by print.py as this session changed it (mkprint.py). Lean checks it. No condition. (halved) -/
import Derived.Test.YtjnaebcdidilgaaQx0
import Derived.Test.YtjnaebcdidilgaaQx3
namespace Go.Proofs.Ytjnaebcdidilgaa.Q
open Go.RowKit Go.Proofs.YtjnaebcdidilgaaW.PrintWords Go.Proofs.YtjnaebcdidilgaaW.PrintLast Go.Proofs.YtjnaebcdidilgaaW.PrintMore
attribute [local go_sem] max2_int min2_int max_two min_two max_three min_three max_four min_four   -- for this text's walks alone
attribute [local go_sem] Instr.field asAgg
set_option linter.unusedVariables false
set_option linter.unusedSimpArgs false

/-! ### wide_times: function 40 -/
mutual
def wide_times.j0 : Nat → Bool → Int → Int → Int → Int → Option (Int × Int × Bool)
 | 0, _, _, _, _, _ => none
 | k + 1, x21, x109000, x109001, x110000, x110001 => if x21 = true then (some (0, 0, false)) else ((bits_Mul64.f x109001 x110001).bind fun bt111 => ((bits_Mul64.f x109000 x110001).bind fun bt113 => ((bits_Mul64.f x109001 x110000).bind fun bt115 => (if bt113.1 = 0 then (wide_times.j1 k bt111.1 bt111.2 bt113.2 bt115.2 (bt115.1 != 0)) else (wide_times.j1 k bt111.1 bt111.2 bt113.2 bt115.2 true)))))
def wide_times.j1 : Nat → Int → Int → Int → Int → Bool → Option (Int × Int × Bool)
 | 0, _, _, _, _, _ => none
 | k + 1, x6, x7, x9, x11, x52 => if x52 = true then (some (0, 0, false)) else (if (add64C x6 x9 0) = 0 then (some (add64S (add64S x6 x9 0) x11 0, x7, ((add64C (add64S x6 x9 0) x11 0) == 0))) else (some (add64S (add64S x6 x9 0) x11 0, x7, false)))
end
def wide_times.f (k : Nat) (a0_0 : Int) (a0_1 : Int) (a1_0 : Int) (a1_1 : Int) : Option (Int × Int × Bool) := if a0_0 = 0 then (wide_times.j0 k false a0_0 a0_1 a1_0 a1_1) else (wide_times.j0 k (a1_0 != 0) a0_0 a0_1 a1_0 a1_1)
theorem wide_times.mono_l : ∀ k, (∀ y0 y1 y2 y3 y4, LeO (wide_times.j0 k y0 y1 y2 y3 y4) (wide_times.j0 (k + 1) y0 y1 y2 y3 y4)) ∧ (∀ y0 y1 y2 y3 y4, LeO (wide_times.j1 k y0 y1 y2 y3 y4) (wide_times.j1 (k + 1) y0 y1 y2 y3 y4))
 | 0 => ⟨fun _ _ _ _ _ r h => by simp [wide_times.j0] at h, fun _ _ _ _ _ r h => by simp [wide_times.j1] at h⟩
 | k + 1 => by
  obtain ⟨ih0, ih1⟩ := wide_times.mono_l k
  refine ⟨?_, ?_⟩
  ·intro y0 y1 y2 y3 y4
   unfold wide_times.j0
   repeat' first
   | (with_reducible exact ih0 _ _ _ _ _)
   | (with_reducible exact ih1 _ _ _ _ _)
   | (with_reducible exact LeO.refl _)
   | (with_reducible exact LeO.none _)
   | (with_reducible refine LeO.ite ?_ ?_)
   | (with_reducible refine LeO.bind ?_ (fun _ => ?_))
  ·intro y0 y1 y2 y3 y4
   unfold wide_times.j1
   repeat' first
   | (with_reducible exact ih0 _ _ _ _ _)
   | (with_reducible exact ih1 _ _ _ _ _)
   | (with_reducible exact LeO.refl _)
   | (with_reducible exact LeO.none _)
   | (with_reducible refine LeO.ite ?_ ?_)
   | (with_reducible refine LeO.bind ?_ (fun _ => ?_))
theorem wide_times.mono : ∀ a0 a1 a2 a3 k, LeO (wide_times.f k a0 a1 a2 a3) (wide_times.f (k + 1) a0 a1 a2 a3) := by
 intro a0 a1 a2 a3 k
 obtain ⟨ih0, ih1⟩ := wide_times.mono_l k
 unfold wide_times.f
 repeat' first
   | (with_reducible exact ih0 _ _ _ _ _)
   | (with_reducible exact ih1 _ _ _ _ _)
   | (with_reducible exact LeO.refl _)
   | (with_reducible exact LeO.none _)
   | (with_reducible refine LeO.ite ?_ ?_)
   | (with_reducible refine LeO.bind ?_ (fun _ => ?_))
set_option maxHeartbeats 8000000 in
set_option maxRecDepth 100000 in
theorem wide_times.calls (k : Nat) (a0_0 : Int) (a0_1 : Int) (a1_0 : Int) (a1_1 : Int) (r1 : Int) (r2 : Int) (r3 : Bool) (w : World) (h : wide_times.f k a0_0 a0_1 a1_0 a1_1 = some (r1, r2, r3)) :
  Calls Try.prog 40 #[.agg #[.int .u64 a0_0, .int .u64 a0_1], .agg #[.int .u64 a1_0, .int .u64 a1_1]] w fun e w' => e = .returned (.tuple #[.agg #[.int .u64 r1, .int .u64 r2], .bool r3]) ∧ Below w.heap.size w w' := by
 have hu60 := Try.underlying60
 have hprim39 := @primAdd640_39
 have hprimc39 := @primAdd64_39
 have HB := Aside0.mk (Below.refl w.heap.size w)
 have H : (if a0_0 = 0 then (wide_times.j0 k false a0_0 a0_1 a1_0 a1_1) else (wide_times.j0 k (a1_0 != 0) a0_0 a0_1 a1_0 a1_1)) = some (r1, r2, r3) := h
 clear h
 have HC3 := Aside0.mk H
 clear H
 go_enter Try.func40, Try.ntmps40
 go_upto_region 1 with (first | ((with_reducible refine gate_dst (N := 2) rfl ?_); refine box_event ?hg (N := 2) ?hd (cs := #[.int .u64 a0_0, .int .u64 a0_1]) (t := 60) ?hr ?_; (case hd => rfl); (case hg => rfl); (case hr => first | (go_simp; done) | (go_simp; rfl)); intro gb108 hg w4 hbox hb; have n0_ := Aside0.mk (below_step (bL HB) hb); have n1_ := Aside0.mk (hbox); have n2_ := Aside0.mk ((by rw [hg]; exact (below_size (bL HB)) : w.heap.size ≤ gb108)); have n3_ := Aside0.mk ((by rw [hg]; exact (below_size (bL HB)) : w.heap.size ≤ gb108)); clear HB; have HB := n0_; have BK108 := n1_; have GW108 := n2_; have GE108 := n3_; clear n0_ n1_ n2_ n3_; clear hb hbox hg) | ((with_reducible refine gate_dst (N := 3) rfl ?_); refine box_event ?hg (N := 3) ?hd (cs := #[.int .u64 a1_0, .int .u64 a1_1]) (t := 60) ?hr ?_; (case hd => rfl); (case hg => rfl); (case hr => first | (go_simp; done) | (go_simp; rfl)); intro gb109 hg w5 hbox hb; have n0_ := blkB BK108 hb; have n1_ := Aside0.mk (below_step (bL HB) hb); have n2_ := Aside0.mk (hbox); have n3_ := Aside0.mk ((by rw [hg]; exact (below_size (bL HB)) : w.heap.size ≤ gb109)); have n4_ := Aside0.mk ((by rw [hg]; exact (below_size (bL HB)) : w.heap.size ≤ gb109)); have n5_ := blkL BK108 hg; have n6_ := blkG BK108 hg; clear BK108 HB; have BK108 := n0_; have HB := n1_; have BK109 := n2_; have GW109 := n3_; have GE109 := n4_; have NB108_109 := n5_; have NB109_108 := n6_; clear n0_ n1_ n2_ n3_ n4_ n5_ n6_; clear hb hbox hg) | ((with_reducible refine gate_dst (N := 4) rfl ?_); refine box_event ?hg (N := 4) ?hd (cs := #[.int .u64 0, .int .u64 0]) (t := 60) ?hr ?_; (case hd => rfl); (case hg => rfl); (case hr => first | (go_simp; done) | (go_simp; rfl)); intro gb110 hg w6 hbox hb; have n0_ := blkB BK108 hb; have n1_ := blkB BK109 hb; have n2_ := Aside0.mk (below_step (bL HB) hb); have n3_ := Aside0.mk (hbox); have n4_ := Aside0.mk ((by rw [hg]; exact (below_size (bL HB)) : w.heap.size ≤ gb110)); have n5_ := Aside0.mk ((by rw [hg]; exact (below_size (bL HB)) : w.heap.size ≤ gb110)); have n6_ := blkL BK108 hg; have n7_ := blkG BK108 hg; have n8_ := blkL BK109 hg; have n9_ := blkG BK109 hg; clear BK108 BK109 HB; have BK108 := n0_; have BK109 := n1_; have HB := n2_; have BK110 := n3_; have GW110 := n4_; have GE110 := n5_; have NB108_110 := n6_; have NB110_108 := n7_; have NB109_110 := n8_; have NB110_109 := n9_; clear n0_ n1_ n2_ n3_ n4_ n5_ n6_ n7_ n8_ n9_; clear hb hbox hg))
 (try simp only [Act.put, List.setIfInBounds_toArray, List.set_cons_zero, List.set_cons_succ])
 go_cut [21] (fun v21 wc => ∃ (kq : Nat) (x21_2 : Bool), v21 = .bool x21_2 ∧ Aside0 (wide_times.j0 kq x21_2 a0_0 a0_1 a1_0 a1_1 = some (r1, r2, r3)) ∧ Aside0 (kq ≤ k) ∧ Aside0 (wc.heap[gb108]? = some (.cells #[.int .u64 a0_0, .int .u64 a0_1] 60 (0, 0))) ∧ Aside0 (wc.heap[gb109]? = some (.cells #[.int .u64 a1_0, .int .u64 a1_1] 60 (0, 0))) ∧ Aside0 (wc.heap[gb110]? = some (.cells #[.int .u64 0, .int .u64 0] 60 (0, 0))) ∧ Aside0 (Below w.heap.size w wc))
 case first =>
  have H := HC3.out
  clear HC3
  by_cases c7 : a0_0 = 0
  ·rw [if_pos c7] at H
   have c7b0 : (a0_0 == 0) = true := beq_iff_eq.mpr c7
   have c7b1 : (a0_0 != 0) = false := bne_eq_false_iff_eq.mpr c7
   clear c7
   (first | rw [c7b0] | (simp only [i64_w, i32_w]; rw [c7b0]) | skip)
   have H' := Aside0.mk H
   clear H
   have hnb8 := NB108_109.out
   have hnc8 := NB109_108.out
   have hnb9 := NB108_110.out
   have hnc9 := NB110_108.out
   have hcz10_0 : w6.cell? ⟨gb108, 0, none⟩ = some (.int .u64 a0_0) := (blk_cell BK108.out 0).trans rfl
   have hcz10_1 : w6.cell? ⟨gb108, 1, none⟩ = some (.int .u64 a0_1) := (blk_cell BK108.out 1).trans rfl
   have hfz10_0 := blk_frozen BK108.out 0
   have hfz10_1 := blk_frozen BK108.out 1
   go_wp2
   go_meet
   case rel => exact ⟨_, (false), (by first | rfl | (simp; done) | (simp [*]; done)), H', ⟨by first | omega | exact Nat.le_refl _⟩, ⟨bN BK108⟩, ⟨bN BK109⟩, ⟨bN BK110⟩, ⟨by repeat (first | (with_reducible first | exact HB.out | apply below_alloc | apply pw_below_drewN | apply below_drew1 | refine below_set ?_ GE108.out | refine below_set ?_ GE109.out | refine below_set ?_ GE110.out) | exact HB.out)⟩⟩
  ·rw [if_neg c7] at H
   have c7b0 : (a0_0 == 0) = false := beq_eq_false_iff_ne.mpr c7
   have c7b1 : (a0_0 != 0) = true := bne_iff_ne.mpr c7
   (first | rw [c7b0] | (simp only [i64_w, i32_w]; rw [c7b0]) | skip)
   have H' := Aside0.mk H
   clear H
   have hnb11 := NB108_109.out
   have hnc11 := NB109_108.out
   have hnb12 := NB108_110.out
   have hnc12 := NB110_108.out
   have hcz13_0 : w6.cell? ⟨gb108, 0, none⟩ = some (.int .u64 a0_0) := (blk_cell BK108.out 0).trans rfl
   have hcz13_1 : w6.cell? ⟨gb108, 1, none⟩ = some (.int .u64 a0_1) := (blk_cell BK108.out 1).trans rfl
   have hfz13_0 := blk_frozen BK108.out 0
   have hfz13_1 := blk_frozen BK108.out 1
   have hnb14 := NB109_110.out
   have hnc14 := NB110_109.out
   have hcz15_0 : w6.cell? ⟨gb109, 0, none⟩ = some (.int .u64 a1_0) := (blk_cell BK109.out 0).trans rfl
   have hcz15_1 : w6.cell? ⟨gb109, 1, none⟩ = some (.int .u64 a1_1) := (blk_cell BK109.out 1).trans rfl
   have hfz15_0 := blk_frozen BK109.out 0
   have hfz15_1 := blk_frozen BK109.out 1
   go_wp2
   go_meet
   case rel => exact ⟨_, ((a1_0 != 0)), (by first | rfl | (simp; done) | (simp [*]; done)), H', ⟨by first | omega | exact Nat.le_refl _⟩, ⟨bN BK108⟩, ⟨bN BK109⟩, ⟨bN BK110⟩, ⟨by repeat (first | (with_reducible first | exact HB.out | apply below_alloc | apply pw_below_drewN | apply below_drew1 | refine below_set ?_ GE108.out | refine below_set ?_ GE109.out | refine below_set ?_ GE110.out) | exact HB.out)⟩⟩
 case rest =>
  clear HC3
  try clear c1
  try clear p2
  try clear c4
  try clear c7
  try clear c7b0
  try clear c7b1
  try clear c8
  try clear c9
  try clear c11
  try clear c12
  try clear c14
  try clear hcz10_0
  try clear hcz10_1
  try clear hcz13_0
  try clear hcz13_1
  try clear hcz15_0
  try clear hcz15_1
  try clear hfz10_0
  try clear hfz10_1
  try clear hfz13_0
  try clear hfz13_1
  try clear hfz15_0
  try clear hfz15_1
  obtain ⟨kq, x21_2, rfl, HA, HJ2, BK108, BK109, BK110, HB⟩ := hcut
  cases kq with
  | zero => exact absurd HA.out (by simp [wide_times.j0])
  | succ kj2 =>
   have H := HA.out
   clear HA
   simp only [wide_times.j0] at H
   by_cases c16 : x21_2 = true
   ·subst c16
    have H1 : (some (0, 0, false)) = some (r1, r2, r3) := by rw [if_pos rfl] at H; exact H
    clear H
    have H := H1
    clear H1
    simp only [Option.some.injEq, Prod.mk.injEq] at H
    obtain ⟨rfl, rfl, rfl⟩ := H
    have hnb17 := NB110_108.out
    have hnc17 := NB108_110.out
    have hnb18 := NB110_109.out
    have hnc18 := NB109_110.out
    have hcz19_0 : wc.cell? ⟨gb110, 0, none⟩ = some (.int .u64 0) := (blk_cell BK110.out 0).trans rfl
    have hcz19_1 : wc.cell? ⟨gb110, 1, none⟩ = some (.int .u64 0) := (blk_cell BK110.out 1).trans rfl
    have hfz19_0 := blk_frozen BK110.out 0
    have hfz19_1 := blk_frozen BK110.out 1
    go_wp2
    refine bodyPost_ret (results_ct rfl _ _ gb110 60 #[.int .u64 0, .int .u64 0] (0, 0) _ rfl (by (with_reducible repeat (first | refine blk_drewN ?_ _ | refine blk_drew ?_ | refine blk_alloc ?_ _)); refine blk_put (cs := #[.int .u64 0, .int .u64 0]) ?_ 1 _ rfl; (with_reducible repeat (first | refine blk_drewN ?_ _ | refine blk_drew ?_ | refine blk_alloc ?_ _)); refine blk_put (cs := #[.int .u64 0, .int .u64 0]) ?_ 0 _ rfl; (with_reducible repeat (first | refine blk_drewN ?_ _ | refine blk_drew ?_ | refine blk_alloc ?_ _)); exact BK110.out) Try.underlying60 rfl (by kernel_rfl)) rfl ?_
    exact ⟨by first | rfl | (simp [errW_none, errW_some] <;> rfl) | (simp [*, errW_none, errW_some] <;> rfl), by repeat (first | (with_reducible first | exact HB.out | apply below_alloc | apply pw_below_drewN | apply below_drew1 | refine below_set ?_ GE108.out | refine below_set ?_ GE109.out | refine below_set ?_ GE110.out) | exact HB.out)⟩
   ·replace c16 := Bool.eq_false_iff.mpr c16
    subst c16
    have H1 : ((bits_Mul64.f a0_1 a1_1).bind fun bt111 => ((bits_Mul64.f a0_0 a1_1).bind fun bt113 => ((bits_Mul64.f a0_1 a1_0).bind fun bt115 => (if bt113.1 = 0 then (wide_times.j1 kj2 bt111.1 bt111.2 bt113.2 bt115.2 (bt115.1 != 0)) else (wide_times.j1 kj2 bt111.1 bt111.2 bt113.2 bt115.2 true))))) = some (r1, r2, r3) := by rw [if_neg (show ¬ (false = true) by decide)] at H; exact H
    clear H
    have H := H1
    clear H1
    replace H := Option.bind_eq_some_iff.mp H
    obtain ⟨⟨t111, t112⟩, A200, H⟩ := H
    replace H : ((bits_Mul64.f a0_0 a1_1).bind fun bt113 => ((bits_Mul64.f a0_1 a1_0).bind fun bt115 => (if bt113.1 = 0 then (wide_times.j1 kj2 t111 t112 bt113.2 bt115.2 (bt115.1 != 0)) else (wide_times.j1 kj2 t111 t112 bt113.2 bt115.2 true)))) = some (r1, r2, r3) := H
    have A20 := Aside0.mk A200
    clear A200
    replace H := Option.bind_eq_some_iff.mp H
    obtain ⟨⟨t113, t114⟩, A210, H⟩ := H
    replace H : ((bits_Mul64.f a0_1 a1_0).bind fun bt115 => (if t113 = 0 then (wide_times.j1 kj2 t111 t112 t114 bt115.2 (bt115.1 != 0)) else (wide_times.j1 kj2 t111 t112 t114 bt115.2 true))) = some (r1, r2, r3) := H
    have A21 := Aside0.mk A210
    clear A210
    replace H := Option.bind_eq_some_iff.mp H
    obtain ⟨⟨t115, t116⟩, A220, H⟩ := H
    replace H : (if t113 = 0 then (wide_times.j1 kj2 t111 t112 t114 t116 (t115 != 0)) else (wide_times.j1 kj2 t111 t112 t114 t116 true)) = some (r1, r2, r3) := H
    have A22 := Aside0.mk A220
    clear A220
    have HC23 := Aside0.mk H
    clear H
    have hnb24 := NB108_109.out
    have hnc24 := NB109_108.out
    have hnb25 := NB108_110.out
    have hnc25 := NB110_108.out
    have hcz26_0 : wc.cell? ⟨gb108, 0, none⟩ = some (.int .u64 a0_0) := (blk_cell BK108.out 0).trans rfl
    have hcz26_1 : wc.cell? ⟨gb108, 1, none⟩ = some (.int .u64 a0_1) := (blk_cell BK108.out 1).trans rfl
    have hfz26_0 := blk_frozen BK108.out 0
    have hfz26_1 := blk_frozen BK108.out 1
    have hnb27 := NB109_110.out
    have hnc27 := NB110_109.out
    have hcz28_0 : wc.cell? ⟨gb109, 0, none⟩ = some (.int .u64 a1_0) := (blk_cell BK109.out 0).trans rfl
    have hcz28_1 : wc.cell? ⟨gb109, 1, none⟩ = some (.int .u64 a1_1) := (blk_cell BK109.out 1).trans rfl
    have hfz28_0 := blk_frozen BK109.out 0
    have hfz28_1 := blk_frozen BK109.out 1
    go_upto_region 6 with (first | ((with_reducible refine gate_callee (f := 49) rfl ?_); refine goesL_ (some 28) rfl rfl Try.func49 (by kernel_rfl) rfl #[.int .u64 a0_1, .int .u64 a1_1] rfl (by (try simp only [List.map_toArray, List.map_cons, List.map_nil]); first | done | rfl | (simp only [List.length_drop, List.length_take]; rfl) | (go_simp; simp only [u8_w, w64_u8]; done) | (go_simp; simp only [u8_w, w64_u8]; rfl)) ?_; (with_reducible refine (bits_Mul64.calls a0_1 a1_1 t111 t112 _ A20.out).mono ?_); rintro e w' ⟨rfl, ⟨nd, rfl⟩⟩; refine ⟨_, rfl, ?_⟩) | ((with_reducible refine gate_callee (f := 49) rfl ?_); refine goesL_ (some 36) rfl rfl Try.func49 (by kernel_rfl) rfl #[.int .u64 a0_0, .int .u64 a1_1] rfl (by (try simp only [List.map_toArray, List.map_cons, List.map_nil]); first | done | rfl | (simp only [List.length_drop, List.length_take]; rfl) | (go_simp; simp only [u8_w, w64_u8]; done) | (go_simp; simp only [u8_w, w64_u8]; rfl)) ?_; (with_reducible refine (bits_Mul64.calls a0_0 a1_1 t113 t114 _ A21.out).mono ?_); rintro e w' ⟨rfl, ⟨nd, rfl⟩⟩; refine ⟨_, rfl, ?_⟩) | ((with_reducible refine gate_callee (f := 49) rfl ?_); refine goesL_ (some 44) rfl rfl Try.func49 (by kernel_rfl) rfl #[.int .u64 a0_1, .int .u64 a1_0] rfl (by (try simp only [List.map_toArray, List.map_cons, List.map_nil]); first | done | rfl | (simp only [List.length_drop, List.length_take]; rfl) | (go_simp; simp only [u8_w, w64_u8]; done) | (go_simp; simp only [u8_w, w64_u8]; rfl)) ?_; (with_reducible refine (bits_Mul64.calls a0_1 a1_0 t115 t116 _ A22.out).mono ?_); rintro e w' ⟨rfl, ⟨nd, rfl⟩⟩; refine ⟨_, rfl, ?_⟩))
    (try simp only [Act.put, List.setIfInBounds_toArray, List.set_cons_zero, List.set_cons_succ])
    go_cut [52] (fun v52 wc => ∃ (kq : Nat) (x52_22 : Bool), v52 = .bool x52_22 ∧ Aside0 (wide_times.j1 kq t111 t112 t114 t116 x52_22 = some (r1, r2, r3)) ∧ Aside0 (kq ≤ kj2) ∧ Aside0 (wc.heap[gb108]? = some (.cells #[.int .u64 a0_0, .int .u64 a0_1] 60 (0, 0))) ∧ Aside0 (wc.heap[gb109]? = some (.cells #[.int .u64 a1_0, .int .u64 a1_1] 60 (0, 0))) ∧ Aside0 (wc.heap[gb110]? = some (.cells #[.int .u64 0, .int .u64 0] 60 (0, 0))) ∧ Aside0 (Below w.heap.size w wc))
    case first =>
     have H := HC23.out
     clear HC23
     by_cases c29 : t113 = 0
     ·rw [if_pos c29] at H
      have c29b0 : (t113 == 0) = true := beq_iff_eq.mpr c29
      have c29b1 : (t113 != 0) = false := bne_eq_false_iff_eq.mpr c29
      clear c29
      (first | rw [c29b0] | (simp only [i64_w, i32_w]; rw [c29b0]) | skip)
      have H' := Aside0.mk H
      clear H
      go_wp2
      go_meet
      case rel => exact ⟨_, ((t115 != 0)), (by first | rfl | (simp; done) | (simp [*]; done)), H', ⟨by have := HJ2.out; first | omega | exact Nat.le_refl _⟩, ⟨bN BK108⟩, ⟨bN BK109⟩, ⟨bN BK110⟩, ⟨by repeat (first | (with_reducible first | exact HB.out | apply below_alloc | apply pw_below_drewN | apply below_drew1 | refine below_set ?_ GE108.out | refine below_set ?_ GE109.out | refine below_set ?_ GE110.out) | exact HB.out)⟩⟩
     ·rw [if_neg c29] at H
      have c29b0 : (t113 == 0) = false := beq_eq_false_iff_ne.mpr c29
      have c29b1 : (t113 != 0) = true := bne_iff_ne.mpr c29
      (first | rw [c29b0] | (simp only [i64_w, i32_w]; rw [c29b0]) | skip)
      have H' := Aside0.mk H
      clear H
      go_wp2
      go_meet
      case rel => exact ⟨_, (true), (by first | rfl | (simp; done) | (simp [*]; done)), H', ⟨by have := HJ2.out; first | omega | exact Nat.le_refl _⟩, ⟨bN BK108⟩, ⟨bN BK109⟩, ⟨bN BK110⟩, ⟨by repeat (first | (with_reducible first | exact HB.out | apply below_alloc | apply pw_below_drewN | apply below_drew1 | refine below_set ?_ GE108.out | refine below_set ?_ GE109.out | refine below_set ?_ GE110.out) | exact HB.out)⟩⟩
    case rest =>
     clear HC23
     try clear c1
     try clear c2
     try clear p2
     try clear c4
     try clear c7
     try clear c7b0
     try clear c7b1
     try clear c8
     try clear c9
     try clear c11
     try clear c12
     try clear c14
     try clear c16
     try clear c17
     try clear c18
     try clear c24
     try clear c25
     try clear c27
     try clear c29
     try clear c29b0
     try clear c29b1
     try clear hcz10_0
     try clear hcz10_1
     try clear hcz13_0
     try clear hcz13_1
     try clear hcz15_0
     try clear hcz15_1
     try clear hcz19_0
     try clear hcz19_1
     try clear hcz26_0
     try clear hcz26_1
     try clear hcz28_0
     try clear hcz28_1
     try clear hfz10_0
     try clear hfz10_1
     try clear hfz13_0
     try clear hfz13_1
     try clear hfz15_0
     try clear hfz15_1
     try clear hfz19_0
     try clear hfz19_1
     try clear hfz26_0
     try clear hfz26_1
     try clear hfz28_0
     try clear hfz28_1
     try clear p2
     obtain ⟨kq, x52_22, rfl, HA, HJ22, BK108, BK109, BK110, HB⟩ := hcut
     cases kq with
     | zero => exact absurd HA.out (by simp [wide_times.j1])
     | succ kj22 =>
      have H := HA.out
      clear HA
      simp only [wide_times.j1] at H
      by_cases c30 : x52_22 = true
      ·subst c30
       have H1 : (some (0, 0, false)) = some (r1, r2, r3) := by rw [if_pos rfl] at H; exact H
       clear H
       have H := H1
       clear H1
       simp only [Option.some.injEq, Prod.mk.injEq] at H
       obtain ⟨rfl, rfl, rfl⟩ := H
       have hnb31 := NB110_108.out
       have hnc31 := NB108_110.out
       have hnb32 := NB110_109.out
       have hnc32 := NB109_110.out
       have hcz33_0 : wc.cell? ⟨gb110, 0, none⟩ = some (.int .u64 0) := (blk_cell BK110.out 0).trans rfl
       have hcz33_1 : wc.cell? ⟨gb110, 1, none⟩ = some (.int .u64 0) := (blk_cell BK110.out 1).trans rfl
       have hfz33_0 := blk_frozen BK110.out 0
       have hfz33_1 := blk_frozen BK110.out 1
       go_wp2
       refine bodyPost_ret (results_ct rfl _ _ gb110 60 #[.int .u64 0, .int .u64 0] (0, 0) _ rfl (by (with_reducible repeat (first | refine blk_drewN ?_ _ | refine blk_drew ?_ | refine blk_alloc ?_ _)); refine blk_put (cs := #[.int .u64 0, .int .u64 0]) ?_ 1 _ rfl; (with_reducible repeat (first | refine blk_drewN ?_ _ | refine blk_drew ?_ | refine blk_alloc ?_ _)); refine blk_put (cs := #[.int .u64 0, .int .u64 0]) ?_ 0 _ rfl; (with_reducible repeat (first | refine blk_drewN ?_ _ | refine blk_drew ?_ | refine blk_alloc ?_ _)); exact BK110.out) Try.underlying60 rfl (by kernel_rfl)) rfl ?_
       exact ⟨by first | rfl | (simp [errW_none, errW_some] <;> rfl) | (simp [*, errW_none, errW_some] <;> rfl), by repeat (first | (with_reducible first | exact HB.out | apply below_alloc | apply pw_below_drewN | apply below_drew1 | refine below_set ?_ GE108.out | refine below_set ?_ GE109.out | refine below_set ?_ GE110.out) | exact HB.out)⟩
      ·replace c30 := Bool.eq_false_iff.mpr c30
       subst c30
       have H1 : (if (add64C t111 t114 0) = 0 then (some (add64S (add64S t111 t114 0) t116 0, t112, ((add64C (add64S t111 t114 0) t116 0) == 0))) else (some (add64S (add64S t111 t114 0) t116 0, t112, false))) = some (r1, r2, r3) := by rw [if_neg (show ¬ (false = true) by decide)] at H; exact H
       clear H
       have H := H1
       clear H1
       by_cases c34 : (add64C t111 t114 0) = 0
       ·rw [if_pos c34] at H
        have c34b0 : ((add64C t111 t114 0) == 0) = true := beq_iff_eq.mpr c34
        have c34b1 : ((add64C t111 t114 0) != 0) = false := bne_eq_false_iff_eq.mpr c34
        clear c34
        simp only [Option.some.injEq, Prod.mk.injEq] at H
        obtain ⟨rfl, rfl, rfl⟩ := H
        have hnb35 := NB110_108.out
        have hnc35 := NB108_110.out
        have hnb36 := NB110_109.out
        have hnc36 := NB109_110.out
        have hcz37_0 : wc.cell? ⟨gb110, 0, none⟩ = some (.int .u64 0) := (blk_cell BK110.out 0).trans rfl
        have hcz37_1 : wc.cell? ⟨gb110, 1, none⟩ = some (.int .u64 0) := (blk_cell BK110.out 1).trans rfl
        have hfz37_0 := blk_frozen BK110.out 0
        have hfz37_1 := blk_frozen BK110.out 1
        go_wp2
        refine bodyPost_ret (results_ct rfl _ _ gb110 60 #[.int .u64 (add64S (add64S t111 t114 0) t116 0), .int .u64 t112] (0, 0) _ rfl (by (with_reducible repeat (first | refine blk_drewN ?_ _ | refine blk_drew ?_ | refine blk_alloc ?_ _)); refine blk_put (cs := #[.int .u64 (add64S (add64S t111 t114 0) t116 0), .int .u64 0]) ?_ 1 _ rfl; (with_reducible repeat (first | refine blk_drewN ?_ _ | refine blk_drew ?_ | refine blk_alloc ?_ _)); refine blk_put (cs := #[.int .u64 0, .int .u64 0]) ?_ 0 _ rfl; (with_reducible repeat (first | refine blk_drewN ?_ _ | refine blk_drew ?_ | refine blk_alloc ?_ _)); exact BK110.out) Try.underlying60 rfl (by kernel_rfl)) rfl ?_
        exact ⟨by first | rfl | (simp [errW_none, errW_some] <;> rfl) | (simp [*, errW_none, errW_some] <;> rfl), by repeat (first | (with_reducible first | exact HB.out | apply below_alloc | apply pw_below_drewN | apply below_drew1 | refine below_set ?_ GE108.out | refine below_set ?_ GE109.out | refine below_set ?_ GE110.out) | exact HB.out)⟩
       ·rw [if_neg c34] at H
        have c34b0 : ((add64C t111 t114 0) == 0) = false := beq_eq_false_iff_ne.mpr c34
        have c34b1 : ((add64C t111 t114 0) != 0) = true := bne_iff_ne.mpr c34
        simp only [Option.some.injEq, Prod.mk.injEq] at H
        obtain ⟨rfl, rfl, rfl⟩ := H
        have hnb38 := NB110_108.out
        have hnc38 := NB108_110.out
        have hnb39 := NB110_109.out
        have hnc39 := NB109_110.out
        have hcz40_0 : wc.cell? ⟨gb110, 0, none⟩ = some (.int .u64 0) := (blk_cell BK110.out 0).trans rfl
        have hcz40_1 : wc.cell? ⟨gb110, 1, none⟩ = some (.int .u64 0) := (blk_cell BK110.out 1).trans rfl
        have hfz40_0 := blk_frozen BK110.out 0
        have hfz40_1 := blk_frozen BK110.out 1
        go_wp2
        refine bodyPost_ret (results_ct rfl _ _ gb110 60 #[.int .u64 (add64S (add64S t111 t114 0) t116 0), .int .u64 t112] (0, 0) _ rfl (by (with_reducible repeat (first | refine blk_drewN ?_ _ | refine blk_drew ?_ | refine blk_alloc ?_ _)); refine blk_put (cs := #[.int .u64 (add64S (add64S t111 t114 0) t116 0), .int .u64 0]) ?_ 1 _ rfl; (with_reducible repeat (first | refine blk_drewN ?_ _ | refine blk_drew ?_ | refine blk_alloc ?_ _)); refine blk_put (cs := #[.int .u64 0, .int .u64 0]) ?_ 0 _ rfl; (with_reducible repeat (first | refine blk_drewN ?_ _ | refine blk_drew ?_ | refine blk_alloc ?_ _)); exact BK110.out) Try.underlying60 rfl (by kernel_rfl)) rfl ?_
        exact ⟨by first | rfl | (simp [errW_none, errW_some] <;> rfl) | (simp [*, errW_none, errW_some] <;> rfl), by repeat (first | (with_reducible first | exact HB.out | apply below_alloc | apply pw_below_drewN | apply below_drew1 | refine below_set ?_ GE108.out | refine below_set ?_ GE109.out | refine below_set ?_ GE110.out) | exact HB.out)⟩

end Go.Proofs.Ytjnaebcdidilgaa.Q
