/- Functions of the program as Lean functions, and their walks: printed by print.py as this session changed it (mkprint.py). Lean checks it. No condition. -/
import Derived.Test.YtekndmlcmepekaaQx0
import Derived.Test.YtekndmlcmepekaaQx18
namespace Go.Proofs.Ytekndmlcmepekaa.Q
open Go.RowKit Go.Proofs.YtekndmlcmepekaaW.PrintWords Go.Proofs.YtekndmlcmepekaaW.PrintLast Go.Proofs.YtekndmlcmepekaaW.PrintMore
attribute [local go_sem] max2_int min2_int max_two min_two max_three min_three max_four min_four   -- for this text's walks alone
attribute [local go_sem] Instr.field asAgg
set_option linter.unusedVariables false
set_option linter.unusedSimpArgs false

/-! ### lorgnettelaw08_FoldOrders: function 4 -/
mutual
def lorgnettelaw08_FoldOrders.j0 : Nat → Bool → Int → Int → Int → Bool → ByteArray → Int → Int → Int → Bool → ByteArray → Option (Bool)
  | 0, _, _, _, _, _, _, _, _, _, _, _ => none
  | k + 1, x48, x505000, x505001, x505002, x505003, x505004, x506000, x506001, x506002, x506003, x506004 => if x48 = true then (some true) else ((lorgnettelaw08_is.f k (⟨#[60]⟩ : ByteArray) x505000 x505001 x505002 x505003 x505004 x506000 x506001 x506002 x506003 x506004).bind fun bt507 => ((lorgnettelaw08_is.f k (⟨#[62]⟩ : ByteArray) x505000 x505001 x505002 x505003 x505004 x506000 x506001 x506002 x506003 x506004).bind fun bt509 => ((lorgnettelaw08_is.f k (⟨#[61, 61]⟩ : ByteArray) x505000 x505001 x505002 x505003 x505004 x506000 x506001 x506002 x506003 x506004).bind fun bt511 => ((lorgnettelaw08_is.f k (⟨#[60, 61]⟩ : ByteArray) x505000 x505001 x505002 x505003 x505004 x506000 x506001 x506002 x506003 x506004).bind fun bt513 => ((lorgnettelaw08_is.f k (⟨#[62, 61]⟩ : ByteArray) x505000 x505001 x505002 x505003 x505004 x506000 x506001 x506002 x506003 x506004).bind fun bt515 => ((lorgnettelaw08_is.f k (⟨#[33, 61]⟩ : ByteArray) x505000 x505001 x505002 x505003 x505004 x506000 x506001 x506002 x506003 x506004).bind fun bt517 => ((lorgnettelaw08_is.f k (⟨#[60]⟩ : ByteArray) x506000 x506001 x506002 x506003 x506004 x505000 x505001 x505002 x505003 x505004).bind fun bt519 => (if bt507.2 = true then (if bt509.2 = true then (if bt511.2 = true then (if bt513.2 = true then (if bt515.2 = true then (if bt517.2 = true then (if bt519.2 = true then (if bt507.1 = true then (lorgnettelaw08_FoldOrders.j1 k bt507.1 bt509.1 bt511.1 bt513.1 bt515.1 bt517.1 bt519.1 (0 + 1)) else (lorgnettelaw08_FoldOrders.j1 k bt507.1 bt509.1 bt511.1 bt513.1 bt515.1 bt517.1 bt519.1 0)) else (none)) else (none)) else (none)) else (none)) else (none)) else (none)) else (none)))))))))
def lorgnettelaw08_FoldOrders.j1 : Nat → Bool → Bool → Bool → Bool → Bool → Bool → Bool → Int → Option (Bool)
  | 0, _, _, _, _, _, _, _, _ => none
  | k + 1, x5, x7, x9, x11, x13, x15, x17, x19 => if x7 = true then (if x9 = true then (if (wrap64 ((wrap64 (x19 + 1)) + 1)) = 1 then (if (x11 == (!x7)) = true then (if (x13 == (!x5)) = true then (if (x15 == (!x9)) = true then (some (x17 == x7)) else (none)) else (none)) else (none)) else (none)) else (if (wrap64 (x19 + 1)) = 1 then (if (x11 == (!x7)) = true then (if (x13 == (!x5)) = true then (if (x15 == (!x9)) = true then (some (x17 == x7)) else (none)) else (none)) else (none)) else (none))) else (if x9 = true then (if (wrap64 (x19 + 1)) = 1 then (if (x11 == (!x7)) = true then (if (x13 == (!x5)) = true then (if (x15 == (!x9)) = true then (some (x17 == x7)) else (none)) else (none)) else (none)) else (none)) else (if x19 = 1 then (if (x11 == (!x7)) = true then (if (x13 == (!x5)) = true then (if (x15 == (!x9)) = true then (some (x17 == x7)) else (none)) else (none)) else (none)) else (none)))
end
def lorgnettelaw08_FoldOrders.f (k : Nat) (a0_0 : Int) (a0_1 : Int) (a0_2 : Int) (a0_3 : Bool) (a0_4 : ByteArray) (a1_0 : Int) (a1_1 : Int) (a1_2 : Int) (a1_3 : Bool) (a1_4 : ByteArray) : Option (Bool) := (lorgnettelaw08_awake.f k).bind fun t506 => (if t506 = true then (if (a0_4.size : Int) > 1024 then (lorgnettelaw08_FoldOrders.j0 k true a0_0 a0_1 a0_2 a0_3 a0_4 a1_0 a1_1 a1_2 a1_3 a1_4) else (if (a1_4.size : Int) > 1024 then (lorgnettelaw08_FoldOrders.j0 k true a0_0 a0_1 a0_2 a0_3 a0_4 a1_0 a1_1 a1_2 a1_3 a1_4) else (if a0_0 = a1_0 then (if a0_0 = 1 then (lorgnettelaw08_FoldOrders.j0 k false a0_0 a0_1 a0_2 a0_3 a0_4 a1_0 a1_1 a1_2 a1_3 a1_4) else (lorgnettelaw08_FoldOrders.j0 k (a0_0 != 3) a0_0 a0_1 a0_2 a0_3 a0_4 a1_0 a1_1 a1_2 a1_3 a1_4)) else (lorgnettelaw08_FoldOrders.j0 k true a0_0 a0_1 a0_2 a0_3 a0_4 a1_0 a1_1 a1_2 a1_3 a1_4)))) else (none))
theorem lorgnettelaw08_FoldOrders.mono_l : ∀ k, (∀ y0 y1 y2 y3 y4 y5 y6 y7 y8 y9 y10, LeO (lorgnettelaw08_FoldOrders.j0 k y0 y1 y2 y3 y4 y5 y6 y7 y8 y9 y10) (lorgnettelaw08_FoldOrders.j0 (k + 1) y0 y1 y2 y3 y4 y5 y6 y7 y8 y9 y10)) ∧ (∀ y0 y1 y2 y3 y4 y5 y6 y7, LeO (lorgnettelaw08_FoldOrders.j1 k y0 y1 y2 y3 y4 y5 y6 y7) (lorgnettelaw08_FoldOrders.j1 (k + 1) y0 y1 y2 y3 y4 y5 y6 y7))
  | 0 => ⟨fun _ _ _ _ _ _ _ _ _ _ _ r h => by simp [lorgnettelaw08_FoldOrders.j0] at h, fun _ _ _ _ _ _ _ _ r h => by simp [lorgnettelaw08_FoldOrders.j1] at h⟩
  | k + 1 => by
    obtain ⟨ih0, ih1⟩ := lorgnettelaw08_FoldOrders.mono_l k
    refine ⟨?_, ?_⟩
    · intro y0 y1 y2 y3 y4 y5 y6 y7 y8 y9 y10
      unfold lorgnettelaw08_FoldOrders.j0
      repeat' first
      | (with_reducible exact ih0 _ _ _ _ _ _ _ _ _ _ _)
      | (with_reducible exact ih1 _ _ _ _ _ _ _ _)
      | (with_reducible exact lorgnettelaw08_awake.mono _)
      | (with_reducible exact lorgnettelaw08_is.mono _ _ _ _ _ _ _ _ _ _ _ _)
      | (with_reducible exact LeO.refl _)
      | (with_reducible exact LeO.none _)
      | (with_reducible refine LeO.ite ?_ ?_)
      | (with_reducible refine LeO.bind ?_ (fun _ => ?_))
      | exact ih0 _ _ _ _ _ _ _ _ _ _ _
      | exact ih1 _ _ _ _ _ _ _ _
      | exact lorgnettelaw08_awake.mono _
      | exact lorgnettelaw08_is.mono _ _ _ _ _ _ _ _ _ _ _ _
      | exact LeO.none _
      | refine LeO.ite ?_ ?_
      | refine LeO.bind ?_ (fun _ => ?_)
    · intro y0 y1 y2 y3 y4 y5 y6 y7
      unfold lorgnettelaw08_FoldOrders.j1
      repeat' first
      | (with_reducible exact ih0 _ _ _ _ _ _ _ _ _ _ _)
      | (with_reducible exact ih1 _ _ _ _ _ _ _ _)
      | (with_reducible exact lorgnettelaw08_awake.mono _)
      | (with_reducible exact lorgnettelaw08_is.mono _ _ _ _ _ _ _ _ _ _ _ _)
      | (with_reducible exact LeO.refl _)
      | (with_reducible exact LeO.none _)
      | (with_reducible refine LeO.ite ?_ ?_)
      | (with_reducible refine LeO.bind ?_ (fun _ => ?_))
      | exact ih0 _ _ _ _ _ _ _ _ _ _ _
      | exact ih1 _ _ _ _ _ _ _ _
      | exact lorgnettelaw08_awake.mono _
      | exact lorgnettelaw08_is.mono _ _ _ _ _ _ _ _ _ _ _ _
      | exact LeO.none _
      | refine LeO.ite ?_ ?_
      | refine LeO.bind ?_ (fun _ => ?_)
theorem lorgnettelaw08_FoldOrders.mono : ∀ a0 a1 a2 a3 a4 a5 a6 a7 a8 a9 k, LeO (lorgnettelaw08_FoldOrders.f k a0 a1 a2 a3 a4 a5 a6 a7 a8 a9) (lorgnettelaw08_FoldOrders.f (k + 1) a0 a1 a2 a3 a4 a5 a6 a7 a8 a9) := by
  intro a0 a1 a2 a3 a4 a5 a6 a7 a8 a9 k
  obtain ⟨ih0, ih1⟩ := lorgnettelaw08_FoldOrders.mono_l k
  unfold lorgnettelaw08_FoldOrders.f
  repeat' first
      | (with_reducible exact ih0 _ _ _ _ _ _ _ _ _ _ _)
      | (with_reducible exact ih1 _ _ _ _ _ _ _ _)
      | (with_reducible exact lorgnettelaw08_awake.mono _)
      | (with_reducible exact lorgnettelaw08_is.mono _ _ _ _ _ _ _ _ _ _ _ _)
      | (with_reducible exact LeO.refl _)
      | (with_reducible exact LeO.none _)
      | (with_reducible refine LeO.ite ?_ ?_)
      | (with_reducible refine LeO.bind ?_ (fun _ => ?_))
      | exact ih0 _ _ _ _ _ _ _ _ _ _ _
      | exact ih1 _ _ _ _ _ _ _ _
      | exact lorgnettelaw08_awake.mono _
      | exact lorgnettelaw08_is.mono _ _ _ _ _ _ _ _ _ _ _ _
      | exact LeO.none _
      | refine LeO.ite ?_ ?_
      | refine LeO.bind ?_ (fun _ => ?_)
set_option maxHeartbeats 8000000 in
set_option maxRecDepth 100000 in
theorem lorgnettelaw08_FoldOrders.calls (k : Nat) (a0_0 : Int) (a0_1 : Int) (a0_2 : Int) (a0_3 : Bool) (a0_4 : ByteArray) (a1_0 : Int) (a1_1 : Int) (a1_2 : Int) (a1_3 : Bool) (a1_4 : ByteArray) (r : Bool) (w : World) (h : lorgnettelaw08_FoldOrders.f k a0_0 a0_1 a0_2 a0_3 a0_4 a1_0 a1_1 a1_2 a1_3 a1_4 = some r) :
    Calls Try.prog 4 #[.agg #[.int .i64 a0_0, .int .u64 a0_1, .int .u64 a0_2, .bool a0_3, .string a0_4], .agg #[.int .i64 a1_0, .int .u64 a1_1, .int .u64 a1_2, .bool a1_3, .string a1_4]] w fun e w' => e = .returned (.bool r) ∧ Below w.heap.size w w' := by
  have hu28 := Try.underlying28
  have HB := Aside0.mk (Below.refl w.heap.size w)
  have H : ((lorgnettelaw08_awake.f k).bind fun t506 => (if t506 = true then (if (a0_4.size : Int) > 1024 then (lorgnettelaw08_FoldOrders.j0 k true a0_0 a0_1 a0_2 a0_3 a0_4 a1_0 a1_1 a1_2 a1_3 a1_4) else (if (a1_4.size : Int) > 1024 then (lorgnettelaw08_FoldOrders.j0 k true a0_0 a0_1 a0_2 a0_3 a0_4 a1_0 a1_1 a1_2 a1_3 a1_4) else (if a0_0 = a1_0 then (if a0_0 = 1 then (lorgnettelaw08_FoldOrders.j0 k false a0_0 a0_1 a0_2 a0_3 a0_4 a1_0 a1_1 a1_2 a1_3 a1_4) else (lorgnettelaw08_FoldOrders.j0 k (a0_0 != 3) a0_0 a0_1 a0_2 a0_3 a0_4 a1_0 a1_1 a1_2 a1_3 a1_4)) else (lorgnettelaw08_FoldOrders.j0 k true a0_0 a0_1 a0_2 a0_3 a0_4 a1_0 a1_1 a1_2 a1_3 a1_4)))) else (none))) = some r := h
  clear h
  replace H := Option.bind_eq_some_iff.mp H
  obtain ⟨t506, A30, H⟩ := H
  replace H : (if t506 = true then (if (a0_4.size : Int) > 1024 then (lorgnettelaw08_FoldOrders.j0 k true a0_0 a0_1 a0_2 a0_3 a0_4 a1_0 a1_1 a1_2 a1_3 a1_4) else (if (a1_4.size : Int) > 1024 then (lorgnettelaw08_FoldOrders.j0 k true a0_0 a0_1 a0_2 a0_3 a0_4 a1_0 a1_1 a1_2 a1_3 a1_4) else (if a0_0 = a1_0 then (if a0_0 = 1 then (lorgnettelaw08_FoldOrders.j0 k false a0_0 a0_1 a0_2 a0_3 a0_4 a1_0 a1_1 a1_2 a1_3 a1_4) else (lorgnettelaw08_FoldOrders.j0 k (a0_0 != 3) a0_0 a0_1 a0_2 a0_3 a0_4 a1_0 a1_1 a1_2 a1_3 a1_4)) else (lorgnettelaw08_FoldOrders.j0 k true a0_0 a0_1 a0_2 a0_3 a0_4 a1_0 a1_1 a1_2 a1_3 a1_4)))) else (none)) = some r := H
  have A3 := Aside0.mk A30
  clear A30
  by_cases c4 : t506 = true
  · subst c4
    have H1 : (if (a0_4.size : Int) > 1024 then (lorgnettelaw08_FoldOrders.j0 k true a0_0 a0_1 a0_2 a0_3 a0_4 a1_0 a1_1 a1_2 a1_3 a1_4) else (if (a1_4.size : Int) > 1024 then (lorgnettelaw08_FoldOrders.j0 k true a0_0 a0_1 a0_2 a0_3 a0_4 a1_0 a1_1 a1_2 a1_3 a1_4) else (if a0_0 = a1_0 then (if a0_0 = 1 then (lorgnettelaw08_FoldOrders.j0 k false a0_0 a0_1 a0_2 a0_3 a0_4 a1_0 a1_1 a1_2 a1_3 a1_4) else (lorgnettelaw08_FoldOrders.j0 k (a0_0 != 3) a0_0 a0_1 a0_2 a0_3 a0_4 a1_0 a1_1 a1_2 a1_3 a1_4)) else (lorgnettelaw08_FoldOrders.j0 k true a0_0 a0_1 a0_2 a0_3 a0_4 a1_0 a1_1 a1_2 a1_3 a1_4)))) = some r := by rw [if_pos rfl] at H; exact H
    clear H
    have H := H1
    clear H1
    have HC5 := Aside0.mk H
    clear H
    go_enter Try.func4, Try.ntmps4
    go_upto_region 3 with (first | ((with_reducible refine gate_dst (N := 2) rfl ?_); (try (refine gate_guard (by rfl) ?_; dsimp only)); refine box_event ?hg (N := 2) ?hd (cs := #[.int .i64 a0_0, .int .u64 a0_1, .int .u64 a0_2, .bool a0_3, .string a0_4]) (t := 28) ?hr ?_; (case hd => rfl); (case hg => rfl); (case hr => first | (go_simp; done) | (go_simp; rfl)); intro gb504 hg w6 hbox hb; have n0_ := Aside0.mk (below_step (bL HB) hb); have n1_ := Aside0.mk (hbox); have n2_ := Aside0.mk ((by rw [hg]; exact (below_size (bL HB)) : w.heap.size ≤ gb504)); have n3_ := Aside0.mk ((by rw [hg]; exact (below_size (bL HB)) : w.heap.size ≤ gb504)); clear HB; have HB := n0_; have BK504 := n1_; have GW504 := n2_; have GE504 := n3_; clear n0_ n1_ n2_ n3_; clear hb hbox hg) | ((with_reducible refine gate_dst (N := 3) rfl ?_); (try (refine gate_guard (by rfl) ?_; dsimp only)); refine box_event ?hg (N := 3) ?hd (cs := #[.int .i64 a1_0, .int .u64 a1_1, .int .u64 a1_2, .bool a1_3, .string a1_4]) (t := 28) ?hr ?_; (case hd => rfl); (case hg => rfl); (case hr => first | (go_simp; done) | (go_simp; rfl)); intro gb505 hg w7 hbox hb; have n0_ := blkB BK504 hb; have n1_ := Aside0.mk (below_step (bL HB) hb); have n2_ := Aside0.mk (hbox); have n3_ := Aside0.mk ((by rw [hg]; exact (below_size (bL HB)) : w.heap.size ≤ gb505)); have n4_ := Aside0.mk ((by rw [hg]; exact (below_size (bL HB)) : w.heap.size ≤ gb505)); have n5_ := blkL BK504 hg; have n6_ := blkG BK504 hg; clear BK504 HB; have BK504 := n0_; have HB := n1_; have BK505 := n2_; have GW505 := n3_; have GE505 := n4_; have NB504_505 := n5_; have NB505_504 := n6_; clear n0_ n1_ n2_ n3_ n4_ n5_ n6_; clear hb hbox hg) | ((with_reducible refine gate_callee (f := 8) rfl ?_); refine goesL_ (some 20) rfl rfl Try.func8 (by kernel_rfl) rfl #[] rfl (by (try simp only [List.map_toArray, List.map_cons, List.map_nil]); first | done | rfl | (simp only [List.length_drop, List.length_take]; rfl) | (go_simp; simp only [u8_w, w64_u8]; done) | (go_simp; simp only [u8_w, w64_u8]; rfl)) ?_; (with_reducible refine (lorgnettelaw08_awake.calls k  true _ A3.out).mono ?_); rintro e w8 ⟨rfl, hb⟩; refine ⟨_, rfl, ?_⟩; have n0_ := blkB BK504 hb; have n1_ := blkB BK505 hb; have n2_ := Aside0.mk (below_step (bL HB) hb); clear BK504 BK505 HB; have BK504 := n0_; have BK505 := n1_; have HB := n2_; clear n0_ n1_ n2_; (try clear hb); (try clear hb2); (try clear hk); (try clear hi)))
    (try simp only [Act.put, List.setIfInBounds_toArray, List.set_cons_zero, List.set_cons_succ])
    go_cut [48] (fun v48 wc => ∃ (kq : Nat) (x48_4 : Bool), v48 = .bool x48_4 ∧ Aside0 (lorgnettelaw08_FoldOrders.j0 kq x48_4 a0_0 a0_1 a0_2 a0_3 a0_4 a1_0 a1_1 a1_2 a1_3 a1_4 = some r) ∧ Aside0 (kq ≤ k) ∧ Aside0 (wc.heap[gb504]? = some (.cells #[.int .i64 a0_0, .int .u64 a0_1, .int .u64 a0_2, .bool a0_3, .string a0_4] 28 (0, 0))) ∧ Aside0 (wc.heap[gb505]? = some (.cells #[.int .i64 a1_0, .int .u64 a1_1, .int .u64 a1_2, .bool a1_3, .string a1_4] 28 (0, 0))) ∧ Aside0 (Below w.heap.size w wc))
    case first =>
      have H := HC5.out
      clear HC5
      by_cases c9 : (a0_4.size : Int) > 1024
      · rw [if_pos c9] at H
        have c9b0 : decide (1024 < (a0_4.size : Int)) = true := decide_eq_true c9
        have c9b1 : decide (1024 < a0_4.size) = true := decide_eq_true (by omega)
        clear c9
        (first | rw [c9b0] | (simp only [i64_w, i32_w]; rw [c9b0]) | skip)
        have H' := Aside0.mk H
        clear H
        have hnb10 := NB504_505.out
        have hnc10 := NB505_504.out
        have hcz11_0 : w8.cell? ⟨gb504, 0, none⟩ = some (.int .i64 a0_0) := (blk_cell BK504.out 0).trans rfl
        have hcz11_1 : w8.cell? ⟨gb504, 1, none⟩ = some (.int .u64 a0_1) := (blk_cell BK504.out 1).trans rfl
        have hcz11_2 : w8.cell? ⟨gb504, 2, none⟩ = some (.int .u64 a0_2) := (blk_cell BK504.out 2).trans rfl
        have hcz11_3 : w8.cell? ⟨gb504, 3, none⟩ = some (.bool a0_3) := (blk_cell BK504.out 3).trans rfl
        have hcz11_4 : w8.cell? ⟨gb504, 4, none⟩ = some (.string a0_4) := (blk_cell BK504.out 4).trans rfl
        have hfz11_0 := blk_frozen BK504.out 0
        have hfz11_1 := blk_frozen BK504.out 1
        have hfz11_2 := blk_frozen BK504.out 2
        have hfz11_3 := blk_frozen BK504.out 3
        have hfz11_4 := blk_frozen BK504.out 4
        go_wp2
        go_meet
        case rel => exact ⟨_, (true), (by first | rfl | (simp; done) | (simp [*]; done)), H', ⟨by first | omega | exact Nat.le_refl _⟩, ⟨by (with_reducible repeat (first | refine blk_drewN ?_ _ | refine blk_drew ?_ | refine blk_alloc ?_ _)); exact BK504.out⟩, ⟨by (with_reducible repeat (first | refine blk_drewN ?_ _ | refine blk_drew ?_ | refine blk_alloc ?_ _)); exact BK505.out⟩, ⟨by repeat (first | (with_reducible first | exact HB.out | apply below_alloc | apply pw_below_drewN | apply below_drew1 | refine below_set ?_ GE504.out | refine below_set ?_ GE505.out) | exact HB.out)⟩⟩
      · rw [if_neg c9] at H
        have c9b0 : decide (1024 < (a0_4.size : Int)) = false := decide_eq_false c9
        have c9b1 : decide (1024 < a0_4.size) = false := decide_eq_false (by omega)
        clear c9
        (first | rw [c9b0] | (simp only [i64_w, i32_w]; rw [c9b0]) | skip)
        by_cases c12 : (a1_4.size : Int) > 1024
        · rw [if_pos c12] at H
          have c12b0 : decide (1024 < (a1_4.size : Int)) = true := decide_eq_true c12
          have c12b1 : decide (1024 < a1_4.size) = true := decide_eq_true (by omega)
          clear c12
          have H' := Aside0.mk H
          clear H
          have hnb13 := NB504_505.out
          have hnc13 := NB505_504.out
          have hcz14_0 : w8.cell? ⟨gb504, 0, none⟩ = some (.int .i64 a0_0) := (blk_cell BK504.out 0).trans rfl
          have hcz14_1 : w8.cell? ⟨gb504, 1, none⟩ = some (.int .u64 a0_1) := (blk_cell BK504.out 1).trans rfl
          have hcz14_2 : w8.cell? ⟨gb504, 2, none⟩ = some (.int .u64 a0_2) := (blk_cell BK504.out 2).trans rfl
          have hcz14_3 : w8.cell? ⟨gb504, 3, none⟩ = some (.bool a0_3) := (blk_cell BK504.out 3).trans rfl
          have hcz14_4 : w8.cell? ⟨gb504, 4, none⟩ = some (.string a0_4) := (blk_cell BK504.out 4).trans rfl
          have hfz14_0 := blk_frozen BK504.out 0
          have hfz14_1 := blk_frozen BK504.out 1
          have hfz14_2 := blk_frozen BK504.out 2
          have hfz14_3 := blk_frozen BK504.out 3
          have hfz14_4 := blk_frozen BK504.out 4
          have hcz15_0 : w8.cell? ⟨gb505, 0, none⟩ = some (.int .i64 a1_0) := (blk_cell BK505.out 0).trans rfl
          have hcz15_1 : w8.cell? ⟨gb505, 1, none⟩ = some (.int .u64 a1_1) := (blk_cell BK505.out 1).trans rfl
          have hcz15_2 : w8.cell? ⟨gb505, 2, none⟩ = some (.int .u64 a1_2) := (blk_cell BK505.out 2).trans rfl
          have hcz15_3 : w8.cell? ⟨gb505, 3, none⟩ = some (.bool a1_3) := (blk_cell BK505.out 3).trans rfl
          have hcz15_4 : w8.cell? ⟨gb505, 4, none⟩ = some (.string a1_4) := (blk_cell BK505.out 4).trans rfl
          have hfz15_0 := blk_frozen BK505.out 0
          have hfz15_1 := blk_frozen BK505.out 1
          have hfz15_2 := blk_frozen BK505.out 2
          have hfz15_3 := blk_frozen BK505.out 3
          have hfz15_4 := blk_frozen BK505.out 4
          go_wp2
          go_meet
          case rel => exact ⟨_, (true), (by first | rfl | (simp; done) | (simp [*]; done)), H', ⟨by first | omega | exact Nat.le_refl _⟩, ⟨by (with_reducible repeat (first | refine blk_drewN ?_ _ | refine blk_drew ?_ | refine blk_alloc ?_ _)); exact BK504.out⟩, ⟨by (with_reducible repeat (first | refine blk_drewN ?_ _ | refine blk_drew ?_ | refine blk_alloc ?_ _)); exact BK505.out⟩, ⟨by repeat (first | (with_reducible first | exact HB.out | apply below_alloc | apply pw_below_drewN | apply below_drew1 | refine below_set ?_ GE504.out | refine below_set ?_ GE505.out) | exact HB.out)⟩⟩
        · rw [if_neg c12] at H
          have c12b0 : decide (1024 < (a1_4.size : Int)) = false := decide_eq_false c12
          have c12b1 : decide (1024 < a1_4.size) = false := decide_eq_false (by omega)
          clear c12
          by_cases c16 : a0_0 = a1_0
          · rw [if_pos c16] at H
            have c16b0 : (a0_0 == a1_0) = true := beq_iff_eq.mpr c16
            have c16b1 : (a0_0 != a1_0) = false := bne_eq_false_iff_eq.mpr c16
            clear c16
            by_cases c17 : a0_0 = 1
            · rw [if_pos c17] at H
              have c17b0 : (a0_0 == 1) = true := beq_iff_eq.mpr c17
              have c17b1 : (a0_0 != 1) = false := bne_eq_false_iff_eq.mpr c17
              clear c17
              have H' := Aside0.mk H
              clear H
              have hnb18 := NB504_505.out
              have hnc18 := NB505_504.out
              have hcz19_0 : w8.cell? ⟨gb504, 0, none⟩ = some (.int .i64 a0_0) := (blk_cell BK504.out 0).trans rfl
              have hcz19_1 : w8.cell? ⟨gb504, 1, none⟩ = some (.int .u64 a0_1) := (blk_cell BK504.out 1).trans rfl
              have hcz19_2 : w8.cell? ⟨gb504, 2, none⟩ = some (.int .u64 a0_2) := (blk_cell BK504.out 2).trans rfl
              have hcz19_3 : w8.cell? ⟨gb504, 3, none⟩ = some (.bool a0_3) := (blk_cell BK504.out 3).trans rfl
              have hcz19_4 : w8.cell? ⟨gb504, 4, none⟩ = some (.string a0_4) := (blk_cell BK504.out 4).trans rfl
              have hfz19_0 := blk_frozen BK504.out 0
              have hfz19_1 := blk_frozen BK504.out 1
              have hfz19_2 := blk_frozen BK504.out 2
              have hfz19_3 := blk_frozen BK504.out 3
              have hfz19_4 := blk_frozen BK504.out 4
              have hcz20_0 : w8.cell? ⟨gb505, 0, none⟩ = some (.int .i64 a1_0) := (blk_cell BK505.out 0).trans rfl
              have hcz20_1 : w8.cell? ⟨gb505, 1, none⟩ = some (.int .u64 a1_1) := (blk_cell BK505.out 1).trans rfl
              have hcz20_2 : w8.cell? ⟨gb505, 2, none⟩ = some (.int .u64 a1_2) := (blk_cell BK505.out 2).trans rfl
              have hcz20_3 : w8.cell? ⟨gb505, 3, none⟩ = some (.bool a1_3) := (blk_cell BK505.out 3).trans rfl
              have hcz20_4 : w8.cell? ⟨gb505, 4, none⟩ = some (.string a1_4) := (blk_cell BK505.out 4).trans rfl
              have hfz20_0 := blk_frozen BK505.out 0
              have hfz20_1 := blk_frozen BK505.out 1
              have hfz20_2 := blk_frozen BK505.out 2
              have hfz20_3 := blk_frozen BK505.out 3
              have hfz20_4 := blk_frozen BK505.out 4
              go_wp2
              (try (any_goals (rename_i hx_; first | exact absurd (by simpa using c16b0) hx_ | exact absurd hx_ (by simpa using c16b0))))
              go_meet
              case rel => exact ⟨_, (false), (by first | rfl | (simp; done) | (simp [*]; done)), H', ⟨by first | omega | exact Nat.le_refl _⟩, ⟨by (with_reducible repeat (first | refine blk_drewN ?_ _ | refine blk_drew ?_ | refine blk_alloc ?_ _)); exact BK504.out⟩, ⟨by (with_reducible repeat (first | refine blk_drewN ?_ _ | refine blk_drew ?_ | refine blk_alloc ?_ _)); exact BK505.out⟩, ⟨by repeat (first | (with_reducible first | exact HB.out | apply below_alloc | apply pw_below_drewN | apply below_drew1 | refine below_set ?_ GE504.out | refine below_set ?_ GE505.out) | exact HB.out)⟩⟩
            · rw [if_neg c17] at H
              have c17b0 : (a0_0 == 1) = false := beq_eq_false_iff_ne.mpr c17
              have c17b1 : (a0_0 != 1) = true := bne_iff_ne.mpr c17
              have H' := Aside0.mk H
              clear H
              have hnb21 := NB504_505.out
              have hnc21 := NB505_504.out
              have hcz22_0 : w8.cell? ⟨gb504, 0, none⟩ = some (.int .i64 a0_0) := (blk_cell BK504.out 0).trans rfl
              have hcz22_1 : w8.cell? ⟨gb504, 1, none⟩ = some (.int .u64 a0_1) := (blk_cell BK504.out 1).trans rfl
              have hcz22_2 : w8.cell? ⟨gb504, 2, none⟩ = some (.int .u64 a0_2) := (blk_cell BK504.out 2).trans rfl
              have hcz22_3 : w8.cell? ⟨gb504, 3, none⟩ = some (.bool a0_3) := (blk_cell BK504.out 3).trans rfl
              have hcz22_4 : w8.cell? ⟨gb504, 4, none⟩ = some (.string a0_4) := (blk_cell BK504.out 4).trans rfl
              have hfz22_0 := blk_frozen BK504.out 0
              have hfz22_1 := blk_frozen BK504.out 1
              have hfz22_2 := blk_frozen BK504.out 2
              have hfz22_3 := blk_frozen BK504.out 3
              have hfz22_4 := blk_frozen BK504.out 4
              have hcz23_0 : w8.cell? ⟨gb505, 0, none⟩ = some (.int .i64 a1_0) := (blk_cell BK505.out 0).trans rfl
              have hcz23_1 : w8.cell? ⟨gb505, 1, none⟩ = some (.int .u64 a1_1) := (blk_cell BK505.out 1).trans rfl
              have hcz23_2 : w8.cell? ⟨gb505, 2, none⟩ = some (.int .u64 a1_2) := (blk_cell BK505.out 2).trans rfl
              have hcz23_3 : w8.cell? ⟨gb505, 3, none⟩ = some (.bool a1_3) := (blk_cell BK505.out 3).trans rfl
              have hcz23_4 : w8.cell? ⟨gb505, 4, none⟩ = some (.string a1_4) := (blk_cell BK505.out 4).trans rfl
              have hfz23_0 := blk_frozen BK505.out 0
              have hfz23_1 := blk_frozen BK505.out 1
              have hfz23_2 := blk_frozen BK505.out 2
              have hfz23_3 := blk_frozen BK505.out 3
              have hfz23_4 := blk_frozen BK505.out 4
              go_wp2
              (try (any_goals (rename_i hx_; first | exact absurd (by simpa using c16b0) hx_ | exact absurd hx_ (by simpa using c16b0))))
              go_meet
              case rel => exact ⟨_, ((a0_0 != 3)), (by first | rfl | (simp; done) | (simp [*]; done)), H', ⟨by first | omega | exact Nat.le_refl _⟩, ⟨by (with_reducible repeat (first | refine blk_drewN ?_ _ | refine blk_drew ?_ | refine blk_alloc ?_ _)); exact BK504.out⟩, ⟨by (with_reducible repeat (first | refine blk_drewN ?_ _ | refine blk_drew ?_ | refine blk_alloc ?_ _)); exact BK505.out⟩, ⟨by repeat (first | (with_reducible first | exact HB.out | apply below_alloc | apply pw_below_drewN | apply below_drew1 | refine below_set ?_ GE504.out | refine below_set ?_ GE505.out) | exact HB.out)⟩⟩
          · rw [if_neg c16] at H
            have c16b0 : (a0_0 == a1_0) = false := beq_eq_false_iff_ne.mpr c16
            have c16b1 : (a0_0 != a1_0) = true := bne_iff_ne.mpr c16
            have H' := Aside0.mk H
            clear H
            have hnb24 := NB504_505.out
            have hnc24 := NB505_504.out
            have hcz25_0 : w8.cell? ⟨gb504, 0, none⟩ = some (.int .i64 a0_0) := (blk_cell BK504.out 0).trans rfl
            have hcz25_1 : w8.cell? ⟨gb504, 1, none⟩ = some (.int .u64 a0_1) := (blk_cell BK504.out 1).trans rfl
            have hcz25_2 : w8.cell? ⟨gb504, 2, none⟩ = some (.int .u64 a0_2) := (blk_cell BK504.out 2).trans rfl
            have hcz25_3 : w8.cell? ⟨gb504, 3, none⟩ = some (.bool a0_3) := (blk_cell BK504.out 3).trans rfl
            have hcz25_4 : w8.cell? ⟨gb504, 4, none⟩ = some (.string a0_4) := (blk_cell BK504.out 4).trans rfl
            have hfz25_0 := blk_frozen BK504.out 0
            have hfz25_1 := blk_frozen BK504.out 1
            have hfz25_2 := blk_frozen BK504.out 2
            have hfz25_3 := blk_frozen BK504.out 3
            have hfz25_4 := blk_frozen BK504.out 4
            have hcz26_0 : w8.cell? ⟨gb505, 0, none⟩ = some (.int .i64 a1_0) := (blk_cell BK505.out 0).trans rfl
            have hcz26_1 : w8.cell? ⟨gb505, 1, none⟩ = some (.int .u64 a1_1) := (blk_cell BK505.out 1).trans rfl
            have hcz26_2 : w8.cell? ⟨gb505, 2, none⟩ = some (.int .u64 a1_2) := (blk_cell BK505.out 2).trans rfl
            have hcz26_3 : w8.cell? ⟨gb505, 3, none⟩ = some (.bool a1_3) := (blk_cell BK505.out 3).trans rfl
            have hcz26_4 : w8.cell? ⟨gb505, 4, none⟩ = some (.string a1_4) := (blk_cell BK505.out 4).trans rfl
            have hfz26_0 := blk_frozen BK505.out 0
            have hfz26_1 := blk_frozen BK505.out 1
            have hfz26_2 := blk_frozen BK505.out 2
            have hfz26_3 := blk_frozen BK505.out 3
            have hfz26_4 := blk_frozen BK505.out 4
            go_wp2
            (try (any_goals (rename_i hx_; first | exact absurd (by simpa using c16b0) hx_ | exact absurd hx_ (by simpa using c16b0))))
            go_meet
            case rel => exact ⟨_, (true), (by first | rfl | (simp; done) | (simp [*]; done)), H', ⟨by first | omega | exact Nat.le_refl _⟩, ⟨by (with_reducible repeat (first | refine blk_drewN ?_ _ | refine blk_drew ?_ | refine blk_alloc ?_ _)); exact BK504.out⟩, ⟨by (with_reducible repeat (first | refine blk_drewN ?_ _ | refine blk_drew ?_ | refine blk_alloc ?_ _)); exact BK505.out⟩, ⟨by repeat (first | (with_reducible first | exact HB.out | apply below_alloc | apply pw_below_drewN | apply below_drew1 | refine below_set ?_ GE504.out | refine below_set ?_ GE505.out) | exact HB.out)⟩⟩
    case rest =>
      clear HC5
      try clear c1
      try clear c2
      try clear p2
      try clear c4
      try clear c8
      try clear c9
      try clear c9b0
      try clear c9b1
      try clear c10
      try clear c12
      try clear c12b0
      try clear c12b1
      try clear c13
      try clear c16
      try clear c16b0
      try clear c16b1
      try clear c17
      try clear c17b0
      try clear c17b1
      try clear c18
      try clear c21
      try clear c24
      try clear hcz11_0
      try clear hcz11_1
      try clear hcz11_2
      try clear hcz11_3
      try clear hcz11_4
      try clear hcz14_0
      try clear hcz14_1
      try clear hcz14_2
      try clear hcz14_3
      try clear hcz14_4
      try clear hcz15_0
      try clear hcz15_1
      try clear hcz15_2
      try clear hcz15_3
      try clear hcz15_4
      try clear hcz19_0
      try clear hcz19_1
      try clear hcz19_2
      try clear hcz19_3
      try clear hcz19_4
      try clear hcz20_0
      try clear hcz20_1
      try clear hcz20_2
      try clear hcz20_3
      try clear hcz20_4
      try clear hcz22_0
      try clear hcz22_1
      try clear hcz22_2
      try clear hcz22_3
      try clear hcz22_4
      try clear hcz23_0
      try clear hcz23_1
      try clear hcz23_2
      try clear hcz23_3
      try clear hcz23_4
      try clear hcz25_0
      try clear hcz25_1
      try clear hcz25_2
      try clear hcz25_3
      try clear hcz25_4
      try clear hcz26_0
      try clear hcz26_1
      try clear hcz26_2
      try clear hcz26_3
      try clear hcz26_4
      try clear hfz11_0
      try clear hfz11_1
      try clear hfz11_2
      try clear hfz11_3
      try clear hfz11_4
      try clear hfz14_0
      try clear hfz14_1
      try clear hfz14_2
      try clear hfz14_3
      try clear hfz14_4
      try clear hfz15_0
      try clear hfz15_1
      try clear hfz15_2
      try clear hfz15_3
      try clear hfz15_4
      try clear hfz19_0
      try clear hfz19_1
      try clear hfz19_2
      try clear hfz19_3
      try clear hfz19_4
      try clear hfz20_0
      try clear hfz20_1
      try clear hfz20_2
      try clear hfz20_3
      try clear hfz20_4
      try clear hfz22_0
      try clear hfz22_1
      try clear hfz22_2
      try clear hfz22_3
      try clear hfz22_4
      try clear hfz23_0
      try clear hfz23_1
      try clear hfz23_2
      try clear hfz23_3
      try clear hfz23_4
      try clear hfz25_0
      try clear hfz25_1
      try clear hfz25_2
      try clear hfz25_3
      try clear hfz25_4
      try clear hfz26_0
      try clear hfz26_1
      try clear hfz26_2
      try clear hfz26_3
      try clear hfz26_4
      obtain ⟨kq, x48_4, rfl, HA, HJ4, BK504, BK505, HB⟩ := hcut
      cases kq with
      | zero => exact absurd HA.out (by simp [lorgnettelaw08_FoldOrders.j0])
      | succ kj4 =>
        have H := HA.out
        clear HA
        simp only [lorgnettelaw08_FoldOrders.j0] at H
        by_cases c27 : x48_4 = true
        · subst c27
          have H1 : (some true) = some r := by rw [if_pos rfl] at H; exact H
          clear H
          have H := H1
          clear H1
          obtain rfl := Option.some.inj H
          go_wp2
          go_ret
          exact ⟨by first | rfl | (simp [errW_none, errW_some] <;> rfl) | (simp [*, errW_none, errW_some] <;> rfl), by repeat (first | (with_reducible first | exact HB.out | apply below_alloc | apply pw_below_drewN | apply below_drew1 | refine below_set ?_ GE504.out | refine below_set ?_ GE505.out) | exact HB.out)⟩
        · replace c27 := Bool.eq_false_iff.mpr c27
          subst c27
          have H1 : ((lorgnettelaw08_is.f kj4 (⟨#[60]⟩ : ByteArray) a0_0 a0_1 a0_2 a0_3 a0_4 a1_0 a1_1 a1_2 a1_3 a1_4).bind fun bt507 => ((lorgnettelaw08_is.f kj4 (⟨#[62]⟩ : ByteArray) a0_0 a0_1 a0_2 a0_3 a0_4 a1_0 a1_1 a1_2 a1_3 a1_4).bind fun bt509 => ((lorgnettelaw08_is.f kj4 (⟨#[61, 61]⟩ : ByteArray) a0_0 a0_1 a0_2 a0_3 a0_4 a1_0 a1_1 a1_2 a1_3 a1_4).bind fun bt511 => ((lorgnettelaw08_is.f kj4 (⟨#[60, 61]⟩ : ByteArray) a0_0 a0_1 a0_2 a0_3 a0_4 a1_0 a1_1 a1_2 a1_3 a1_4).bind fun bt513 => ((lorgnettelaw08_is.f kj4 (⟨#[62, 61]⟩ : ByteArray) a0_0 a0_1 a0_2 a0_3 a0_4 a1_0 a1_1 a1_2 a1_3 a1_4).bind fun bt515 => ((lorgnettelaw08_is.f kj4 (⟨#[33, 61]⟩ : ByteArray) a0_0 a0_1 a0_2 a0_3 a0_4 a1_0 a1_1 a1_2 a1_3 a1_4).bind fun bt517 => ((lorgnettelaw08_is.f kj4 (⟨#[60]⟩ : ByteArray) a1_0 a1_1 a1_2 a1_3 a1_4 a0_0 a0_1 a0_2 a0_3 a0_4).bind fun bt519 => (if bt507.2 = true then (if bt509.2 = true then (if bt511.2 = true then (if bt513.2 = true then (if bt515.2 = true then (if bt517.2 = true then (if bt519.2 = true then (if bt507.1 = true then (lorgnettelaw08_FoldOrders.j1 kj4 bt507.1 bt509.1 bt511.1 bt513.1 bt515.1 bt517.1 bt519.1 (0 + 1)) else (lorgnettelaw08_FoldOrders.j1 kj4 bt507.1 bt509.1 bt511.1 bt513.1 bt515.1 bt517.1 bt519.1 0)) else (none)) else (none)) else (none)) else (none)) else (none)) else (none)) else (none))))))))) = some r := by rw [if_neg (show ¬ (false = true) by decide)] at H; exact H
          clear H
          have H := H1
          clear H1
          replace H := Option.bind_eq_some_iff.mp H
          obtain ⟨⟨t507, t508⟩, A280, H⟩ := H
          replace H : ((lorgnettelaw08_is.f kj4 (⟨#[62]⟩ : ByteArray) a0_0 a0_1 a0_2 a0_3 a0_4 a1_0 a1_1 a1_2 a1_3 a1_4).bind fun bt509 => ((lorgnettelaw08_is.f kj4 (⟨#[61, 61]⟩ : ByteArray) a0_0 a0_1 a0_2 a0_3 a0_4 a1_0 a1_1 a1_2 a1_3 a1_4).bind fun bt511 => ((lorgnettelaw08_is.f kj4 (⟨#[60, 61]⟩ : ByteArray) a0_0 a0_1 a0_2 a0_3 a0_4 a1_0 a1_1 a1_2 a1_3 a1_4).bind fun bt513 => ((lorgnettelaw08_is.f kj4 (⟨#[62, 61]⟩ : ByteArray) a0_0 a0_1 a0_2 a0_3 a0_4 a1_0 a1_1 a1_2 a1_3 a1_4).bind fun bt515 => ((lorgnettelaw08_is.f kj4 (⟨#[33, 61]⟩ : ByteArray) a0_0 a0_1 a0_2 a0_3 a0_4 a1_0 a1_1 a1_2 a1_3 a1_4).bind fun bt517 => ((lorgnettelaw08_is.f kj4 (⟨#[60]⟩ : ByteArray) a1_0 a1_1 a1_2 a1_3 a1_4 a0_0 a0_1 a0_2 a0_3 a0_4).bind fun bt519 => (if t508 = true then (if bt509.2 = true then (if bt511.2 = true then (if bt513.2 = true then (if bt515.2 = true then (if bt517.2 = true then (if bt519.2 = true then (if t507 = true then (lorgnettelaw08_FoldOrders.j1 kj4 t507 bt509.1 bt511.1 bt513.1 bt515.1 bt517.1 bt519.1 (0 + 1)) else (lorgnettelaw08_FoldOrders.j1 kj4 t507 bt509.1 bt511.1 bt513.1 bt515.1 bt517.1 bt519.1 0)) else (none)) else (none)) else (none)) else (none)) else (none)) else (none)) else (none)))))))) = some r := H
          have A28 := Aside0.mk A280
          clear A280
          replace H := Option.bind_eq_some_iff.mp H
          obtain ⟨⟨t509, t510⟩, A290, H⟩ := H
          replace H : ((lorgnettelaw08_is.f kj4 (⟨#[61, 61]⟩ : ByteArray) a0_0 a0_1 a0_2 a0_3 a0_4 a1_0 a1_1 a1_2 a1_3 a1_4).bind fun bt511 => ((lorgnettelaw08_is.f kj4 (⟨#[60, 61]⟩ : ByteArray) a0_0 a0_1 a0_2 a0_3 a0_4 a1_0 a1_1 a1_2 a1_3 a1_4).bind fun bt513 => ((lorgnettelaw08_is.f kj4 (⟨#[62, 61]⟩ : ByteArray) a0_0 a0_1 a0_2 a0_3 a0_4 a1_0 a1_1 a1_2 a1_3 a1_4).bind fun bt515 => ((lorgnettelaw08_is.f kj4 (⟨#[33, 61]⟩ : ByteArray) a0_0 a0_1 a0_2 a0_3 a0_4 a1_0 a1_1 a1_2 a1_3 a1_4).bind fun bt517 => ((lorgnettelaw08_is.f kj4 (⟨#[60]⟩ : ByteArray) a1_0 a1_1 a1_2 a1_3 a1_4 a0_0 a0_1 a0_2 a0_3 a0_4).bind fun bt519 => (if t508 = true then (if t510 = true then (if bt511.2 = true then (if bt513.2 = true then (if bt515.2 = true then (if bt517.2 = true then (if bt519.2 = true then (if t507 = true then (lorgnettelaw08_FoldOrders.j1 kj4 t507 t509 bt511.1 bt513.1 bt515.1 bt517.1 bt519.1 (0 + 1)) else (lorgnettelaw08_FoldOrders.j1 kj4 t507 t509 bt511.1 bt513.1 bt515.1 bt517.1 bt519.1 0)) else (none)) else (none)) else (none)) else (none)) else (none)) else (none)) else (none))))))) = some r := H
          have A29 := Aside0.mk A290
          clear A290
          replace H := Option.bind_eq_some_iff.mp H
          obtain ⟨⟨t511, t512⟩, A300, H⟩ := H
          replace H : ((lorgnettelaw08_is.f kj4 (⟨#[60, 61]⟩ : ByteArray) a0_0 a0_1 a0_2 a0_3 a0_4 a1_0 a1_1 a1_2 a1_3 a1_4).bind fun bt513 => ((lorgnettelaw08_is.f kj4 (⟨#[62, 61]⟩ : ByteArray) a0_0 a0_1 a0_2 a0_3 a0_4 a1_0 a1_1 a1_2 a1_3 a1_4).bind fun bt515 => ((lorgnettelaw08_is.f kj4 (⟨#[33, 61]⟩ : ByteArray) a0_0 a0_1 a0_2 a0_3 a0_4 a1_0 a1_1 a1_2 a1_3 a1_4).bind fun bt517 => ((lorgnettelaw08_is.f kj4 (⟨#[60]⟩ : ByteArray) a1_0 a1_1 a1_2 a1_3 a1_4 a0_0 a0_1 a0_2 a0_3 a0_4).bind fun bt519 => (if t508 = true then (if t510 = true then (if t512 = true then (if bt513.2 = true then (if bt515.2 = true then (if bt517.2 = true then (if bt519.2 = true then (if t507 = true then (lorgnettelaw08_FoldOrders.j1 kj4 t507 t509 t511 bt513.1 bt515.1 bt517.1 bt519.1 (0 + 1)) else (lorgnettelaw08_FoldOrders.j1 kj4 t507 t509 t511 bt513.1 bt515.1 bt517.1 bt519.1 0)) else (none)) else (none)) else (none)) else (none)) else (none)) else (none)) else (none)))))) = some r := H
          have A30 := Aside0.mk A300
          clear A300
          replace H := Option.bind_eq_some_iff.mp H
          obtain ⟨⟨t513, t514⟩, A310, H⟩ := H
          replace H : ((lorgnettelaw08_is.f kj4 (⟨#[62, 61]⟩ : ByteArray) a0_0 a0_1 a0_2 a0_3 a0_4 a1_0 a1_1 a1_2 a1_3 a1_4).bind fun bt515 => ((lorgnettelaw08_is.f kj4 (⟨#[33, 61]⟩ : ByteArray) a0_0 a0_1 a0_2 a0_3 a0_4 a1_0 a1_1 a1_2 a1_3 a1_4).bind fun bt517 => ((lorgnettelaw08_is.f kj4 (⟨#[60]⟩ : ByteArray) a1_0 a1_1 a1_2 a1_3 a1_4 a0_0 a0_1 a0_2 a0_3 a0_4).bind fun bt519 => (if t508 = true then (if t510 = true then (if t512 = true then (if t514 = true then (if bt515.2 = true then (if bt517.2 = true then (if bt519.2 = true then (if t507 = true then (lorgnettelaw08_FoldOrders.j1 kj4 t507 t509 t511 t513 bt515.1 bt517.1 bt519.1 (0 + 1)) else (lorgnettelaw08_FoldOrders.j1 kj4 t507 t509 t511 t513 bt515.1 bt517.1 bt519.1 0)) else (none)) else (none)) else (none)) else (none)) else (none)) else (none)) else (none))))) = some r := H
          have A31 := Aside0.mk A310
          clear A310
          replace H := Option.bind_eq_some_iff.mp H
          obtain ⟨⟨t515, t516⟩, A320, H⟩ := H
          replace H : ((lorgnettelaw08_is.f kj4 (⟨#[33, 61]⟩ : ByteArray) a0_0 a0_1 a0_2 a0_3 a0_4 a1_0 a1_1 a1_2 a1_3 a1_4).bind fun bt517 => ((lorgnettelaw08_is.f kj4 (⟨#[60]⟩ : ByteArray) a1_0 a1_1 a1_2 a1_3 a1_4 a0_0 a0_1 a0_2 a0_3 a0_4).bind fun bt519 => (if t508 = true then (if t510 = true then (if t512 = true then (if t514 = true then (if t516 = true then (if bt517.2 = true then (if bt519.2 = true then (if t507 = true then (lorgnettelaw08_FoldOrders.j1 kj4 t507 t509 t511 t513 t515 bt517.1 bt519.1 (0 + 1)) else (lorgnettelaw08_FoldOrders.j1 kj4 t507 t509 t511 t513 t515 bt517.1 bt519.1 0)) else (none)) else (none)) else (none)) else (none)) else (none)) else (none)) else (none)))) = some r := H
          have A32 := Aside0.mk A320
          clear A320
          replace H := Option.bind_eq_some_iff.mp H
          obtain ⟨⟨t517, t518⟩, A330, H⟩ := H
          replace H : ((lorgnettelaw08_is.f kj4 (⟨#[60]⟩ : ByteArray) a1_0 a1_1 a1_2 a1_3 a1_4 a0_0 a0_1 a0_2 a0_3 a0_4).bind fun bt519 => (if t508 = true then (if t510 = true then (if t512 = true then (if t514 = true then (if t516 = true then (if t518 = true then (if bt519.2 = true then (if t507 = true then (lorgnettelaw08_FoldOrders.j1 kj4 t507 t509 t511 t513 t515 t517 bt519.1 (0 + 1)) else (lorgnettelaw08_FoldOrders.j1 kj4 t507 t509 t511 t513 t515 t517 bt519.1 0)) else (none)) else (none)) else (none)) else (none)) else (none)) else (none)) else (none))) = some r := H
          have A33 := Aside0.mk A330
          clear A330
          replace H := Option.bind_eq_some_iff.mp H
          obtain ⟨⟨t519, t520⟩, A340, H⟩ := H
          replace H : (if t508 = true then (if t510 = true then (if t512 = true then (if t514 = true then (if t516 = true then (if t518 = true then (if t520 = true then (if t507 = true then (lorgnettelaw08_FoldOrders.j1 kj4 t507 t509 t511 t513 t515 t517 t519 (0 + 1)) else (lorgnettelaw08_FoldOrders.j1 kj4 t507 t509 t511 t513 t515 t517 t519 0)) else (none)) else (none)) else (none)) else (none)) else (none)) else (none)) else (none)) = some r := H
          have A34 := Aside0.mk A340
          clear A340
          by_cases c35 : t508 = true
          · subst c35
            have H1 : (if t510 = true then (if t512 = true then (if t514 = true then (if t516 = true then (if t518 = true then (if t520 = true then (if t507 = true then (lorgnettelaw08_FoldOrders.j1 kj4 t507 t509 t511 t513 t515 t517 t519 (0 + 1)) else (lorgnettelaw08_FoldOrders.j1 kj4 t507 t509 t511 t513 t515 t517 t519 0)) else (none)) else (none)) else (none)) else (none)) else (none)) else (none)) = some r := by rw [if_pos rfl] at H; exact H
            clear H
            have H := H1
            clear H1
            by_cases c36 : t510 = true
            · subst c36
              have H1 : (if t512 = true then (if t514 = true then (if t516 = true then (if t518 = true then (if t520 = true then (if t507 = true then (lorgnettelaw08_FoldOrders.j1 kj4 t507 t509 t511 t513 t515 t517 t519 (0 + 1)) else (lorgnettelaw08_FoldOrders.j1 kj4 t507 t509 t511 t513 t515 t517 t519 0)) else (none)) else (none)) else (none)) else (none)) else (none)) = some r := by rw [if_pos rfl] at H; exact H
              clear H
              have H := H1
              clear H1
              by_cases c37 : t512 = true
              · subst c37
                have H1 : (if t514 = true then (if t516 = true then (if t518 = true then (if t520 = true then (if t507 = true then (lorgnettelaw08_FoldOrders.j1 kj4 t507 t509 t511 t513 t515 t517 t519 (0 + 1)) else (lorgnettelaw08_FoldOrders.j1 kj4 t507 t509 t511 t513 t515 t517 t519 0)) else (none)) else (none)) else (none)) else (none)) = some r := by rw [if_pos rfl] at H; exact H
                clear H
                have H := H1
                clear H1
                by_cases c38 : t514 = true
                · subst c38
                  have H1 : (if t516 = true then (if t518 = true then (if t520 = true then (if t507 = true then (lorgnettelaw08_FoldOrders.j1 kj4 t507 t509 t511 t513 t515 t517 t519 (0 + 1)) else (lorgnettelaw08_FoldOrders.j1 kj4 t507 t509 t511 t513 t515 t517 t519 0)) else (none)) else (none)) else (none)) = some r := by rw [if_pos rfl] at H; exact H
                  clear H
                  have H := H1
                  clear H1
                  by_cases c39 : t516 = true
                  · subst c39
                    have H1 : (if t518 = true then (if t520 = true then (if t507 = true then (lorgnettelaw08_FoldOrders.j1 kj4 t507 t509 t511 t513 t515 t517 t519 (0 + 1)) else (lorgnettelaw08_FoldOrders.j1 kj4 t507 t509 t511 t513 t515 t517 t519 0)) else (none)) else (none)) = some r := by rw [if_pos rfl] at H; exact H
                    clear H
                    have H := H1
                    clear H1
                    by_cases c40 : t518 = true
                    · subst c40
                      have H1 : (if t520 = true then (if t507 = true then (lorgnettelaw08_FoldOrders.j1 kj4 t507 t509 t511 t513 t515 t517 t519 (0 + 1)) else (lorgnettelaw08_FoldOrders.j1 kj4 t507 t509 t511 t513 t515 t517 t519 0)) else (none)) = some r := by rw [if_pos rfl] at H; exact H
                      clear H
                      have H := H1
                      clear H1
                      by_cases c41 : t520 = true
                      · subst c41
                        have H1 : (if t507 = true then (lorgnettelaw08_FoldOrders.j1 kj4 t507 t509 t511 t513 t515 t517 t519 (0 + 1)) else (lorgnettelaw08_FoldOrders.j1 kj4 t507 t509 t511 t513 t515 t517 t519 0)) = some r := by rw [if_pos rfl] at H; exact H
                        clear H
                        have H := H1
                        clear H1
                        have HC42 := Aside0.mk H
                        clear H
                        have hnb43 := NB504_505.out
                        have hnc43 := NB505_504.out
                        have hcz44_0 : wc.cell? ⟨gb504, 0, none⟩ = some (.int .i64 a0_0) := (blk_cell BK504.out 0).trans rfl
                        have hcz44_1 : wc.cell? ⟨gb504, 1, none⟩ = some (.int .u64 a0_1) := (blk_cell BK504.out 1).trans rfl
                        have hcz44_2 : wc.cell? ⟨gb504, 2, none⟩ = some (.int .u64 a0_2) := (blk_cell BK504.out 2).trans rfl
                        have hcz44_3 : wc.cell? ⟨gb504, 3, none⟩ = some (.bool a0_3) := (blk_cell BK504.out 3).trans rfl
                        have hcz44_4 : wc.cell? ⟨gb504, 4, none⟩ = some (.string a0_4) := (blk_cell BK504.out 4).trans rfl
                        have hfz44_0 := blk_frozen BK504.out 0
                        have hfz44_1 := blk_frozen BK504.out 1
                        have hfz44_2 := blk_frozen BK504.out 2
                        have hfz44_3 := blk_frozen BK504.out 3
                        have hfz44_4 := blk_frozen BK504.out 4
                        have hcz45_0 : wc.cell? ⟨gb505, 0, none⟩ = some (.int .i64 a1_0) := (blk_cell BK505.out 0).trans rfl
                        have hcz45_1 : wc.cell? ⟨gb505, 1, none⟩ = some (.int .u64 a1_1) := (blk_cell BK505.out 1).trans rfl
                        have hcz45_2 : wc.cell? ⟨gb505, 2, none⟩ = some (.int .u64 a1_2) := (blk_cell BK505.out 2).trans rfl
                        have hcz45_3 : wc.cell? ⟨gb505, 3, none⟩ = some (.bool a1_3) := (blk_cell BK505.out 3).trans rfl
                        have hcz45_4 : wc.cell? ⟨gb505, 4, none⟩ = some (.string a1_4) := (blk_cell BK505.out 4).trans rfl
                        have hfz45_0 := blk_frozen BK505.out 0
                        have hfz45_1 := blk_frozen BK505.out 1
                        have hfz45_2 := blk_frozen BK505.out 2
                        have hfz45_3 := blk_frozen BK505.out 3
                        have hfz45_4 := blk_frozen BK505.out 4
                        go_upto_if 117 with (first | ((with_reducible refine gate_callee (f := 11) rfl ?_); refine goesL_ (some 52) rfl rfl Try.func11 (by kernel_rfl) rfl #[.string (⟨#[60]⟩ : ByteArray), .agg #[.int .i64 a0_0, .int .u64 a0_1, .int .u64 a0_2, .bool a0_3, .string a0_4], .agg #[.int .i64 a1_0, .int .u64 a1_1, .int .u64 a1_2, .bool a1_3, .string a1_4]] rfl (by (try simp only [List.map_toArray, List.map_cons, List.map_nil]); first | done | rfl | (simp only [List.length_drop, List.length_take]; rfl) | (go_simp; simp only [u8_w, w64_u8]; done) | (go_simp; simp only [u8_w, w64_u8]; rfl)) ?_; (with_reducible refine (lorgnettelaw08_is.calls kj4 (⟨#[60]⟩ : ByteArray) a0_0 a0_1 a0_2 a0_3 a0_4 a1_0 a1_1 a1_2 a1_3 a1_4 t507 true _ A28.out).mono ?_); rintro e w46 ⟨rfl, hb⟩; refine ⟨_, rfl, ?_⟩; have n0_ := blkB BK504 hb; have n1_ := blkB BK505 hb; have n2_ := Aside0.mk (below_step (bL HB) hb); clear BK504 BK505 HB; have BK504 := n0_; have BK505 := n1_; have HB := n2_; clear n0_ n1_ n2_; (try clear hb); (try clear hb2); (try clear hk); (try clear hi); have hcz47_0 : w46.cell? ⟨gb504, 0, none⟩ = some (.int .i64 a0_0) := (blk_cell BK504.out 0).trans rfl; have hcz47_1 : w46.cell? ⟨gb504, 1, none⟩ = some (.int .u64 a0_1) := (blk_cell BK504.out 1).trans rfl; have hcz47_2 : w46.cell? ⟨gb504, 2, none⟩ = some (.int .u64 a0_2) := (blk_cell BK504.out 2).trans rfl; have hcz47_3 : w46.cell? ⟨gb504, 3, none⟩ = some (.bool a0_3) := (blk_cell BK504.out 3).trans rfl; have hcz47_4 : w46.cell? ⟨gb504, 4, none⟩ = some (.string a0_4) := (blk_cell BK504.out 4).trans rfl; have hfz47_0 := blk_frozen BK504.out 0; have hfz47_1 := blk_frozen BK504.out 1; have hfz47_2 := blk_frozen BK504.out 2; have hfz47_3 := blk_frozen BK504.out 3; have hfz47_4 := blk_frozen BK504.out 4; have hcz48_0 : w46.cell? ⟨gb505, 0, none⟩ = some (.int .i64 a1_0) := (blk_cell BK505.out 0).trans rfl; have hcz48_1 : w46.cell? ⟨gb505, 1, none⟩ = some (.int .u64 a1_1) := (blk_cell BK505.out 1).trans rfl; have hcz48_2 : w46.cell? ⟨gb505, 2, none⟩ = some (.int .u64 a1_2) := (blk_cell BK505.out 2).trans rfl; have hcz48_3 : w46.cell? ⟨gb505, 3, none⟩ = some (.bool a1_3) := (blk_cell BK505.out 3).trans rfl; have hcz48_4 : w46.cell? ⟨gb505, 4, none⟩ = some (.string a1_4) := (blk_cell BK505.out 4).trans rfl; have hfz48_0 := blk_frozen BK505.out 0; have hfz48_1 := blk_frozen BK505.out 1; have hfz48_2 := blk_frozen BK505.out 2; have hfz48_3 := blk_frozen BK505.out 3; have hfz48_4 := blk_frozen BK505.out 4) | ((with_reducible refine gate_callee (f := 11) rfl ?_); refine goesL_ (some 58) rfl rfl Try.func11 (by kernel_rfl) rfl #[.string (⟨#[62]⟩ : ByteArray), .agg #[.int .i64 a0_0, .int .u64 a0_1, .int .u64 a0_2, .bool a0_3, .string a0_4], .agg #[.int .i64 a1_0, .int .u64 a1_1, .int .u64 a1_2, .bool a1_3, .string a1_4]] rfl (by (try simp only [List.map_toArray, List.map_cons, List.map_nil]); first | done | rfl | (simp only [List.length_drop, List.length_take]; rfl) | (go_simp; simp only [u8_w, w64_u8]; done) | (go_simp; simp only [u8_w, w64_u8]; rfl)) ?_; (with_reducible refine (lorgnettelaw08_is.calls kj4 (⟨#[62]⟩ : ByteArray) a0_0 a0_1 a0_2 a0_3 a0_4 a1_0 a1_1 a1_2 a1_3 a1_4 t509 true _ A29.out).mono ?_); rintro e w49 ⟨rfl, hb⟩; refine ⟨_, rfl, ?_⟩; have n0_ := blkB BK504 hb; have n1_ := blkB BK505 hb; have n2_ := Aside0.mk (below_step (bL HB) hb); clear BK504 BK505 HB; have BK504 := n0_; have BK505 := n1_; have HB := n2_; clear n0_ n1_ n2_; (try clear hb); (try clear hb2); (try clear hk); (try clear hi); have hcz50_0 : w49.cell? ⟨gb504, 0, none⟩ = some (.int .i64 a0_0) := (blk_cell BK504.out 0).trans rfl; have hcz50_1 : w49.cell? ⟨gb504, 1, none⟩ = some (.int .u64 a0_1) := (blk_cell BK504.out 1).trans rfl; have hcz50_2 : w49.cell? ⟨gb504, 2, none⟩ = some (.int .u64 a0_2) := (blk_cell BK504.out 2).trans rfl; have hcz50_3 : w49.cell? ⟨gb504, 3, none⟩ = some (.bool a0_3) := (blk_cell BK504.out 3).trans rfl; have hcz50_4 : w49.cell? ⟨gb504, 4, none⟩ = some (.string a0_4) := (blk_cell BK504.out 4).trans rfl; have hfz50_0 := blk_frozen BK504.out 0; have hfz50_1 := blk_frozen BK504.out 1; have hfz50_2 := blk_frozen BK504.out 2; have hfz50_3 := blk_frozen BK504.out 3; have hfz50_4 := blk_frozen BK504.out 4; have hcz51_0 : w49.cell? ⟨gb505, 0, none⟩ = some (.int .i64 a1_0) := (blk_cell BK505.out 0).trans rfl; have hcz51_1 : w49.cell? ⟨gb505, 1, none⟩ = some (.int .u64 a1_1) := (blk_cell BK505.out 1).trans rfl; have hcz51_2 : w49.cell? ⟨gb505, 2, none⟩ = some (.int .u64 a1_2) := (blk_cell BK505.out 2).trans rfl; have hcz51_3 : w49.cell? ⟨gb505, 3, none⟩ = some (.bool a1_3) := (blk_cell BK505.out 3).trans rfl; have hcz51_4 : w49.cell? ⟨gb505, 4, none⟩ = some (.string a1_4) := (blk_cell BK505.out 4).trans rfl; have hfz51_0 := blk_frozen BK505.out 0; have hfz51_1 := blk_frozen BK505.out 1; have hfz51_2 := blk_frozen BK505.out 2; have hfz51_3 := blk_frozen BK505.out 3; have hfz51_4 := blk_frozen BK505.out 4) | ((with_reducible refine gate_callee (f := 11) rfl ?_); refine goesL_ (some 64) rfl rfl Try.func11 (by kernel_rfl) rfl #[.string (⟨#[61, 61]⟩ : ByteArray), .agg #[.int .i64 a0_0, .int .u64 a0_1, .int .u64 a0_2, .bool a0_3, .string a0_4], .agg #[.int .i64 a1_0, .int .u64 a1_1, .int .u64 a1_2, .bool a1_3, .string a1_4]] rfl (by (try simp only [List.map_toArray, List.map_cons, List.map_nil]); first | done | rfl | (simp only [List.length_drop, List.length_take]; rfl) | (go_simp; simp only [u8_w, w64_u8]; done) | (go_simp; simp only [u8_w, w64_u8]; rfl)) ?_; (with_reducible refine (lorgnettelaw08_is.calls kj4 (⟨#[61, 61]⟩ : ByteArray) a0_0 a0_1 a0_2 a0_3 a0_4 a1_0 a1_1 a1_2 a1_3 a1_4 t511 true _ A30.out).mono ?_); rintro e w52 ⟨rfl, hb⟩; refine ⟨_, rfl, ?_⟩; have n0_ := blkB BK504 hb; have n1_ := blkB BK505 hb; have n2_ := Aside0.mk (below_step (bL HB) hb); clear BK504 BK505 HB; have BK504 := n0_; have BK505 := n1_; have HB := n2_; clear n0_ n1_ n2_; (try clear hb); (try clear hb2); (try clear hk); (try clear hi); have hcz53_0 : w52.cell? ⟨gb504, 0, none⟩ = some (.int .i64 a0_0) := (blk_cell BK504.out 0).trans rfl; have hcz53_1 : w52.cell? ⟨gb504, 1, none⟩ = some (.int .u64 a0_1) := (blk_cell BK504.out 1).trans rfl; have hcz53_2 : w52.cell? ⟨gb504, 2, none⟩ = some (.int .u64 a0_2) := (blk_cell BK504.out 2).trans rfl; have hcz53_3 : w52.cell? ⟨gb504, 3, none⟩ = some (.bool a0_3) := (blk_cell BK504.out 3).trans rfl; have hcz53_4 : w52.cell? ⟨gb504, 4, none⟩ = some (.string a0_4) := (blk_cell BK504.out 4).trans rfl; have hfz53_0 := blk_frozen BK504.out 0; have hfz53_1 := blk_frozen BK504.out 1; have hfz53_2 := blk_frozen BK504.out 2; have hfz53_3 := blk_frozen BK504.out 3; have hfz53_4 := blk_frozen BK504.out 4; have hcz54_0 : w52.cell? ⟨gb505, 0, none⟩ = some (.int .i64 a1_0) := (blk_cell BK505.out 0).trans rfl; have hcz54_1 : w52.cell? ⟨gb505, 1, none⟩ = some (.int .u64 a1_1) := (blk_cell BK505.out 1).trans rfl; have hcz54_2 : w52.cell? ⟨gb505, 2, none⟩ = some (.int .u64 a1_2) := (blk_cell BK505.out 2).trans rfl; have hcz54_3 : w52.cell? ⟨gb505, 3, none⟩ = some (.bool a1_3) := (blk_cell BK505.out 3).trans rfl; have hcz54_4 : w52.cell? ⟨gb505, 4, none⟩ = some (.string a1_4) := (blk_cell BK505.out 4).trans rfl; have hfz54_0 := blk_frozen BK505.out 0; have hfz54_1 := blk_frozen BK505.out 1; have hfz54_2 := blk_frozen BK505.out 2; have hfz54_3 := blk_frozen BK505.out 3; have hfz54_4 := blk_frozen BK505.out 4) | ((with_reducible refine gate_callee (f := 11) rfl ?_); refine goesL_ (some 70) rfl rfl Try.func11 (by kernel_rfl) rfl #[.string (⟨#[60, 61]⟩ : ByteArray), .agg #[.int .i64 a0_0, .int .u64 a0_1, .int .u64 a0_2, .bool a0_3, .string a0_4], .agg #[.int .i64 a1_0, .int .u64 a1_1, .int .u64 a1_2, .bool a1_3, .string a1_4]] rfl (by (try simp only [List.map_toArray, List.map_cons, List.map_nil]); first | done | rfl | (simp only [List.length_drop, List.length_take]; rfl) | (go_simp; simp only [u8_w, w64_u8]; done) | (go_simp; simp only [u8_w, w64_u8]; rfl)) ?_; (with_reducible refine (lorgnettelaw08_is.calls kj4 (⟨#[60, 61]⟩ : ByteArray) a0_0 a0_1 a0_2 a0_3 a0_4 a1_0 a1_1 a1_2 a1_3 a1_4 t513 true _ A31.out).mono ?_); rintro e w55 ⟨rfl, hb⟩; refine ⟨_, rfl, ?_⟩; have n0_ := blkB BK504 hb; have n1_ := blkB BK505 hb; have n2_ := Aside0.mk (below_step (bL HB) hb); clear BK504 BK505 HB; have BK504 := n0_; have BK505 := n1_; have HB := n2_; clear n0_ n1_ n2_; (try clear hb); (try clear hb2); (try clear hk); (try clear hi); have hcz56_0 : w55.cell? ⟨gb504, 0, none⟩ = some (.int .i64 a0_0) := (blk_cell BK504.out 0).trans rfl; have hcz56_1 : w55.cell? ⟨gb504, 1, none⟩ = some (.int .u64 a0_1) := (blk_cell BK504.out 1).trans rfl; have hcz56_2 : w55.cell? ⟨gb504, 2, none⟩ = some (.int .u64 a0_2) := (blk_cell BK504.out 2).trans rfl; have hcz56_3 : w55.cell? ⟨gb504, 3, none⟩ = some (.bool a0_3) := (blk_cell BK504.out 3).trans rfl; have hcz56_4 : w55.cell? ⟨gb504, 4, none⟩ = some (.string a0_4) := (blk_cell BK504.out 4).trans rfl; have hfz56_0 := blk_frozen BK504.out 0; have hfz56_1 := blk_frozen BK504.out 1; have hfz56_2 := blk_frozen BK504.out 2; have hfz56_3 := blk_frozen BK504.out 3; have hfz56_4 := blk_frozen BK504.out 4; have hcz57_0 : w55.cell? ⟨gb505, 0, none⟩ = some (.int .i64 a1_0) := (blk_cell BK505.out 0).trans rfl; have hcz57_1 : w55.cell? ⟨gb505, 1, none⟩ = some (.int .u64 a1_1) := (blk_cell BK505.out 1).trans rfl; have hcz57_2 : w55.cell? ⟨gb505, 2, none⟩ = some (.int .u64 a1_2) := (blk_cell BK505.out 2).trans rfl; have hcz57_3 : w55.cell? ⟨gb505, 3, none⟩ = some (.bool a1_3) := (blk_cell BK505.out 3).trans rfl; have hcz57_4 : w55.cell? ⟨gb505, 4, none⟩ = some (.string a1_4) := (blk_cell BK505.out 4).trans rfl; have hfz57_0 := blk_frozen BK505.out 0; have hfz57_1 := blk_frozen BK505.out 1; have hfz57_2 := blk_frozen BK505.out 2; have hfz57_3 := blk_frozen BK505.out 3; have hfz57_4 := blk_frozen BK505.out 4) | ((with_reducible refine gate_callee (f := 11) rfl ?_); refine goesL_ (some 76) rfl rfl Try.func11 (by kernel_rfl) rfl #[.string (⟨#[62, 61]⟩ : ByteArray), .agg #[.int .i64 a0_0, .int .u64 a0_1, .int .u64 a0_2, .bool a0_3, .string a0_4], .agg #[.int .i64 a1_0, .int .u64 a1_1, .int .u64 a1_2, .bool a1_3, .string a1_4]] rfl (by (try simp only [List.map_toArray, List.map_cons, List.map_nil]); first | done | rfl | (simp only [List.length_drop, List.length_take]; rfl) | (go_simp; simp only [u8_w, w64_u8]; done) | (go_simp; simp only [u8_w, w64_u8]; rfl)) ?_; (with_reducible refine (lorgnettelaw08_is.calls kj4 (⟨#[62, 61]⟩ : ByteArray) a0_0 a0_1 a0_2 a0_3 a0_4 a1_0 a1_1 a1_2 a1_3 a1_4 t515 true _ A32.out).mono ?_); rintro e w58 ⟨rfl, hb⟩; refine ⟨_, rfl, ?_⟩; have n0_ := blkB BK504 hb; have n1_ := blkB BK505 hb; have n2_ := Aside0.mk (below_step (bL HB) hb); clear BK504 BK505 HB; have BK504 := n0_; have BK505 := n1_; have HB := n2_; clear n0_ n1_ n2_; (try clear hb); (try clear hb2); (try clear hk); (try clear hi); have hcz59_0 : w58.cell? ⟨gb504, 0, none⟩ = some (.int .i64 a0_0) := (blk_cell BK504.out 0).trans rfl; have hcz59_1 : w58.cell? ⟨gb504, 1, none⟩ = some (.int .u64 a0_1) := (blk_cell BK504.out 1).trans rfl; have hcz59_2 : w58.cell? ⟨gb504, 2, none⟩ = some (.int .u64 a0_2) := (blk_cell BK504.out 2).trans rfl; have hcz59_3 : w58.cell? ⟨gb504, 3, none⟩ = some (.bool a0_3) := (blk_cell BK504.out 3).trans rfl; have hcz59_4 : w58.cell? ⟨gb504, 4, none⟩ = some (.string a0_4) := (blk_cell BK504.out 4).trans rfl; have hfz59_0 := blk_frozen BK504.out 0; have hfz59_1 := blk_frozen BK504.out 1; have hfz59_2 := blk_frozen BK504.out 2; have hfz59_3 := blk_frozen BK504.out 3; have hfz59_4 := blk_frozen BK504.out 4; have hcz60_0 : w58.cell? ⟨gb505, 0, none⟩ = some (.int .i64 a1_0) := (blk_cell BK505.out 0).trans rfl; have hcz60_1 : w58.cell? ⟨gb505, 1, none⟩ = some (.int .u64 a1_1) := (blk_cell BK505.out 1).trans rfl; have hcz60_2 : w58.cell? ⟨gb505, 2, none⟩ = some (.int .u64 a1_2) := (blk_cell BK505.out 2).trans rfl; have hcz60_3 : w58.cell? ⟨gb505, 3, none⟩ = some (.bool a1_3) := (blk_cell BK505.out 3).trans rfl; have hcz60_4 : w58.cell? ⟨gb505, 4, none⟩ = some (.string a1_4) := (blk_cell BK505.out 4).trans rfl; have hfz60_0 := blk_frozen BK505.out 0; have hfz60_1 := blk_frozen BK505.out 1; have hfz60_2 := blk_frozen BK505.out 2; have hfz60_3 := blk_frozen BK505.out 3; have hfz60_4 := blk_frozen BK505.out 4) | ((with_reducible refine gate_callee (f := 11) rfl ?_); refine goesL_ (some 82) rfl rfl Try.func11 (by kernel_rfl) rfl #[.string (⟨#[33, 61]⟩ : ByteArray), .agg #[.int .i64 a0_0, .int .u64 a0_1, .int .u64 a0_2, .bool a0_3, .string a0_4], .agg #[.int .i64 a1_0, .int .u64 a1_1, .int .u64 a1_2, .bool a1_3, .string a1_4]] rfl (by (try simp only [List.map_toArray, List.map_cons, List.map_nil]); first | done | rfl | (simp only [List.length_drop, List.length_take]; rfl) | (go_simp; simp only [u8_w, w64_u8]; done) | (go_simp; simp only [u8_w, w64_u8]; rfl)) ?_; (with_reducible refine (lorgnettelaw08_is.calls kj4 (⟨#[33, 61]⟩ : ByteArray) a0_0 a0_1 a0_2 a0_3 a0_4 a1_0 a1_1 a1_2 a1_3 a1_4 t517 true _ A33.out).mono ?_); rintro e w61 ⟨rfl, hb⟩; refine ⟨_, rfl, ?_⟩; have n0_ := blkB BK504 hb; have n1_ := blkB BK505 hb; have n2_ := Aside0.mk (below_step (bL HB) hb); clear BK504 BK505 HB; have BK504 := n0_; have BK505 := n1_; have HB := n2_; clear n0_ n1_ n2_; (try clear hb); (try clear hb2); (try clear hk); (try clear hi); have hcz62_0 : w61.cell? ⟨gb505, 0, none⟩ = some (.int .i64 a1_0) := (blk_cell BK505.out 0).trans rfl; have hcz62_1 : w61.cell? ⟨gb505, 1, none⟩ = some (.int .u64 a1_1) := (blk_cell BK505.out 1).trans rfl; have hcz62_2 : w61.cell? ⟨gb505, 2, none⟩ = some (.int .u64 a1_2) := (blk_cell BK505.out 2).trans rfl; have hcz62_3 : w61.cell? ⟨gb505, 3, none⟩ = some (.bool a1_3) := (blk_cell BK505.out 3).trans rfl; have hcz62_4 : w61.cell? ⟨gb505, 4, none⟩ = some (.string a1_4) := (blk_cell BK505.out 4).trans rfl; have hfz62_0 := blk_frozen BK505.out 0; have hfz62_1 := blk_frozen BK505.out 1; have hfz62_2 := blk_frozen BK505.out 2; have hfz62_3 := blk_frozen BK505.out 3; have hfz62_4 := blk_frozen BK505.out 4; have hcz63_0 : w61.cell? ⟨gb504, 0, none⟩ = some (.int .i64 a0_0) := (blk_cell BK504.out 0).trans rfl; have hcz63_1 : w61.cell? ⟨gb504, 1, none⟩ = some (.int .u64 a0_1) := (blk_cell BK504.out 1).trans rfl; have hcz63_2 : w61.cell? ⟨gb504, 2, none⟩ = some (.int .u64 a0_2) := (blk_cell BK504.out 2).trans rfl; have hcz63_3 : w61.cell? ⟨gb504, 3, none⟩ = some (.bool a0_3) := (blk_cell BK504.out 3).trans rfl; have hcz63_4 : w61.cell? ⟨gb504, 4, none⟩ = some (.string a0_4) := (blk_cell BK504.out 4).trans rfl; have hfz63_0 := blk_frozen BK504.out 0; have hfz63_1 := blk_frozen BK504.out 1; have hfz63_2 := blk_frozen BK504.out 2; have hfz63_3 := blk_frozen BK504.out 3; have hfz63_4 := blk_frozen BK504.out 4) | ((with_reducible refine gate_callee (f := 11) rfl ?_); refine goesL_ (some 88) rfl rfl Try.func11 (by kernel_rfl) rfl #[.string (⟨#[60]⟩ : ByteArray), .agg #[.int .i64 a1_0, .int .u64 a1_1, .int .u64 a1_2, .bool a1_3, .string a1_4], .agg #[.int .i64 a0_0, .int .u64 a0_1, .int .u64 a0_2, .bool a0_3, .string a0_4]] rfl (by (try simp only [List.map_toArray, List.map_cons, List.map_nil]); first | done | rfl | (simp only [List.length_drop, List.length_take]; rfl) | (go_simp; simp only [u8_w, w64_u8]; done) | (go_simp; simp only [u8_w, w64_u8]; rfl)) ?_; (with_reducible refine (lorgnettelaw08_is.calls kj4 (⟨#[60]⟩ : ByteArray) a1_0 a1_1 a1_2 a1_3 a1_4 a0_0 a0_1 a0_2 a0_3 a0_4 t519 true _ A34.out).mono ?_); rintro e w64 ⟨rfl, hb⟩; refine ⟨_, rfl, ?_⟩; have n0_ := blkB BK504 hb; have n1_ := blkB BK505 hb; have n2_ := Aside0.mk (below_step (bL HB) hb); clear BK504 BK505 HB; have BK504 := n0_; have BK505 := n1_; have HB := n2_; clear n0_ n1_ n2_; (try clear hb); (try clear hb2); (try clear hk); (try clear hi)))
                        (try simp only [Act.put, List.setIfInBounds_toArray, List.set_cons_zero, List.set_cons_succ])
                        go_cut [19] (fun v19 wc => ∃ (kq : Nat) (x19_41 : Int), v19 = .int .i64 x19_41 ∧ Aside0 (lorgnettelaw08_FoldOrders.j1 kq t507 t509 t511 t513 t515 t517 t519 x19_41 = some r) ∧ Aside0 (kq ≤ kj4) ∧ Aside0 (wc.heap[gb504]? = some (.cells #[.int .i64 a0_0, .int .u64 a0_1, .int .u64 a0_2, .bool a0_3, .string a0_4] 28 (0, 0))) ∧ Aside0 (wc.heap[gb505]? = some (.cells #[.int .i64 a1_0, .int .u64 a1_1, .int .u64 a1_2, .bool a1_3, .string a1_4] 28 (0, 0))) ∧ Aside0 (Below w.heap.size w wc))
                        case first =>
                          have H := HC42.out
                          clear HC42
                          by_cases c65 : t507 = true
                          · subst c65
                            have H1 : (lorgnettelaw08_FoldOrders.j1 kj4 true t509 t511 t513 t515 t517 t519 (0 + 1)) = some r := by rw [if_pos rfl] at H; exact H
                            clear H
                            have H := H1
                            clear H1
                            have H' := Aside0.mk H
                            clear H
                            go_wp2
                            go_meet
                            case rel => exact ⟨_, (0 + 1), (by first | rfl | (simp; done) | (simp [*]; done)), H', ⟨by have := HJ4.out; first | omega | exact Nat.le_refl _⟩, ⟨by (with_reducible repeat (first | refine blk_drewN ?_ _ | refine blk_drew ?_ | refine blk_alloc ?_ _)); exact BK504.out⟩, ⟨by (with_reducible repeat (first | refine blk_drewN ?_ _ | refine blk_drew ?_ | refine blk_alloc ?_ _)); exact BK505.out⟩, ⟨by repeat (first | (with_reducible first | exact HB.out | apply below_alloc | apply pw_below_drewN | apply below_drew1 | refine below_set ?_ GE504.out | refine below_set ?_ GE505.out) | exact HB.out)⟩⟩
                          · replace c65 := Bool.eq_false_iff.mpr c65
                            subst c65
                            have H1 : (lorgnettelaw08_FoldOrders.j1 kj4 false t509 t511 t513 t515 t517 t519 0) = some r := by rw [if_neg (show ¬ (false = true) by decide)] at H; exact H
                            clear H
                            have H := H1
                            clear H1
                            have H' := Aside0.mk H
                            clear H
                            go_wp2
                            go_meet
                            case rel => exact ⟨_, (0), (by first | rfl | (simp; done) | (simp [*]; done)), H', ⟨by have := HJ4.out; first | omega | exact Nat.le_refl _⟩, ⟨by (with_reducible repeat (first | refine blk_drewN ?_ _ | refine blk_drew ?_ | refine blk_alloc ?_ _)); exact BK504.out⟩, ⟨by (with_reducible repeat (first | refine blk_drewN ?_ _ | refine blk_drew ?_ | refine blk_alloc ?_ _)); exact BK505.out⟩, ⟨by repeat (first | (with_reducible first | exact HB.out | apply below_alloc | apply pw_below_drewN | apply below_drew1 | refine below_set ?_ GE504.out | refine below_set ?_ GE505.out) | exact HB.out)⟩⟩
                        case rest =>
                          clear HC42
                          try clear c1
                          try clear c2
                          try clear p2
                          try clear c3
                          try clear c4
                          try clear c6
                          try clear c8
                          try clear c9
                          try clear c9b0
                          try clear c9b1
                          try clear c10
                          try clear c11
                          try clear c12
                          try clear c12b0
                          try clear c12b1
                          try clear c13
                          try clear c16
                          try clear c16b0
                          try clear c16b1
                          try clear c17
                          try clear c17b0
                          try clear c17b1
                          try clear c18
                          try clear c21
                          try clear c24
                          try clear c27
                          try clear c35
                          try clear c36
                          try clear c37
                          try clear c38
                          try clear c39
                          try clear c40
                          try clear c41
                          try clear c43
                          try clear c65
                          try clear hcz11_0
                          try clear hcz11_1
                          try clear hcz11_2
                          try clear hcz11_3
                          try clear hcz11_4
                          try clear hcz14_0
                          try clear hcz14_1
                          try clear hcz14_2
                          try clear hcz14_3
                          try clear hcz14_4
                          try clear hcz15_0
                          try clear hcz15_1
                          try clear hcz15_2
                          try clear hcz15_3
                          try clear hcz15_4
                          try clear hcz19_0
                          try clear hcz19_1
                          try clear hcz19_2
                          try clear hcz19_3
                          try clear hcz19_4
                          try clear hcz20_0
                          try clear hcz20_1
                          try clear hcz20_2
                          try clear hcz20_3
                          try clear hcz20_4
                          try clear hcz22_0
                          try clear hcz22_1
                          try clear hcz22_2
                          try clear hcz22_3
                          try clear hcz22_4
                          try clear hcz23_0
                          try clear hcz23_1
                          try clear hcz23_2
                          try clear hcz23_3
                          try clear hcz23_4
                          try clear hcz25_0
                          try clear hcz25_1
                          try clear hcz25_2
                          try clear hcz25_3
                          try clear hcz25_4
                          try clear hcz26_0
                          try clear hcz26_1
                          try clear hcz26_2
                          try clear hcz26_3
                          try clear hcz26_4
                          try clear hcz44_0
                          try clear hcz44_1
                          try clear hcz44_2
                          try clear hcz44_3
                          try clear hcz44_4
                          try clear hcz45_0
                          try clear hcz45_1
                          try clear hcz45_2
                          try clear hcz45_3
                          try clear hcz45_4
                          try clear hcz47_0
                          try clear hcz47_1
                          try clear hcz47_2
                          try clear hcz47_3
                          try clear hcz47_4
                          try clear hcz48_0
                          try clear hcz48_1
                          try clear hcz48_2
                          try clear hcz48_3
                          try clear hcz48_4
                          try clear hcz50_0
                          try clear hcz50_1
                          try clear hcz50_2
                          try clear hcz50_3
                          try clear hcz50_4
                          try clear hcz51_0
                          try clear hcz51_1
                          try clear hcz51_2
                          try clear hcz51_3
                          try clear hcz51_4
                          try clear hcz53_0
                          try clear hcz53_1
                          try clear hcz53_2
                          try clear hcz53_3
                          try clear hcz53_4
                          try clear hcz54_0
                          try clear hcz54_1
                          try clear hcz54_2
                          try clear hcz54_3
                          try clear hcz54_4
                          try clear hcz56_0
                          try clear hcz56_1
                          try clear hcz56_2
                          try clear hcz56_3
                          try clear hcz56_4
                          try clear hcz57_0
                          try clear hcz57_1
                          try clear hcz57_2
                          try clear hcz57_3
                          try clear hcz57_4
                          try clear hcz59_0
                          try clear hcz59_1
                          try clear hcz59_2
                          try clear hcz59_3
                          try clear hcz59_4
                          try clear hcz60_0
                          try clear hcz60_1
                          try clear hcz60_2
                          try clear hcz60_3
                          try clear hcz60_4
                          try clear hcz62_0
                          try clear hcz62_1
                          try clear hcz62_2
                          try clear hcz62_3
                          try clear hcz62_4
                          try clear hcz63_0
                          try clear hcz63_1
                          try clear hcz63_2
                          try clear hcz63_3
                          try clear hcz63_4
                          try clear hfz11_0
                          try clear hfz11_1
                          try clear hfz11_2
                          try clear hfz11_3
                          try clear hfz11_4
                          try clear hfz14_0
                          try clear hfz14_1
                          try clear hfz14_2
                          try clear hfz14_3
                          try clear hfz14_4
                          try clear hfz15_0
                          try clear hfz15_1
                          try clear hfz15_2
                          try clear hfz15_3
                          try clear hfz15_4
                          try clear hfz19_0
                          try clear hfz19_1
                          try clear hfz19_2
                          try clear hfz19_3
                          try clear hfz19_4
                          try clear hfz20_0
                          try clear hfz20_1
                          try clear hfz20_2
                          try clear hfz20_3
                          try clear hfz20_4
                          try clear hfz22_0
                          try clear hfz22_1
                          try clear hfz22_2
                          try clear hfz22_3
                          try clear hfz22_4
                          try clear hfz23_0
                          try clear hfz23_1
                          try clear hfz23_2
                          try clear hfz23_3
                          try clear hfz23_4
                          try clear hfz25_0
                          try clear hfz25_1
                          try clear hfz25_2
                          try clear hfz25_3
                          try clear hfz25_4
                          try clear hfz26_0
                          try clear hfz26_1
                          try clear hfz26_2
                          try clear hfz26_3
                          try clear hfz26_4
                          try clear hfz44_0
                          try clear hfz44_1
                          try clear hfz44_2
                          try clear hfz44_3
                          try clear hfz44_4
                          try clear hfz45_0
                          try clear hfz45_1
                          try clear hfz45_2
                          try clear hfz45_3
                          try clear hfz45_4
                          try clear hfz47_0
                          try clear hfz47_1
                          try clear hfz47_2
                          try clear hfz47_3
                          try clear hfz47_4
                          try clear hfz48_0
                          try clear hfz48_1
                          try clear hfz48_2
                          try clear hfz48_3
                          try clear hfz48_4
                          try clear hfz50_0
                          try clear hfz50_1
                          try clear hfz50_2
                          try clear hfz50_3
                          try clear hfz50_4
                          try clear hfz51_0
                          try clear hfz51_1
                          try clear hfz51_2
                          try clear hfz51_3
                          try clear hfz51_4
                          try clear hfz53_0
                          try clear hfz53_1
                          try clear hfz53_2
                          try clear hfz53_3
                          try clear hfz53_4
                          try clear hfz54_0
                          try clear hfz54_1
                          try clear hfz54_2
                          try clear hfz54_3
                          try clear hfz54_4
                          try clear hfz56_0
                          try clear hfz56_1
                          try clear hfz56_2
                          try clear hfz56_3
                          try clear hfz56_4
                          try clear hfz57_0
                          try clear hfz57_1
                          try clear hfz57_2
                          try clear hfz57_3
                          try clear hfz57_4
                          try clear hfz59_0
                          try clear hfz59_1
                          try clear hfz59_2
                          try clear hfz59_3
                          try clear hfz59_4
                          try clear hfz60_0
                          try clear hfz60_1
                          try clear hfz60_2
                          try clear hfz60_3
                          try clear hfz60_4
                          try clear hfz62_0
                          try clear hfz62_1
                          try clear hfz62_2
                          try clear hfz62_3
                          try clear hfz62_4
                          try clear hfz63_0
                          try clear hfz63_1
                          try clear hfz63_2
                          try clear hfz63_3
                          try clear hfz63_4
                          try clear p2
                          obtain ⟨kq, x19_41, rfl, HA, HJ41, BK504, BK505, HB⟩ := hcut
                          cases kq with
                          | zero => exact absurd HA.out (by simp [lorgnettelaw08_FoldOrders.j1])
                          | succ kj41 =>
                            have H := HA.out
                            clear HA
                            simp only [lorgnettelaw08_FoldOrders.j1] at H
                            by_cases c66 : t509 = true
                            · subst c66
                              have H1 : (if t511 = true then (if (wrap64 ((wrap64 (x19_41 + 1)) + 1)) = 1 then (if (t513 == (!true)) = true then (if (t515 == (!t507)) = true then (if (t517 == (!t511)) = true then (some (t519 == true)) else (none)) else (none)) else (none)) else (none)) else (if (wrap64 (x19_41 + 1)) = 1 then (if (t513 == (!true)) = true then (if (t515 == (!t507)) = true then (if (t517 == (!t511)) = true then (some (t519 == true)) else (none)) else (none)) else (none)) else (none))) = some r := by rw [if_pos rfl] at H; exact H
                              clear H
                              have H := H1
                              clear H1
                              by_cases c67 : t511 = true
                              · subst c67
                                have H1 : (if (wrap64 ((wrap64 (x19_41 + 1)) + 1)) = 1 then (if (t513 == (!true)) = true then (if (t515 == (!t507)) = true then (if (t517 == (!true)) = true then (some (t519 == true)) else (none)) else (none)) else (none)) else (none)) = some r := by rw [if_pos rfl] at H; exact H
                                clear H
                                have H := H1
                                clear H1
                                by_cases c68 : (wrap64 ((wrap64 (x19_41 + 1)) + 1)) = 1
                                · rw [if_pos c68] at H
                                  have c68b0 : ((wrap64 ((wrap64 (x19_41 + 1)) + 1)) == 1) = true := beq_iff_eq.mpr c68
                                  have c68b1 : ((wrap64 ((wrap64 (x19_41 + 1)) + 1)) != 1) = false := bne_eq_false_iff_eq.mpr c68
                                  clear c68
                                  by_cases c69 : (t513 == (!true)) = true
                                  · rw [if_pos c69] at H
                                    have c69b0 : (t513 == (!true)) = true := c69
                                    (try (have c69b1 : decide (t513 = (!true)) = true := by simpa using c69))
                                    (try (have c69b2 : (t513 == (!true)) = true := by simpa using c69))
                                    clear c69
                                    by_cases c70 : (t515 == (!t507)) = true
                                    · rw [if_pos c70] at H
                                      have c70b0 : (t515 == (!t507)) = true := c70
                                      (try (have c70b1 : decide (t515 = (!t507)) = true := by simpa using c70))
                                      (try (have c70b2 : (t515 == (!t507)) = true := by simpa using c70))
                                      clear c70
                                      by_cases c71 : (t517 == (!true)) = true
                                      · rw [if_pos c71] at H
                                        have c71b0 : (t517 == (!true)) = true := c71
                                        (try (have c71b1 : decide (t517 = (!true)) = true := by simpa using c71))
                                        (try (have c71b2 : (t517 == (!true)) = true := by simpa using c71))
                                        clear c71
                                        obtain rfl := Option.some.inj H
                                        go_wp2
                                        (try (any_goals (rename_i hx_; first | exact absurd (by simpa using c69b0) hx_ | exact absurd hx_ (by simpa using c69b0) | exact absurd (by simpa using c70b0) hx_ | exact absurd hx_ (by simpa using c70b0) | exact absurd (by simpa using c71b0) hx_ | exact absurd hx_ (by simpa using c71b0))))
                                        go_ret
                                        exact ⟨by first | rfl | (simp [errW_none, errW_some] <;> rfl) | (simp [*, errW_none, errW_some] <;> rfl), by repeat (first | (with_reducible first | exact HB.out | apply below_alloc | apply pw_below_drewN | apply below_drew1 | refine below_set ?_ GE504.out | refine below_set ?_ GE505.out) | exact HB.out)⟩
                                      · rw [if_neg c71] at H
                                        exact absurd H (by simp)
                                    · rw [if_neg c70] at H
                                      exact absurd H (by simp)
                                  · rw [if_neg c69] at H
                                    exact absurd H (by simp)
                                · rw [if_neg c68] at H
                                  exact absurd H (by simp)
                              · replace c67 := Bool.eq_false_iff.mpr c67
                                subst c67
                                have H1 : (if (wrap64 (x19_41 + 1)) = 1 then (if (t513 == (!true)) = true then (if (t515 == (!t507)) = true then (if (t517 == (!false)) = true then (some (t519 == true)) else (none)) else (none)) else (none)) else (none)) = some r := by rw [if_neg (show ¬ (false = true) by decide)] at H; exact H
                                clear H
                                have H := H1
                                clear H1
                                by_cases c72 : (wrap64 (x19_41 + 1)) = 1
                                · rw [if_pos c72] at H
                                  have c72b0 : ((wrap64 (x19_41 + 1)) == 1) = true := beq_iff_eq.mpr c72
                                  have c72b1 : ((wrap64 (x19_41 + 1)) != 1) = false := bne_eq_false_iff_eq.mpr c72
                                  clear c72
                                  by_cases c73 : (t513 == (!true)) = true
                                  · rw [if_pos c73] at H
                                    have c73b0 : (t513 == (!true)) = true := c73
                                    (try (have c73b1 : decide (t513 = (!true)) = true := by simpa using c73))
                                    (try (have c73b2 : (t513 == (!true)) = true := by simpa using c73))
                                    clear c73
                                    by_cases c74 : (t515 == (!t507)) = true
                                    · rw [if_pos c74] at H
                                      have c74b0 : (t515 == (!t507)) = true := c74
                                      (try (have c74b1 : decide (t515 = (!t507)) = true := by simpa using c74))
                                      (try (have c74b2 : (t515 == (!t507)) = true := by simpa using c74))
                                      clear c74
                                      by_cases c75 : (t517 == (!false)) = true
                                      · rw [if_pos c75] at H
                                        have c75b0 : (t517 == (!false)) = true := c75
                                        (try (have c75b1 : decide (t517 = (!false)) = true := by simpa using c75))
                                        (try (have c75b2 : (t517 == (!false)) = true := by simpa using c75))
                                        clear c75
                                        obtain rfl := Option.some.inj H
                                        go_wp2
                                        (try (any_goals (rename_i hx_; first | exact absurd (by simpa using c73b0) hx_ | exact absurd hx_ (by simpa using c73b0) | exact absurd (by simpa using c74b0) hx_ | exact absurd hx_ (by simpa using c74b0) | exact absurd (by simpa using c75b0) hx_ | exact absurd hx_ (by simpa using c75b0))))
                                        go_ret
                                        exact ⟨by first | rfl | (simp [errW_none, errW_some] <;> rfl) | (simp [*, errW_none, errW_some] <;> rfl), by repeat (first | (with_reducible first | exact HB.out | apply below_alloc | apply pw_below_drewN | apply below_drew1 | refine below_set ?_ GE504.out | refine below_set ?_ GE505.out) | exact HB.out)⟩
                                      · rw [if_neg c75] at H
                                        exact absurd H (by simp)
                                    · rw [if_neg c74] at H
                                      exact absurd H (by simp)
                                  · rw [if_neg c73] at H
                                    exact absurd H (by simp)
                                · rw [if_neg c72] at H
                                  exact absurd H (by simp)
                            · replace c66 := Bool.eq_false_iff.mpr c66
                              subst c66
                              have H1 : (if t511 = true then (if (wrap64 (x19_41 + 1)) = 1 then (if (t513 == (!false)) = true then (if (t515 == (!t507)) = true then (if (t517 == (!t511)) = true then (some (t519 == false)) else (none)) else (none)) else (none)) else (none)) else (if x19_41 = 1 then (if (t513 == (!false)) = true then (if (t515 == (!t507)) = true then (if (t517 == (!t511)) = true then (some (t519 == false)) else (none)) else (none)) else (none)) else (none))) = some r := by rw [if_neg (show ¬ (false = true) by decide)] at H; exact H
                              clear H
                              have H := H1
                              clear H1
                              by_cases c76 : t511 = true
                              · subst c76
                                have H1 : (if (wrap64 (x19_41 + 1)) = 1 then (if (t513 == (!false)) = true then (if (t515 == (!t507)) = true then (if (t517 == (!true)) = true then (some (t519 == false)) else (none)) else (none)) else (none)) else (none)) = some r := by rw [if_pos rfl] at H; exact H
                                clear H
                                have H := H1
                                clear H1
                                by_cases c77 : (wrap64 (x19_41 + 1)) = 1
                                · rw [if_pos c77] at H
                                  have c77b0 : ((wrap64 (x19_41 + 1)) == 1) = true := beq_iff_eq.mpr c77
                                  have c77b1 : ((wrap64 (x19_41 + 1)) != 1) = false := bne_eq_false_iff_eq.mpr c77
                                  clear c77
                                  by_cases c78 : (t513 == (!false)) = true
                                  · rw [if_pos c78] at H
                                    have c78b0 : (t513 == (!false)) = true := c78
                                    (try (have c78b1 : decide (t513 = (!false)) = true := by simpa using c78))
                                    (try (have c78b2 : (t513 == (!false)) = true := by simpa using c78))
                                    clear c78
                                    by_cases c79 : (t515 == (!t507)) = true
                                    · rw [if_pos c79] at H
                                      have c79b0 : (t515 == (!t507)) = true := c79
                                      (try (have c79b1 : decide (t515 = (!t507)) = true := by simpa using c79))
                                      (try (have c79b2 : (t515 == (!t507)) = true := by simpa using c79))
                                      clear c79
                                      by_cases c80 : (t517 == (!true)) = true
                                      · rw [if_pos c80] at H
                                        have c80b0 : (t517 == (!true)) = true := c80
                                        (try (have c80b1 : decide (t517 = (!true)) = true := by simpa using c80))
                                        (try (have c80b2 : (t517 == (!true)) = true := by simpa using c80))
                                        clear c80
                                        obtain rfl := Option.some.inj H
                                        go_wp2
                                        (try (any_goals (rename_i hx_; first | exact absurd (by simpa using c78b0) hx_ | exact absurd hx_ (by simpa using c78b0) | exact absurd (by simpa using c79b0) hx_ | exact absurd hx_ (by simpa using c79b0) | exact absurd (by simpa using c80b0) hx_ | exact absurd hx_ (by simpa using c80b0))))
                                        go_ret
                                        exact ⟨by first | rfl | (simp [errW_none, errW_some] <;> rfl) | (simp [*, errW_none, errW_some] <;> rfl), by repeat (first | (with_reducible first | exact HB.out | apply below_alloc | apply pw_below_drewN | apply below_drew1 | refine below_set ?_ GE504.out | refine below_set ?_ GE505.out) | exact HB.out)⟩
                                      · rw [if_neg c80] at H
                                        exact absurd H (by simp)
                                    · rw [if_neg c79] at H
                                      exact absurd H (by simp)
                                  · rw [if_neg c78] at H
                                    exact absurd H (by simp)
                                · rw [if_neg c77] at H
                                  exact absurd H (by simp)
                              · replace c76 := Bool.eq_false_iff.mpr c76
                                subst c76
                                have H1 : (if x19_41 = 1 then (if (t513 == (!false)) = true then (if (t515 == (!t507)) = true then (if (t517 == (!false)) = true then (some (t519 == false)) else (none)) else (none)) else (none)) else (none)) = some r := by rw [if_neg (show ¬ (false = true) by decide)] at H; exact H
                                clear H
                                have H := H1
                                clear H1
                                by_cases c81 : x19_41 = 1
                                · rw [if_pos c81] at H
                                  have c81b0 : (x19_41 == 1) = true := beq_iff_eq.mpr c81
                                  have c81b1 : (x19_41 != 1) = false := bne_eq_false_iff_eq.mpr c81
                                  clear c81
                                  by_cases c82 : (t513 == (!false)) = true
                                  · rw [if_pos c82] at H
                                    have c82b0 : (t513 == (!false)) = true := c82
                                    (try (have c82b1 : decide (t513 = (!false)) = true := by simpa using c82))
                                    (try (have c82b2 : (t513 == (!false)) = true := by simpa using c82))
                                    clear c82
                                    by_cases c83 : (t515 == (!t507)) = true
                                    · rw [if_pos c83] at H
                                      have c83b0 : (t515 == (!t507)) = true := c83
                                      (try (have c83b1 : decide (t515 = (!t507)) = true := by simpa using c83))
                                      (try (have c83b2 : (t515 == (!t507)) = true := by simpa using c83))
                                      clear c83
                                      by_cases c84 : (t517 == (!false)) = true
                                      · rw [if_pos c84] at H
                                        have c84b0 : (t517 == (!false)) = true := c84
                                        (try (have c84b1 : decide (t517 = (!false)) = true := by simpa using c84))
                                        (try (have c84b2 : (t517 == (!false)) = true := by simpa using c84))
                                        clear c84
                                        obtain rfl := Option.some.inj H
                                        go_wp2
                                        (try (any_goals (rename_i hx_; first | exact absurd (by simpa using c82b0) hx_ | exact absurd hx_ (by simpa using c82b0) | exact absurd (by simpa using c83b0) hx_ | exact absurd hx_ (by simpa using c83b0) | exact absurd (by simpa using c84b0) hx_ | exact absurd hx_ (by simpa using c84b0))))
                                        go_ret
                                        exact ⟨by first | rfl | (simp [errW_none, errW_some] <;> rfl) | (simp [*, errW_none, errW_some] <;> rfl), by repeat (first | (with_reducible first | exact HB.out | apply below_alloc | apply pw_below_drewN | apply below_drew1 | refine below_set ?_ GE504.out | refine below_set ?_ GE505.out) | exact HB.out)⟩
                                      · rw [if_neg c84] at H
                                        exact absurd H (by simp)
                                    · rw [if_neg c83] at H
                                      exact absurd H (by simp)
                                  · rw [if_neg c82] at H
                                    exact absurd H (by simp)
                                · rw [if_neg c81] at H
                                  exact absurd H (by simp)
                      · replace c41 := Bool.eq_false_iff.mpr c41
                        subst c41
                        have H1 : (none) = some r := by rw [if_neg (show ¬ (false = true) by decide)] at H; exact H
                        clear H
                        have H := H1
                        clear H1
                        exact absurd H (by simp)
                    · replace c40 := Bool.eq_false_iff.mpr c40
                      subst c40
                      have H1 : (none) = some r := by rw [if_neg (show ¬ (false = true) by decide)] at H; exact H
                      clear H
                      have H := H1
                      clear H1
                      exact absurd H (by simp)
                  · replace c39 := Bool.eq_false_iff.mpr c39
                    subst c39
                    have H1 : (none) = some r := by rw [if_neg (show ¬ (false = true) by decide)] at H; exact H
                    clear H
                    have H := H1
                    clear H1
                    exact absurd H (by simp)
                · replace c38 := Bool.eq_false_iff.mpr c38
                  subst c38
                  have H1 : (none) = some r := by rw [if_neg (show ¬ (false = true) by decide)] at H; exact H
                  clear H
                  have H := H1
                  clear H1
                  exact absurd H (by simp)
              · replace c37 := Bool.eq_false_iff.mpr c37
                subst c37
                have H1 : (none) = some r := by rw [if_neg (show ¬ (false = true) by decide)] at H; exact H
                clear H
                have H := H1
                clear H1
                exact absurd H (by simp)
            · replace c36 := Bool.eq_false_iff.mpr c36
              subst c36
              have H1 : (none) = some r := by rw [if_neg (show ¬ (false = true) by decide)] at H; exact H
              clear H
              have H := H1
              clear H1
              exact absurd H (by simp)
          · replace c35 := Bool.eq_false_iff.mpr c35
            subst c35
            have H1 : (none) = some r := by rw [if_neg (show ¬ (false = true) by decide)] at H; exact H
            clear H
            have H := H1
            clear H1
            exact absurd H (by simp)
  · replace c4 := Bool.eq_false_iff.mpr c4
    subst c4
    have H1 : (none) = some r := by rw [if_neg (show ¬ (false = true) by decide)] at H; exact H
    clear H
    have H := H1
    clear H1
    exact absurd H (by simp)

end Go.Proofs.Ytekndmlcmepekaa.Q
