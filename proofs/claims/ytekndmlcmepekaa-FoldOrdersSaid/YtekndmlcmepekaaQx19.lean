/- Functions of the program as Lean functions, and their walks: printed by print.py as this session changed it (mkprint.py). Lean checks it. No condition. -/
import Derived.Test.YtekndmlcmepekaaQx0
import Derived.Test.YtekndmlcmepekaaQx5
import Derived.Test.YtekndmlcmepekaaQx10
import Derived.Test.YtekndmlcmepekaaQx18
namespace Go.Proofs.Ytekndmlcmepekaa.Q
open Go.RowKit Go.Proofs.YtekndmlcmepekaaW.PrintWords Go.Proofs.YtekndmlcmepekaaW.PrintLast Go.Proofs.YtekndmlcmepekaaW.PrintMore
attribute [local go_sem] max2_int min2_int max_two min_two max_three min_three max_four min_four   -- for this text's walks alone
attribute [local go_sem] Instr.field asAgg
set_option linter.unusedVariables false
set_option linter.unusedSimpArgs false

/-! ### fold_Unary: function 12 -/
def fold_Unary.j0 : Nat → ByteArray → Bool → Int → Int → Int → Bool → ByteArray → Option (Int × Int × Int × Bool × ByteArray × Int)
  | 0, _, _, _, _, _, _, _ => none
  | k + 1, x0, x6, x456000, x456001, x456002, x456003, x456004 => if x6 = true then ((wide_Neg.f x456001 x456002).bind fun bt457 => ((fold_number.f bt457.1 bt457.2.1 bt457.2.2).bind fun bt460 => (some (bt460.1, bt460.2.1, bt460.2.2.1, bt460.2.2.2.1, bt460.2.2.2.2.1, bt460.2.2.2.2.2)))) else (if x0.toList = ([33] : List UInt8) then (if x456000 = 2 then ((fold_truth.f (!x456003)).bind fun bt466 => (some (bt466.1, bt466.2.1, bt466.2.2.1, bt466.2.2.2.1, bt466.2.2.2.2.1, bt466.2.2.2.2.2))) else (some (0, 0, 0, false, (⟨#[]⟩ : ByteArray), 9))) else (some (0, 0, 0, false, (⟨#[]⟩ : ByteArray), 9)))
def fold_Unary.f (k : Nat) (a0 : ByteArray) (a1_0 : Int) (a1_1 : Int) (a1_2 : Int) (a1_3 : Bool) (a1_4 : ByteArray) : Option (Int × Int × Int × Bool × ByteArray × Int) := if a0.toList = ([45] : List UInt8) then (fold_Unary.j0 k a0 (a1_0 == 1) a1_0 a1_1 a1_2 a1_3 a1_4) else (fold_Unary.j0 k a0 false a1_0 a1_1 a1_2 a1_3 a1_4)
theorem fold_Unary.mono_l : ∀ k, (∀ y0 y1 y2 y3 y4 y5 y6, LeO (fold_Unary.j0 k y0 y1 y2 y3 y4 y5 y6) (fold_Unary.j0 (k + 1) y0 y1 y2 y3 y4 y5 y6))
  | 0 => fun _ _ _ _ _ _ _ r h => by simp [fold_Unary.j0] at h
  | k + 1 => by
    have ih0 := fold_Unary.mono_l k
    · intro y0 y1 y2 y3 y4 y5 y6
      unfold fold_Unary.j0
      repeat' first
      | (with_reducible exact ih0 _ _ _ _ _ _ _)
      | (with_reducible exact LeO.refl _)
      | (with_reducible exact LeO.none _)
      | (with_reducible refine LeO.ite ?_ ?_)
      | (with_reducible refine LeO.bind ?_ (fun _ => ?_))
      | exact ih0 _ _ _ _ _ _ _
      | exact LeO.none _
      | refine LeO.ite ?_ ?_
      | refine LeO.bind ?_ (fun _ => ?_)
theorem fold_Unary.mono : ∀ a0 a1 a2 a3 a4 a5 k, LeO (fold_Unary.f k a0 a1 a2 a3 a4 a5) (fold_Unary.f (k + 1) a0 a1 a2 a3 a4 a5) := by
  intro a0 a1 a2 a3 a4 a5 k
  have ih0 := fold_Unary.mono_l k
  unfold fold_Unary.f
  repeat' first
      | (with_reducible exact ih0 _ _ _ _ _ _ _)
      | (with_reducible exact LeO.refl _)
      | (with_reducible exact LeO.none _)
      | (with_reducible refine LeO.ite ?_ ?_)
      | (with_reducible refine LeO.bind ?_ (fun _ => ?_))
      | exact ih0 _ _ _ _ _ _ _
      | exact LeO.none _
      | refine LeO.ite ?_ ?_
      | refine LeO.bind ?_ (fun _ => ?_)
set_option maxHeartbeats 8000000 in
set_option maxRecDepth 100000 in
theorem fold_Unary.calls (k : Nat) (a0 : ByteArray) (a1_0 : Int) (a1_1 : Int) (a1_2 : Int) (a1_3 : Bool) (a1_4 : ByteArray) (r1 : Int) (r2 : Int) (r3 : Int) (r4 : Bool) (r5 : ByteArray) (r6 : Int) (w : World) (h : fold_Unary.f k a0 a1_0 a1_1 a1_2 a1_3 a1_4 = some (r1, r2, r3, r4, r5, r6)) :
    Calls Try.prog 12 #[.string a0, .agg #[.int .i64 a1_0, .int .u64 a1_1, .int .u64 a1_2, .bool a1_3, .string a1_4]] w fun e w' => e = .returned (.tuple #[.agg #[.int .i64 r1, .int .u64 r2, .int .u64 r3, .bool r4, .string r5], .int .i64 r6]) ∧ Below w.heap.size w w' := by
  have hu28 := Try.underlying28
  have hu26 := Try.underlying26
  have HB := Aside0.mk (Below.refl w.heap.size w)
  have H : (if a0.toList = ([45] : List UInt8) then (fold_Unary.j0 k a0 (a1_0 == 1) a1_0 a1_1 a1_2 a1_3 a1_4) else (fold_Unary.j0 k a0 false a1_0 a1_1 a1_2 a1_3 a1_4)) = some (r1, r2, r3, r4, r5, r6) := h
  clear h
  have HC3 := Aside0.mk H
  clear H
  go_enter Try.func12, Try.ntmps12
  go_upto_region 1 with (first | ((with_reducible refine gate_dst (N := 3) rfl ?_); refine box_event ?hg (N := 3) ?hd (cs := #[.int .i64 a1_0, .int .u64 a1_1, .int .u64 a1_2, .bool a1_3, .string a1_4]) (t := 28) ?hr ?_; (case hd => rfl); (case hg => rfl); (case hr => first | (go_simp; done) | (go_simp; rfl)); intro gb455 hg w4 hbox hb; have n0_ := Aside0.mk (below_step (bL HB) hb); have n1_ := Aside0.mk (hbox); have n2_ := Aside0.mk ((by rw [hg]; exact (below_size (bL HB)) : w.heap.size ≤ gb455)); have n3_ := Aside0.mk ((by rw [hg]; exact (below_size (bL HB)) : w.heap.size ≤ gb455)); clear HB; have HB := n0_; have BK455 := n1_; have GW455 := n2_; have GE455 := n3_; clear n0_ n1_ n2_ n3_; clear hb hbox hg) | ((with_reducible refine gate_dst (N := 4) rfl ?_); refine box_event ?hg (N := 4) ?hd (cs := #[.int .i64 0, .int .u64 0, .int .u64 0, .bool false, .string (⟨#[]⟩ : ByteArray)]) (t := 28) ?hr ?_; (case hd => rfl); (case hg => rfl); (case hr => first | (go_simp; done) | (go_simp; rfl)); intro gb456 hg w5 hbox hb; have n0_ := blkB BK455 hb; have n1_ := Aside0.mk (below_step (bL HB) hb); have n2_ := Aside0.mk (hbox); have n3_ := Aside0.mk ((by rw [hg]; exact (below_size (bL HB)) : w.heap.size ≤ gb456)); have n4_ := Aside0.mk ((by rw [hg]; exact (below_size (bL HB)) : w.heap.size ≤ gb456)); have n5_ := blkL BK455 hg; have n6_ := blkG BK455 hg; clear BK455 HB; have BK455 := n0_; have HB := n1_; have BK456 := n2_; have GW456 := n3_; have GE456 := n4_; have NB455_456 := n5_; have NB456_455 := n6_; clear n0_ n1_ n2_ n3_ n4_ n5_ n6_; clear hb hbox hg))
  (try simp only [Act.put, List.setIfInBounds_toArray, List.set_cons_zero, List.set_cons_succ])
  go_cut [6] (fun v6 wc => ∃ (kq : Nat) (x6_2 : Bool), v6 = .bool x6_2 ∧ Aside0 (fold_Unary.j0 kq a0 x6_2 a1_0 a1_1 a1_2 a1_3 a1_4 = some (r1, r2, r3, r4, r5, r6)) ∧ Aside0 (kq ≤ k) ∧ Aside0 (wc.heap[gb455]? = some (.cells #[.int .i64 a1_0, .int .u64 a1_1, .int .u64 a1_2, .bool a1_3, .string a1_4] 28 (0, 0))) ∧ Aside0 (wc.heap[gb456]? = some (.cells #[.int .i64 0, .int .u64 0, .int .u64 0, .bool false, .string (⟨#[]⟩ : ByteArray)] 28 (0, 0))) ∧ Aside0 (Below w.heap.size w wc))
  case first =>
    have H := HC3.out
    clear HC3
    by_cases c6 : a0.toList = ([45] : List UInt8)
    · rw [if_pos c6] at H
      have c6b0 : (a0.toList == ([45] : List UInt8)) = true := beq_iff_eq.mpr c6
      have c6b1 : (a0.toList != ([45] : List UInt8)) = false := bne_eq_false_iff_eq.mpr c6
      clear c6
      (first | rw [c6b0] | (simp only [i64_w, i32_w]; rw [c6b0]) | skip)
      have H' := Aside0.mk H
      clear H
      have hnb7 := NB455_456.out
      have hnc7 := NB456_455.out
      have hcz8_0 : w5.cell? ⟨gb455, 0, none⟩ = some (.int .i64 a1_0) := (blk_cell BK455.out 0).trans rfl
      have hcz8_1 : w5.cell? ⟨gb455, 1, none⟩ = some (.int .u64 a1_1) := (blk_cell BK455.out 1).trans rfl
      have hcz8_2 : w5.cell? ⟨gb455, 2, none⟩ = some (.int .u64 a1_2) := (blk_cell BK455.out 2).trans rfl
      have hcz8_3 : w5.cell? ⟨gb455, 3, none⟩ = some (.bool a1_3) := (blk_cell BK455.out 3).trans rfl
      have hcz8_4 : w5.cell? ⟨gb455, 4, none⟩ = some (.string a1_4) := (blk_cell BK455.out 4).trans rfl
      have hfz8_0 := blk_frozen BK455.out 0
      have hfz8_1 := blk_frozen BK455.out 1
      have hfz8_2 := blk_frozen BK455.out 2
      have hfz8_3 := blk_frozen BK455.out 3
      have hfz8_4 := blk_frozen BK455.out 4
      go_wp2
      go_meet
      case rel => exact ⟨_, ((a1_0 == 1)), (by first | rfl | (simp; done) | (simp [*]; done)), H', ⟨by first | omega | exact Nat.le_refl _⟩, ⟨by (with_reducible repeat (first | refine blk_drewN ?_ _ | refine blk_drew ?_ | refine blk_alloc ?_ _)); exact BK455.out⟩, ⟨by (with_reducible repeat (first | refine blk_drewN ?_ _ | refine blk_drew ?_ | refine blk_alloc ?_ _)); exact BK456.out⟩, ⟨by repeat (first | (with_reducible first | exact HB.out | apply below_alloc | apply pw_below_drewN | apply below_drew1 | refine below_set ?_ GE455.out | refine below_set ?_ GE456.out) | exact HB.out)⟩⟩
    · rw [if_neg c6] at H
      have c6b0 : (a0.toList == ([45] : List UInt8)) = false := beq_eq_false_iff_ne.mpr c6
      have c6b1 : (a0.toList != ([45] : List UInt8)) = true := bne_iff_ne.mpr c6
      (first | rw [c6b0] | (simp only [i64_w, i32_w]; rw [c6b0]) | skip)
      have H' := Aside0.mk H
      clear H
      go_wp2
      go_meet
      case rel => exact ⟨_, (false), (by first | rfl | (simp; done) | (simp [*]; done)), H', ⟨by first | omega | exact Nat.le_refl _⟩, ⟨by (with_reducible repeat (first | refine blk_drewN ?_ _ | refine blk_drew ?_ | refine blk_alloc ?_ _)); exact BK455.out⟩, ⟨by (with_reducible repeat (first | refine blk_drewN ?_ _ | refine blk_drew ?_ | refine blk_alloc ?_ _)); exact BK456.out⟩, ⟨by repeat (first | (with_reducible first | exact HB.out | apply below_alloc | apply pw_below_drewN | apply below_drew1 | refine below_set ?_ GE455.out | refine below_set ?_ GE456.out) | exact HB.out)⟩⟩
  case rest =>
    clear HC3
    try clear c1
    try clear p2
    try clear c6
    try clear c6b0
    try clear c6b1
    try clear c7
    try clear hcz8_0
    try clear hcz8_1
    try clear hcz8_2
    try clear hcz8_3
    try clear hcz8_4
    try clear hfz8_0
    try clear hfz8_1
    try clear hfz8_2
    try clear hfz8_3
    try clear hfz8_4
    obtain ⟨kq, x6_2, rfl, HA, HJ2, BK455, BK456, HB⟩ := hcut
    cases kq with
    | zero => exact absurd HA.out (by simp [fold_Unary.j0])
    | succ kj2 =>
      have H := HA.out
      clear HA
      simp only [fold_Unary.j0] at H
      by_cases c9 : x6_2 = true
      · subst c9
        have H1 : ((wide_Neg.f a1_1 a1_2).bind fun bt457 => ((fold_number.f bt457.1 bt457.2.1 bt457.2.2).bind fun bt460 => (some (bt460.1, bt460.2.1, bt460.2.2.1, bt460.2.2.2.1, bt460.2.2.2.2.1, bt460.2.2.2.2.2)))) = some (r1, r2, r3, r4, r5, r6) := by rw [if_pos rfl] at H; exact H
        clear H
        have H := H1
        clear H1
        replace H := Option.bind_eq_some_iff.mp H
        obtain ⟨⟨t457, t458, t459⟩, A100, H⟩ := H
        replace H : ((fold_number.f t457 t458 t459).bind fun bt460 => (some (bt460.1, bt460.2.1, bt460.2.2.1, bt460.2.2.2.1, bt460.2.2.2.2.1, bt460.2.2.2.2.2))) = some (r1, r2, r3, r4, r5, r6) := H
        have A10 := Aside0.mk A100
        clear A100
        replace H := Option.bind_eq_some_iff.mp H
        obtain ⟨⟨t460, t461, t462, t463, t464, t465⟩, A110, H⟩ := H
        replace H : (some (t460, t461, t462, t463, t464, t465)) = some (r1, r2, r3, r4, r5, r6) := H
        have A11 := Aside0.mk A110
        clear A110
        simp only [Option.some.injEq, Prod.mk.injEq] at H
        obtain ⟨rfl, rfl, rfl, rfl, rfl, rfl⟩ := H
        have hnb12 := NB455_456.out
        have hnc12 := NB456_455.out
        have hcz13_0 : wc.cell? ⟨gb455, 0, none⟩ = some (.int .i64 a1_0) := (blk_cell BK455.out 0).trans rfl
        have hcz13_1 : wc.cell? ⟨gb455, 1, none⟩ = some (.int .u64 a1_1) := (blk_cell BK455.out 1).trans rfl
        have hcz13_2 : wc.cell? ⟨gb455, 2, none⟩ = some (.int .u64 a1_2) := (blk_cell BK455.out 2).trans rfl
        have hcz13_3 : wc.cell? ⟨gb455, 3, none⟩ = some (.bool a1_3) := (blk_cell BK455.out 3).trans rfl
        have hcz13_4 : wc.cell? ⟨gb455, 4, none⟩ = some (.string a1_4) := (blk_cell BK455.out 4).trans rfl
        have hfz13_0 := blk_frozen BK455.out 0
        have hfz13_1 := blk_frozen BK455.out 1
        have hfz13_2 := blk_frozen BK455.out 2
        have hfz13_3 := blk_frozen BK455.out 3
        have hfz13_4 := blk_frozen BK455.out 4
        go_wp2_with (first | ((with_reducible refine gate_callee (f := 24) rfl ?_); refine goesL_ (some 16) rfl rfl Try.func24 (by kernel_rfl) rfl #[.agg #[.int .u64 a1_1, .int .u64 a1_2]] rfl (by (try simp only [List.map_toArray, List.map_cons, List.map_nil]); first | done | rfl | (simp only [List.length_drop, List.length_take]; rfl) | (go_simp; simp only [u8_w, w64_u8]; done) | (go_simp; simp only [u8_w, w64_u8]; rfl)) ?_; (with_reducible refine (wide_Neg.calls a1_1 a1_2 t457 t458 t459 _ A10.out).mono ?_); rintro e w14 ⟨rfl, hb⟩; refine ⟨_, rfl, ?_⟩; have n0_ := blkB BK455 hb; have n1_ := blkB BK456 hb; have n2_ := Aside0.mk (below_step (bL HB) hb); clear BK455 BK456 HB; have BK455 := n0_; have BK456 := n1_; have HB := n2_; clear n0_ n1_ n2_; (try clear hb); (try clear hb2); (try clear hk); (try clear hi)) | ((with_reducible refine gate_callee (f := 23) rfl ?_); refine goesL_ (some 19) rfl rfl Try.func23 (by kernel_rfl) rfl #[.agg #[.int .u64 t457, .int .u64 t458], .int .i64 t459] rfl (by (try simp only [List.map_toArray, List.map_cons, List.map_nil]); first | done | rfl | (simp only [List.length_drop, List.length_take]; rfl) | (go_simp; simp only [u8_w, w64_u8]; done) | (go_simp; simp only [u8_w, w64_u8]; rfl)) ?_; (with_reducible refine (fold_number.calls t457 t458 t459 t460 t461 t462 t463 t464 t465 _ A11.out).mono ?_); rintro e w15 ⟨rfl, hb⟩; refine ⟨_, rfl, ?_⟩; have n0_ := blkB BK455 hb; have n1_ := blkB BK456 hb; have n2_ := Aside0.mk (below_step (bL HB) hb); clear BK455 BK456 HB; have BK455 := n0_; have BK456 := n1_; have HB := n2_; clear n0_ n1_ n2_; (try clear hb); (try clear hb2); (try clear hk); (try clear hi); have hcz16_0 : w15.cell? ⟨gb456, 0, none⟩ = some (.int .i64 0) := (blk_cell BK456.out 0).trans rfl; have hcz16_1 : w15.cell? ⟨gb456, 1, none⟩ = some (.int .u64 0) := (blk_cell BK456.out 1).trans rfl; have hcz16_2 : w15.cell? ⟨gb456, 2, none⟩ = some (.int .u64 0) := (blk_cell BK456.out 2).trans rfl; have hcz16_3 : w15.cell? ⟨gb456, 3, none⟩ = some (.bool false) := (blk_cell BK456.out 3).trans rfl; have hcz16_4 : w15.cell? ⟨gb456, 4, none⟩ = some (.string (⟨#[]⟩ : ByteArray)) := (blk_cell BK456.out 4).trans rfl; have hfz16_0 := blk_frozen BK456.out 0; have hfz16_1 := blk_frozen BK456.out 1; have hfz16_2 := blk_frozen BK456.out 2; have hfz16_3 := blk_frozen BK456.out 3; have hfz16_4 := blk_frozen BK456.out 4))
        refine bodyPost_ret (results_ct rfl _ _ gb456 28 #[.int .i64 t460, .int .u64 t461, .int .u64 t462, .bool t463, .string t464] (0, 0) _ rfl (by (with_reducible repeat (first | refine blk_drewN ?_ _ | refine blk_drew ?_ | refine blk_alloc ?_ _)); refine blk_put (cs := #[.int .i64 t460, .int .u64 t461, .int .u64 t462, .bool t463, .string (⟨#[]⟩ : ByteArray)]) ?_ 4 _ rfl; (with_reducible repeat (first | refine blk_drewN ?_ _ | refine blk_drew ?_ | refine blk_alloc ?_ _)); refine blk_put (cs := #[.int .i64 t460, .int .u64 t461, .int .u64 t462, .bool false, .string (⟨#[]⟩ : ByteArray)]) ?_ 3 _ rfl; (with_reducible repeat (first | refine blk_drewN ?_ _ | refine blk_drew ?_ | refine blk_alloc ?_ _)); refine blk_put (cs := #[.int .i64 t460, .int .u64 t461, .int .u64 0, .bool false, .string (⟨#[]⟩ : ByteArray)]) ?_ 2 _ rfl; (with_reducible repeat (first | refine blk_drewN ?_ _ | refine blk_drew ?_ | refine blk_alloc ?_ _)); refine blk_put (cs := #[.int .i64 t460, .int .u64 0, .int .u64 0, .bool false, .string (⟨#[]⟩ : ByteArray)]) ?_ 1 _ rfl; (with_reducible repeat (first | refine blk_drewN ?_ _ | refine blk_drew ?_ | refine blk_alloc ?_ _)); refine blk_put (cs := #[.int .i64 0, .int .u64 0, .int .u64 0, .bool false, .string (⟨#[]⟩ : ByteArray)]) ?_ 0 _ rfl; (with_reducible repeat (first | refine blk_drewN ?_ _ | refine blk_drew ?_ | refine blk_alloc ?_ _)); exact BK456.out) Try.underlying28 rfl (by kernel_rfl)) rfl ?_
        exact ⟨by first | rfl | (simp [errW_none, errW_some] <;> rfl) | (simp [*, errW_none, errW_some] <;> rfl), by repeat (first | (with_reducible first | exact HB.out | apply below_alloc | apply pw_below_drewN | apply below_drew1 | refine below_set ?_ GE455.out | refine below_set ?_ GE456.out) | exact HB.out)⟩
      · replace c9 := Bool.eq_false_iff.mpr c9
        subst c9
        have H1 : (if a0.toList = ([33] : List UInt8) then (if a1_0 = 2 then ((fold_truth.f (!a1_3)).bind fun bt466 => (some (bt466.1, bt466.2.1, bt466.2.2.1, bt466.2.2.2.1, bt466.2.2.2.2.1, bt466.2.2.2.2.2))) else (some (0, 0, 0, false, (⟨#[]⟩ : ByteArray), 9))) else (some (0, 0, 0, false, (⟨#[]⟩ : ByteArray), 9))) = some (r1, r2, r3, r4, r5, r6) := by rw [if_neg (show ¬ (false = true) by decide)] at H; exact H
        clear H
        have H := H1
        clear H1
        by_cases c17 : a0.toList = ([33] : List UInt8)
        · rw [if_pos c17] at H
          have c17b0 : (a0.toList == ([33] : List UInt8)) = true := beq_iff_eq.mpr c17
          have c17b1 : (a0.toList != ([33] : List UInt8)) = false := bne_eq_false_iff_eq.mpr c17
          clear c17
          by_cases c18 : a1_0 = 2
          · rw [if_pos c18] at H
            have c18b0 : (a1_0 == 2) = true := beq_iff_eq.mpr c18
            have c18b1 : (a1_0 != 2) = false := bne_eq_false_iff_eq.mpr c18
            clear c18
            replace H := Option.bind_eq_some_iff.mp H
            obtain ⟨⟨t466, t467, t468, t469, t470, t471⟩, A190, H⟩ := H
            replace H : (some (t466, t467, t468, t469, t470, t471)) = some (r1, r2, r3, r4, r5, r6) := H
            have A19 := Aside0.mk A190
            clear A190
            simp only [Option.some.injEq, Prod.mk.injEq] at H
            obtain ⟨rfl, rfl, rfl, rfl, rfl, rfl⟩ := H
            have hnb20 := NB455_456.out
            have hnc20 := NB456_455.out
            have hcz21_0 : wc.cell? ⟨gb455, 0, none⟩ = some (.int .i64 a1_0) := (blk_cell BK455.out 0).trans rfl
            have hcz21_1 : wc.cell? ⟨gb455, 1, none⟩ = some (.int .u64 a1_1) := (blk_cell BK455.out 1).trans rfl
            have hcz21_2 : wc.cell? ⟨gb455, 2, none⟩ = some (.int .u64 a1_2) := (blk_cell BK455.out 2).trans rfl
            have hcz21_3 : wc.cell? ⟨gb455, 3, none⟩ = some (.bool a1_3) := (blk_cell BK455.out 3).trans rfl
            have hcz21_4 : wc.cell? ⟨gb455, 4, none⟩ = some (.string a1_4) := (blk_cell BK455.out 4).trans rfl
            have hfz21_0 := blk_frozen BK455.out 0
            have hfz21_1 := blk_frozen BK455.out 1
            have hfz21_2 := blk_frozen BK455.out 2
            have hfz21_3 := blk_frozen BK455.out 3
            have hfz21_4 := blk_frozen BK455.out 4
            go_wp2_with (first | ((with_reducible refine gate_callee (f := 25) rfl ?_); refine goesL_ (some 33) rfl rfl Try.func25 (by kernel_rfl) rfl #[.bool (!a1_3)] rfl (by (try simp only [List.map_toArray, List.map_cons, List.map_nil]); first | done | rfl | (simp only [List.length_drop, List.length_take]; rfl) | (go_simp; simp only [u8_w, w64_u8]; done) | (go_simp; simp only [u8_w, w64_u8]; rfl)) ?_; (with_reducible refine (fold_truth.calls (!a1_3) t466 t467 t468 t469 t470 t471 _ A19.out).mono ?_); rintro e w22 ⟨rfl, hb⟩; refine ⟨_, rfl, ?_⟩; have n0_ := blkB BK455 hb; have n1_ := blkB BK456 hb; have n2_ := Aside0.mk (below_step (bL HB) hb); clear BK455 BK456 HB; have BK455 := n0_; have BK456 := n1_; have HB := n2_; clear n0_ n1_ n2_; (try clear hb); (try clear hb2); (try clear hk); (try clear hi); have hcz23_0 : w22.cell? ⟨gb456, 0, none⟩ = some (.int .i64 0) := (blk_cell BK456.out 0).trans rfl; have hcz23_1 : w22.cell? ⟨gb456, 1, none⟩ = some (.int .u64 0) := (blk_cell BK456.out 1).trans rfl; have hcz23_2 : w22.cell? ⟨gb456, 2, none⟩ = some (.int .u64 0) := (blk_cell BK456.out 2).trans rfl; have hcz23_3 : w22.cell? ⟨gb456, 3, none⟩ = some (.bool false) := (blk_cell BK456.out 3).trans rfl; have hcz23_4 : w22.cell? ⟨gb456, 4, none⟩ = some (.string (⟨#[]⟩ : ByteArray)) := (blk_cell BK456.out 4).trans rfl; have hfz23_0 := blk_frozen BK456.out 0; have hfz23_1 := blk_frozen BK456.out 1; have hfz23_2 := blk_frozen BK456.out 2; have hfz23_3 := blk_frozen BK456.out 3; have hfz23_4 := blk_frozen BK456.out 4))
            refine bodyPost_ret (results_ct rfl _ _ gb456 28 #[.int .i64 t466, .int .u64 t467, .int .u64 t468, .bool t469, .string t470] (0, 0) _ rfl (by (with_reducible repeat (first | refine blk_drewN ?_ _ | refine blk_drew ?_ | refine blk_alloc ?_ _)); refine blk_put (cs := #[.int .i64 t466, .int .u64 t467, .int .u64 t468, .bool t469, .string (⟨#[]⟩ : ByteArray)]) ?_ 4 _ rfl; (with_reducible repeat (first | refine blk_drewN ?_ _ | refine blk_drew ?_ | refine blk_alloc ?_ _)); refine blk_put (cs := #[.int .i64 t466, .int .u64 t467, .int .u64 t468, .bool false, .string (⟨#[]⟩ : ByteArray)]) ?_ 3 _ rfl; (with_reducible repeat (first | refine blk_drewN ?_ _ | refine blk_drew ?_ | refine blk_alloc ?_ _)); refine blk_put (cs := #[.int .i64 t466, .int .u64 t467, .int .u64 0, .bool false, .string (⟨#[]⟩ : ByteArray)]) ?_ 2 _ rfl; (with_reducible repeat (first | refine blk_drewN ?_ _ | refine blk_drew ?_ | refine blk_alloc ?_ _)); refine blk_put (cs := #[.int .i64 t466, .int .u64 0, .int .u64 0, .bool false, .string (⟨#[]⟩ : ByteArray)]) ?_ 1 _ rfl; (with_reducible repeat (first | refine blk_drewN ?_ _ | refine blk_drew ?_ | refine blk_alloc ?_ _)); refine blk_put (cs := #[.int .i64 0, .int .u64 0, .int .u64 0, .bool false, .string (⟨#[]⟩ : ByteArray)]) ?_ 0 _ rfl; (with_reducible repeat (first | refine blk_drewN ?_ _ | refine blk_drew ?_ | refine blk_alloc ?_ _)); exact BK456.out) Try.underlying28 rfl (by kernel_rfl)) rfl ?_
            exact ⟨by first | rfl | (simp [errW_none, errW_some] <;> rfl) | (simp [*, errW_none, errW_some] <;> rfl), by repeat (first | (with_reducible first | exact HB.out | apply below_alloc | apply pw_below_drewN | apply below_drew1 | refine below_set ?_ GE455.out | refine below_set ?_ GE456.out) | exact HB.out)⟩
          · rw [if_neg c18] at H
            have c18b0 : (a1_0 == 2) = false := beq_eq_false_iff_ne.mpr c18
            have c18b1 : (a1_0 != 2) = true := bne_iff_ne.mpr c18
            simp only [Option.some.injEq, Prod.mk.injEq] at H
            obtain ⟨rfl, rfl, rfl, rfl, rfl, rfl⟩ := H
            have hnb24 := NB455_456.out
            have hnc24 := NB456_455.out
            have hcz25_0 : wc.cell? ⟨gb455, 0, none⟩ = some (.int .i64 a1_0) := (blk_cell BK455.out 0).trans rfl
            have hcz25_1 : wc.cell? ⟨gb455, 1, none⟩ = some (.int .u64 a1_1) := (blk_cell BK455.out 1).trans rfl
            have hcz25_2 : wc.cell? ⟨gb455, 2, none⟩ = some (.int .u64 a1_2) := (blk_cell BK455.out 2).trans rfl
            have hcz25_3 : wc.cell? ⟨gb455, 3, none⟩ = some (.bool a1_3) := (blk_cell BK455.out 3).trans rfl
            have hcz25_4 : wc.cell? ⟨gb455, 4, none⟩ = some (.string a1_4) := (blk_cell BK455.out 4).trans rfl
            have hfz25_0 := blk_frozen BK455.out 0
            have hfz25_1 := blk_frozen BK455.out 1
            have hfz25_2 := blk_frozen BK455.out 2
            have hfz25_3 := blk_frozen BK455.out 3
            have hfz25_4 := blk_frozen BK455.out 4
            have hcz26_0 : wc.cell? ⟨gb456, 0, none⟩ = some (.int .i64 0) := (blk_cell BK456.out 0).trans rfl
            have hcz26_1 : wc.cell? ⟨gb456, 1, none⟩ = some (.int .u64 0) := (blk_cell BK456.out 1).trans rfl
            have hcz26_2 : wc.cell? ⟨gb456, 2, none⟩ = some (.int .u64 0) := (blk_cell BK456.out 2).trans rfl
            have hcz26_3 : wc.cell? ⟨gb456, 3, none⟩ = some (.bool false) := (blk_cell BK456.out 3).trans rfl
            have hcz26_4 : wc.cell? ⟨gb456, 4, none⟩ = some (.string (⟨#[]⟩ : ByteArray)) := (blk_cell BK456.out 4).trans rfl
            have hfz26_0 := blk_frozen BK456.out 0
            have hfz26_1 := blk_frozen BK456.out 1
            have hfz26_2 := blk_frozen BK456.out 2
            have hfz26_3 := blk_frozen BK456.out 3
            have hfz26_4 := blk_frozen BK456.out 4
            go_wp2
            refine bodyPost_ret (results_ct rfl _ _ gb456 28 #[.int .i64 0, .int .u64 0, .int .u64 0, .bool false, .string (⟨#[]⟩ : ByteArray)] (0, 0) _ rfl (by (with_reducible repeat (first | refine blk_drewN ?_ _ | refine blk_drew ?_ | refine blk_alloc ?_ _)); refine blk_put (cs := #[.int .i64 0, .int .u64 0, .int .u64 0, .bool false, .string (⟨#[]⟩ : ByteArray)]) ?_ 4 _ rfl; (with_reducible repeat (first | refine blk_drewN ?_ _ | refine blk_drew ?_ | refine blk_alloc ?_ _)); refine blk_put (cs := #[.int .i64 0, .int .u64 0, .int .u64 0, .bool false, .string (⟨#[]⟩ : ByteArray)]) ?_ 3 _ rfl; (with_reducible repeat (first | refine blk_drewN ?_ _ | refine blk_drew ?_ | refine blk_alloc ?_ _)); refine blk_put (cs := #[.int .i64 0, .int .u64 0, .int .u64 0, .bool false, .string (⟨#[]⟩ : ByteArray)]) ?_ 2 _ rfl; (with_reducible repeat (first | refine blk_drewN ?_ _ | refine blk_drew ?_ | refine blk_alloc ?_ _)); refine blk_put (cs := #[.int .i64 0, .int .u64 0, .int .u64 0, .bool false, .string (⟨#[]⟩ : ByteArray)]) ?_ 1 _ rfl; (with_reducible repeat (first | refine blk_drewN ?_ _ | refine blk_drew ?_ | refine blk_alloc ?_ _)); refine blk_put (cs := #[.int .i64 0, .int .u64 0, .int .u64 0, .bool false, .string (⟨#[]⟩ : ByteArray)]) ?_ 0 _ rfl; (with_reducible repeat (first | refine blk_drewN ?_ _ | refine blk_drew ?_ | refine blk_alloc ?_ _)); exact BK456.out) Try.underlying28 rfl (by kernel_rfl)) rfl ?_
            exact ⟨by first | rfl | (simp [errW_none, errW_some] <;> rfl) | (simp [*, errW_none, errW_some] <;> rfl), by repeat (first | (with_reducible first | exact HB.out | apply below_alloc | apply pw_below_drewN | apply below_drew1 | refine below_set ?_ GE455.out | refine below_set ?_ GE456.out) | exact HB.out)⟩
        · rw [if_neg c17] at H
          have c17b0 : (a0.toList == ([33] : List UInt8)) = false := beq_eq_false_iff_ne.mpr c17
          have c17b1 : (a0.toList != ([33] : List UInt8)) = true := bne_iff_ne.mpr c17
          simp only [Option.some.injEq, Prod.mk.injEq] at H
          obtain ⟨rfl, rfl, rfl, rfl, rfl, rfl⟩ := H
          have hnb27 := NB456_455.out
          have hnc27 := NB455_456.out
          have hcz28_0 : wc.cell? ⟨gb456, 0, none⟩ = some (.int .i64 0) := (blk_cell BK456.out 0).trans rfl
          have hcz28_1 : wc.cell? ⟨gb456, 1, none⟩ = some (.int .u64 0) := (blk_cell BK456.out 1).trans rfl
          have hcz28_2 : wc.cell? ⟨gb456, 2, none⟩ = some (.int .u64 0) := (blk_cell BK456.out 2).trans rfl
          have hcz28_3 : wc.cell? ⟨gb456, 3, none⟩ = some (.bool false) := (blk_cell BK456.out 3).trans rfl
          have hcz28_4 : wc.cell? ⟨gb456, 4, none⟩ = some (.string (⟨#[]⟩ : ByteArray)) := (blk_cell BK456.out 4).trans rfl
          have hfz28_0 := blk_frozen BK456.out 0
          have hfz28_1 := blk_frozen BK456.out 1
          have hfz28_2 := blk_frozen BK456.out 2
          have hfz28_3 := blk_frozen BK456.out 3
          have hfz28_4 := blk_frozen BK456.out 4
          go_wp2
          refine bodyPost_ret (results_ct rfl _ _ gb456 28 #[.int .i64 0, .int .u64 0, .int .u64 0, .bool false, .string (⟨#[]⟩ : ByteArray)] (0, 0) _ rfl (by (with_reducible repeat (first | refine blk_drewN ?_ _ | refine blk_drew ?_ | refine blk_alloc ?_ _)); refine blk_put (cs := #[.int .i64 0, .int .u64 0, .int .u64 0, .bool false, .string (⟨#[]⟩ : ByteArray)]) ?_ 4 _ rfl; (with_reducible repeat (first | refine blk_drewN ?_ _ | refine blk_drew ?_ | refine blk_alloc ?_ _)); refine blk_put (cs := #[.int .i64 0, .int .u64 0, .int .u64 0, .bool false, .string (⟨#[]⟩ : ByteArray)]) ?_ 3 _ rfl; (with_reducible repeat (first | refine blk_drewN ?_ _ | refine blk_drew ?_ | refine blk_alloc ?_ _)); refine blk_put (cs := #[.int .i64 0, .int .u64 0, .int .u64 0, .bool false, .string (⟨#[]⟩ : ByteArray)]) ?_ 2 _ rfl; (with_reducible repeat (first | refine blk_drewN ?_ _ | refine blk_drew ?_ | refine blk_alloc ?_ _)); refine blk_put (cs := #[.int .i64 0, .int .u64 0, .int .u64 0, .bool false, .string (⟨#[]⟩ : ByteArray)]) ?_ 1 _ rfl; (with_reducible repeat (first | refine blk_drewN ?_ _ | refine blk_drew ?_ | refine blk_alloc ?_ _)); refine blk_put (cs := #[.int .i64 0, .int .u64 0, .int .u64 0, .bool false, .string (⟨#[]⟩ : ByteArray)]) ?_ 0 _ rfl; (with_reducible repeat (first | refine blk_drewN ?_ _ | refine blk_drew ?_ | refine blk_alloc ?_ _)); exact BK456.out) Try.underlying28 rfl (by kernel_rfl)) rfl ?_
          exact ⟨by first | rfl | (simp [errW_none, errW_some] <;> rfl) | (simp [*, errW_none, errW_some] <;> rfl), by repeat (first | (with_reducible first | exact HB.out | apply below_alloc | apply pw_below_drewN | apply below_drew1 | refine below_set ?_ GE455.out | refine below_set ?_ GE456.out) | exact HB.out)⟩

end Go.Proofs.Ytekndmlcmepekaa.Q
