/- Functions of the program as Lean functions, and their walks: printed by print.py as this session changed it (mkprint.py). Lean checks it. No condition. -/
import Derived.Test.YtekndmlcmepekaaQx0
import Derived.Test.YtekndmlcmepekaaQx1
import Derived.Test.YtekndmlcmepekaaQx2
import Derived.Test.YtekndmlcmepekaaQx15
import Derived.Test.YtekndmlcmepekaaQx18
import Derived.Test.YtekndmlcmepekaaQx19
namespace Go.Proofs.Ytekndmlcmepekaa.Q
open Go.RowKit Go.Proofs.YtekndmlcmepekaaW.PrintWords Go.Proofs.YtekndmlcmepekaaW.PrintLast Go.Proofs.YtekndmlcmepekaaW.PrintMore
attribute [local go_sem] max2_int min2_int max_two min_two max_three min_three max_four min_four   -- for this text's walks alone
attribute [local go_sem] Instr.field asAgg
set_option linter.unusedVariables false
set_option linter.unusedSimpArgs false

attribute [local go_sem high] eqA26 eqA28
/-! ### lorgnettelaw08_FoldSums: function 7 -/
mutual
def lorgnettelaw08_FoldSums.j0 : Nat → Bool → Int → Int → Int → Bool → ByteArray → Int → Int → Int → Bool → ByteArray → Option (Bool)
  | 0, _, _, _, _, _, _, _, _, _, _, _ => none
  | k + 1, x24, x522000, x522001, x522002, x522003, x522004, x523000, x523001, x523002, x523003, x523004 => if x24 = true then (some true) else ((fold_Binary.f k (⟨#[43]⟩ : ByteArray) x522000 x522001 x522002 x522003 x522004 x523000 x523001 x523002 x523003 x523004).bind fun bt524 => (if x522000 = 3 then (lorgnettelaw08_FoldSums.j1 k bt524.2.2.2.2.2 (x523000 == 3) x522000 x522001 x522002 x522003 x522004 x523000 x523001 x523002 x523003 x523004 bt524.1 bt524.2.1 bt524.2.2.1 bt524.2.2.2.1 bt524.2.2.2.2.1) else (lorgnettelaw08_FoldSums.j1 k bt524.2.2.2.2.2 false x522000 x522001 x522002 x522003 x522004 x523000 x523001 x523002 x523003 x523004 bt524.1 bt524.2.1 bt524.2.2.1 bt524.2.2.2.1 bt524.2.2.2.2.1)))
def lorgnettelaw08_FoldSums.j1 : Nat → Int → Bool → Int → Int → Int → Bool → ByteArray → Int → Int → Int → Bool → ByteArray → Int → Int → Int → Bool → ByteArray → Option (Bool)
  | 0, _, _, _, _, _, _, _, _, _, _, _, _, _, _, _, _, _ => none
  | k + 1, x6, x38, x522000, x522001, x522002, x522003, x522004, x523000, x523001, x523002, x523003, x523004, x531000, x531001, x531002, x531003, x531004 => if x38 = true then (if x6 = 0 then (if x531000 = 3 then (if x522004.size + x523004.size ≤ 9223372036854775807 then (some (x531004.toList == (x522004 ++ x523004).toList)) else (none)) else (none)) else (none)) else (if x522000 = 1 then (lorgnettelaw08_FoldSums.j2 k x6 (x523000 != 1) x522000 x522001 x522002 x522003 x522004 x523000 x523001 x523002 x523003 x523004 x531000 x531001 x531002 x531003 x531004) else (lorgnettelaw08_FoldSums.j2 k x6 true x522000 x522001 x522002 x522003 x522004 x523000 x523001 x523002 x523003 x523004 x531000 x531001 x531002 x531003 x531004))
def lorgnettelaw08_FoldSums.j2 : Nat → Int → Bool → Int → Int → Int → Bool → ByteArray → Int → Int → Int → Bool → ByteArray → Int → Int → Int → Bool → ByteArray → Option (Bool)
  | 0, _, _, _, _, _, _, _, _, _, _, _, _, _, _, _, _, _ => none
  | k + 1, x6, x63, x522000, x522001, x522002, x522003, x522004, x523000, x523001, x523002, x523003, x523004, x531000, x531001, x531002, x531003, x531004 => if x63 = true then (if x6 = 9 then (some (x531000 == 0 && ((x531001 == 0 && (x531002 == 0)) && (!x531003 && (x531004.toList == ([] : List UInt8)))))) else (none)) else (if x6 = 0 then ((fold_Binary.f k (⟨#[45]⟩ : ByteArray) x531000 x531001 x531002 x531003 x531004 x523000 x523001 x523002 x523003 x523004).bind fun bt531 => (if bt531.2.2.2.2.2 = 0 then (if (!(bt531.2.1 == x522001) || (!(bt531.2.2.1 == x522002))) = true then (none) else ((fold_Unary.f k (⟨#[45]⟩ : ByteArray) x522000 x522001 x522002 x522003 x522004).bind fun bt538 => ((fold_Unary.f k (⟨#[45]⟩ : ByteArray) bt538.1 bt538.2.1 bt538.2.2.1 bt538.2.2.2.1 bt538.2.2.2.2.1).bind fun bt545 => (if bt538.2.2.2.2.2 = 0 then (if bt545.2.2.2.2.2 = 0 then (some (bt545.2.1 == x522001 && (bt545.2.2.1 == x522002))) else (none)) else (some true))))) else (none))) else ((fold_Unary.f k (⟨#[45]⟩ : ByteArray) x522000 x522001 x522002 x522003 x522004).bind fun bt552 => ((fold_Unary.f k (⟨#[45]⟩ : ByteArray) bt552.1 bt552.2.1 bt552.2.2.1 bt552.2.2.2.1 bt552.2.2.2.2.1).bind fun bt559 => (if bt552.2.2.2.2.2 = 0 then (if bt559.2.2.2.2.2 = 0 then (some (bt559.2.1 == x522001 && (bt559.2.2.1 == x522002))) else (none)) else (some true)))))
end
def lorgnettelaw08_FoldSums.f (k : Nat) (a0_0 : Int) (a0_1 : Int) (a0_2 : Int) (a0_3 : Bool) (a0_4 : ByteArray) (a1_0 : Int) (a1_1 : Int) (a1_2 : Int) (a1_3 : Bool) (a1_4 : ByteArray) : Option (Bool) := (lorgnettelaw08_awake.f k).bind fun t523 => (if t523 = true then (if (a0_4.size : Int) > 1024 then (lorgnettelaw08_FoldSums.j0 k true a0_0 a0_1 a0_2 a0_3 a0_4 a1_0 a1_1 a1_2 a1_3 a1_4) else (lorgnettelaw08_FoldSums.j0 k (decide ((a1_4.size : Int) > 1024)) a0_0 a0_1 a0_2 a0_3 a0_4 a1_0 a1_1 a1_2 a1_3 a1_4)) else (none))
theorem lorgnettelaw08_FoldSums.mono_l : ∀ k, (∀ y0 y1 y2 y3 y4 y5 y6 y7 y8 y9 y10, LeO (lorgnettelaw08_FoldSums.j0 k y0 y1 y2 y3 y4 y5 y6 y7 y8 y9 y10) (lorgnettelaw08_FoldSums.j0 (k + 1) y0 y1 y2 y3 y4 y5 y6 y7 y8 y9 y10)) ∧ (∀ y0 y1 y2 y3 y4 y5 y6 y7 y8 y9 y10 y11 y12 y13 y14 y15 y16, LeO (lorgnettelaw08_FoldSums.j1 k y0 y1 y2 y3 y4 y5 y6 y7 y8 y9 y10 y11 y12 y13 y14 y15 y16) (lorgnettelaw08_FoldSums.j1 (k + 1) y0 y1 y2 y3 y4 y5 y6 y7 y8 y9 y10 y11 y12 y13 y14 y15 y16)) ∧ (∀ y0 y1 y2 y3 y4 y5 y6 y7 y8 y9 y10 y11 y12 y13 y14 y15 y16, LeO (lorgnettelaw08_FoldSums.j2 k y0 y1 y2 y3 y4 y5 y6 y7 y8 y9 y10 y11 y12 y13 y14 y15 y16) (lorgnettelaw08_FoldSums.j2 (k + 1) y0 y1 y2 y3 y4 y5 y6 y7 y8 y9 y10 y11 y12 y13 y14 y15 y16))
  | 0 => ⟨fun _ _ _ _ _ _ _ _ _ _ _ r h => by simp [lorgnettelaw08_FoldSums.j0] at h, fun _ _ _ _ _ _ _ _ _ _ _ _ _ _ _ _ _ r h => by simp [lorgnettelaw08_FoldSums.j1] at h, fun _ _ _ _ _ _ _ _ _ _ _ _ _ _ _ _ _ r h => by simp [lorgnettelaw08_FoldSums.j2] at h⟩
  | k + 1 => by
    obtain ⟨ih0, ih1, ih2⟩ := lorgnettelaw08_FoldSums.mono_l k
    refine ⟨?_, ?_, ?_⟩
    · intro y0 y1 y2 y3 y4 y5 y6 y7 y8 y9 y10
      unfold lorgnettelaw08_FoldSums.j0
      repeat' first
      | (with_reducible exact ih0 _ _ _ _ _ _ _ _ _ _ _)
      | (with_reducible exact ih1 _ _ _ _ _ _ _ _ _ _ _ _ _ _ _ _ _)
      | (with_reducible exact ih2 _ _ _ _ _ _ _ _ _ _ _ _ _ _ _ _ _)
      | (with_reducible exact fold_Binary.mono _ _ _ _ _ _ _ _ _ _ _ _)
      | (with_reducible exact fold_Unary.mono _ _ _ _ _ _ _)
      | (with_reducible exact lorgnettelaw08_awake.mono _)
      | (with_reducible exact LeO.refl _)
      | (with_reducible exact LeO.none _)
      | (with_reducible refine LeO.ite ?_ ?_)
      | (with_reducible refine LeO.bind ?_ (fun _ => ?_))
      | exact ih0 _ _ _ _ _ _ _ _ _ _ _
      | exact ih1 _ _ _ _ _ _ _ _ _ _ _ _ _ _ _ _ _
      | exact ih2 _ _ _ _ _ _ _ _ _ _ _ _ _ _ _ _ _
      | exact fold_Binary.mono _ _ _ _ _ _ _ _ _ _ _ _
      | exact fold_Unary.mono _ _ _ _ _ _ _
      | exact lorgnettelaw08_awake.mono _
      | exact LeO.none _
      | refine LeO.ite ?_ ?_
      | refine LeO.bind ?_ (fun _ => ?_)
    · intro y0 y1 y2 y3 y4 y5 y6 y7 y8 y9 y10 y11 y12 y13 y14 y15 y16
      unfold lorgnettelaw08_FoldSums.j1
      repeat' first
      | (with_reducible exact ih0 _ _ _ _ _ _ _ _ _ _ _)
      | (with_reducible exact ih1 _ _ _ _ _ _ _ _ _ _ _ _ _ _ _ _ _)
      | (with_reducible exact ih2 _ _ _ _ _ _ _ _ _ _ _ _ _ _ _ _ _)
      | (with_reducible exact fold_Binary.mono _ _ _ _ _ _ _ _ _ _ _ _)
      | (with_reducible exact fold_Unary.mono _ _ _ _ _ _ _)
      | (with_reducible exact lorgnettelaw08_awake.mono _)
      | (with_reducible exact LeO.refl _)
      | (with_reducible exact LeO.none _)
      | (with_reducible refine LeO.ite ?_ ?_)
      | (with_reducible refine LeO.bind ?_ (fun _ => ?_))
      | exact ih0 _ _ _ _ _ _ _ _ _ _ _
      | exact ih1 _ _ _ _ _ _ _ _ _ _ _ _ _ _ _ _ _
      | exact ih2 _ _ _ _ _ _ _ _ _ _ _ _ _ _ _ _ _
      | exact fold_Binary.mono _ _ _ _ _ _ _ _ _ _ _ _
      | exact fold_Unary.mono _ _ _ _ _ _ _
      | exact lorgnettelaw08_awake.mono _
      | exact LeO.none _
      | refine LeO.ite ?_ ?_
      | refine LeO.bind ?_ (fun _ => ?_)
    · intro y0 y1 y2 y3 y4 y5 y6 y7 y8 y9 y10 y11 y12 y13 y14 y15 y16
      unfold lorgnettelaw08_FoldSums.j2
      repeat' first
      | (with_reducible exact ih0 _ _ _ _ _ _ _ _ _ _ _)
      | (with_reducible exact ih1 _ _ _ _ _ _ _ _ _ _ _ _ _ _ _ _ _)
      | (with_reducible exact ih2 _ _ _ _ _ _ _ _ _ _ _ _ _ _ _ _ _)
      | (with_reducible exact fold_Binary.mono _ _ _ _ _ _ _ _ _ _ _ _)
      | (with_reducible exact fold_Unary.mono _ _ _ _ _ _ _)
      | (with_reducible exact lorgnettelaw08_awake.mono _)
      | (with_reducible exact LeO.refl _)
      | (with_reducible exact LeO.none _)
      | (with_reducible refine LeO.ite ?_ ?_)
      | (with_reducible refine LeO.bind ?_ (fun _ => ?_))
      | exact ih0 _ _ _ _ _ _ _ _ _ _ _
      | exact ih1 _ _ _ _ _ _ _ _ _ _ _ _ _ _ _ _ _
      | exact ih2 _ _ _ _ _ _ _ _ _ _ _ _ _ _ _ _ _
      | exact fold_Binary.mono _ _ _ _ _ _ _ _ _ _ _ _
      | exact fold_Unary.mono _ _ _ _ _ _ _
      | exact lorgnettelaw08_awake.mono _
      | exact LeO.none _
      | refine LeO.ite ?_ ?_
      | refine LeO.bind ?_ (fun _ => ?_)
theorem lorgnettelaw08_FoldSums.mono : ∀ a0 a1 a2 a3 a4 a5 a6 a7 a8 a9 k, LeO (lorgnettelaw08_FoldSums.f k a0 a1 a2 a3 a4 a5 a6 a7 a8 a9) (lorgnettelaw08_FoldSums.f (k + 1) a0 a1 a2 a3 a4 a5 a6 a7 a8 a9) := by
  intro a0 a1 a2 a3 a4 a5 a6 a7 a8 a9 k
  obtain ⟨ih0, ih1, ih2⟩ := lorgnettelaw08_FoldSums.mono_l k
  unfold lorgnettelaw08_FoldSums.f
  repeat' first
      | (with_reducible exact ih0 _ _ _ _ _ _ _ _ _ _ _)
      | (with_reducible exact ih1 _ _ _ _ _ _ _ _ _ _ _ _ _ _ _ _ _)
      | (with_reducible exact ih2 _ _ _ _ _ _ _ _ _ _ _ _ _ _ _ _ _)
      | (with_reducible exact fold_Binary.mono _ _ _ _ _ _ _ _ _ _ _ _)
      | (with_reducible exact fold_Unary.mono _ _ _ _ _ _ _)
      | (with_reducible exact lorgnettelaw08_awake.mono _)
      | (with_reducible exact LeO.refl _)
      | (with_reducible exact LeO.none _)
      | (with_reducible refine LeO.ite ?_ ?_)
      | (with_reducible refine LeO.bind ?_ (fun _ => ?_))
      | exact ih0 _ _ _ _ _ _ _ _ _ _ _
      | exact ih1 _ _ _ _ _ _ _ _ _ _ _ _ _ _ _ _ _
      | exact ih2 _ _ _ _ _ _ _ _ _ _ _ _ _ _ _ _ _
      | exact fold_Binary.mono _ _ _ _ _ _ _ _ _ _ _ _
      | exact fold_Unary.mono _ _ _ _ _ _ _
      | exact lorgnettelaw08_awake.mono _
      | exact LeO.none _
      | refine LeO.ite ?_ ?_
      | refine LeO.bind ?_ (fun _ => ?_)
set_option maxHeartbeats 8000000 in
set_option maxRecDepth 100000 in
theorem lorgnettelaw08_FoldSums.calls (k : Nat) (a0_0 : Int) (a0_1 : Int) (a0_2 : Int) (a0_3 : Bool) (a0_4 : ByteArray) (a1_0 : Int) (a1_1 : Int) (a1_2 : Int) (a1_3 : Bool) (a1_4 : ByteArray) (r : Bool) (w : World) (h : lorgnettelaw08_FoldSums.f k a0_0 a0_1 a0_2 a0_3 a0_4 a1_0 a1_1 a1_2 a1_3 a1_4 = some r) :
    Calls Try.prog 7 #[.agg #[.int .i64 a0_0, .int .u64 a0_1, .int .u64 a0_2, .bool a0_3, .string a0_4], .agg #[.int .i64 a1_0, .int .u64 a1_1, .int .u64 a1_2, .bool a1_3, .string a1_4]] w fun e w' => e = .returned (.bool r) ∧ Below w.heap.size w w' := by
  have hu28 := Try.underlying28
  have hu26 := Try.underlying26
  have HB := Aside0.mk (Below.refl w.heap.size w)
  have H : ((lorgnettelaw08_awake.f k).bind fun t523 => (if t523 = true then (if (a0_4.size : Int) > 1024 then (lorgnettelaw08_FoldSums.j0 k true a0_0 a0_1 a0_2 a0_3 a0_4 a1_0 a1_1 a1_2 a1_3 a1_4) else (lorgnettelaw08_FoldSums.j0 k (decide ((a1_4.size : Int) > 1024)) a0_0 a0_1 a0_2 a0_3 a0_4 a1_0 a1_1 a1_2 a1_3 a1_4)) else (none))) = some r := h
  clear h
  replace H := Option.bind_eq_some_iff.mp H
  obtain ⟨t523, A30, H⟩ := H
  replace H : (if t523 = true then (if (a0_4.size : Int) > 1024 then (lorgnettelaw08_FoldSums.j0 k true a0_0 a0_1 a0_2 a0_3 a0_4 a1_0 a1_1 a1_2 a1_3 a1_4) else (lorgnettelaw08_FoldSums.j0 k (decide ((a1_4.size : Int) > 1024)) a0_0 a0_1 a0_2 a0_3 a0_4 a1_0 a1_1 a1_2 a1_3 a1_4)) else (none)) = some r := H
  have A3 := Aside0.mk A30
  clear A30
  by_cases c4 : t523 = true
  · subst c4
    have H1 : (if (a0_4.size : Int) > 1024 then (lorgnettelaw08_FoldSums.j0 k true a0_0 a0_1 a0_2 a0_3 a0_4 a1_0 a1_1 a1_2 a1_3 a1_4) else (lorgnettelaw08_FoldSums.j0 k (decide ((a1_4.size : Int) > 1024)) a0_0 a0_1 a0_2 a0_3 a0_4 a1_0 a1_1 a1_2 a1_3 a1_4)) = some r := by rw [if_pos rfl] at H; exact H
    clear H
    have H := H1
    clear H1
    have HC5 := Aside0.mk H
    clear H
    go_enter Try.func7, Try.ntmps7
    go_upto_region 3 with (first | ((with_reducible refine gate_dst (N := 2) rfl ?_); (try (refine gate_guard (by rfl) ?_; dsimp only)); refine box_event ?hg (N := 2) ?hd (cs := #[.int .i64 a0_0, .int .u64 a0_1, .int .u64 a0_2, .bool a0_3, .string a0_4]) (t := 28) ?hr ?_; (case hd => rfl); (case hg => rfl); (case hr => first | (go_simp; done) | (go_simp; rfl)); intro gb521 hg w6 hbox hb; have n0_ := Aside0.mk (below_step (bL HB) hb); have n1_ := Aside0.mk (hbox); have n2_ := Aside0.mk ((by rw [hg]; exact (below_size (bL HB)) : w.heap.size ≤ gb521)); have n3_ := Aside0.mk ((by rw [hg]; exact (below_size (bL HB)) : w.heap.size ≤ gb521)); clear HB; have HB := n0_; have BK521 := n1_; have GW521 := n2_; have GE521 := n3_; clear n0_ n1_ n2_ n3_; clear hb hbox hg) | ((with_reducible refine gate_dst (N := 3) rfl ?_); (try (refine gate_guard (by rfl) ?_; dsimp only)); refine box_event ?hg (N := 3) ?hd (cs := #[.int .i64 a1_0, .int .u64 a1_1, .int .u64 a1_2, .bool a1_3, .string a1_4]) (t := 28) ?hr ?_; (case hd => rfl); (case hg => rfl); (case hr => first | (go_simp; done) | (go_simp; rfl)); intro gb522 hg w7 hbox hb; have n0_ := blkB BK521 hb; have n1_ := Aside0.mk (below_step (bL HB) hb); have n2_ := Aside0.mk (hbox); have n3_ := Aside0.mk ((by rw [hg]; exact (below_size (bL HB)) : w.heap.size ≤ gb522)); have n4_ := Aside0.mk ((by rw [hg]; exact (below_size (bL HB)) : w.heap.size ≤ gb522)); have n5_ := blkL BK521 hg; have n6_ := blkG BK521 hg; clear BK521 HB; have BK521 := n0_; have HB := n1_; have BK522 := n2_; have GW522 := n3_; have GE522 := n4_; have NB521_522 := n5_; have NB522_521 := n6_; clear n0_ n1_ n2_ n3_ n4_ n5_ n6_; clear hb hbox hg) | ((with_reducible refine gate_callee (f := 8) rfl ?_); refine goesL_ (some 13) rfl rfl Try.func8 (by kernel_rfl) rfl #[] rfl (by (try simp only [List.map_toArray, List.map_cons, List.map_nil]); first | done | rfl | (simp only [List.length_drop, List.length_take]; rfl) | (go_simp; simp only [u8_w, w64_u8]; done) | (go_simp; simp only [u8_w, w64_u8]; rfl)) ?_; (with_reducible refine (lorgnettelaw08_awake.calls k  true _ A3.out).mono ?_); rintro e w8 ⟨rfl, hb⟩; refine ⟨_, rfl, ?_⟩; have n0_ := blkB BK521 hb; have n1_ := blkB BK522 hb; have n2_ := Aside0.mk (below_step (bL HB) hb); clear BK521 BK522 HB; have BK521 := n0_; have BK522 := n1_; have HB := n2_; clear n0_ n1_ n2_; (try clear hb); (try clear hb2); (try clear hk); (try clear hi)))
    (try simp only [Act.put, List.setIfInBounds_toArray, List.set_cons_zero, List.set_cons_succ])
    go_cut [24] (fun v24 wc => ∃ (kq : Nat) (x24_4 : Bool), v24 = .bool x24_4 ∧ Aside0 (lorgnettelaw08_FoldSums.j0 kq x24_4 a0_0 a0_1 a0_2 a0_3 a0_4 a1_0 a1_1 a1_2 a1_3 a1_4 = some r) ∧ Aside0 (kq ≤ k) ∧ Aside0 (wc.heap[gb521]? = some (.cells #[.int .i64 a0_0, .int .u64 a0_1, .int .u64 a0_2, .bool a0_3, .string a0_4] 28 (0, 0))) ∧ Aside0 (wc.heap[gb522]? = some (.cells #[.int .i64 a1_0, .int .u64 a1_1, .int .u64 a1_2, .bool a1_3, .string a1_4] 28 (0, 0))) ∧ Aside0 (Below w.heap.size w wc))
    case first =>
      have H := HC5.out
      clear HC5
      by_cases c9 : (a0_4.size : Int) > 1024
      · rw [if_pos c9] at H
        have c9b0 : decide (1024 < (a0_4.size : Int)) = true := decide_eq_true c9
        have c9b1 : decide (1024 < a0_4.size) = true := decide_eq_true (by omega)
        clear c9
        (first | rw [c9b0] | (simp only [i64_w, i32_w]; rw [c9b0]) | skip)
        have H' := Aside0.mk H
        clear H
        have hnb10 := NB521_522.out
        have hnc10 := NB522_521.out
        have hcz11_0 : w8.cell? ⟨gb521, 0, none⟩ = some (.int .i64 a0_0) := (blk_cell BK521.out 0).trans rfl
        have hcz11_1 : w8.cell? ⟨gb521, 1, none⟩ = some (.int .u64 a0_1) := (blk_cell BK521.out 1).trans rfl
        have hcz11_2 : w8.cell? ⟨gb521, 2, none⟩ = some (.int .u64 a0_2) := (blk_cell BK521.out 2).trans rfl
        have hcz11_3 : w8.cell? ⟨gb521, 3, none⟩ = some (.bool a0_3) := (blk_cell BK521.out 3).trans rfl
        have hcz11_4 : w8.cell? ⟨gb521, 4, none⟩ = some (.string a0_4) := (blk_cell BK521.out 4).trans rfl
        have hfz11_0 := blk_frozen BK521.out 0
        have hfz11_1 := blk_frozen BK521.out 1
        have hfz11_2 := blk_frozen BK521.out 2
        have hfz11_3 := blk_frozen BK521.out 3
        have hfz11_4 := blk_frozen BK521.out 4
        go_wp2
        go_meet
        case rel => exact ⟨_, (true), (by first | rfl | (simp; done) | (simp [*]; done)), H', ⟨by first | omega | exact Nat.le_refl _⟩, ⟨by (with_reducible repeat (first | refine blk_drewN ?_ _ | refine blk_drew ?_ | refine blk_alloc ?_ _)); exact BK521.out⟩, ⟨by (with_reducible repeat (first | refine blk_drewN ?_ _ | refine blk_drew ?_ | refine blk_alloc ?_ _)); exact BK522.out⟩, ⟨by repeat (first | (with_reducible first | exact HB.out | apply below_alloc | apply pw_below_drewN | apply below_drew1 | refine below_set ?_ GE521.out | refine below_set ?_ GE522.out) | exact HB.out)⟩⟩
      · rw [if_neg c9] at H
        have c9b0 : decide (1024 < (a0_4.size : Int)) = false := decide_eq_false c9
        have c9b1 : decide (1024 < a0_4.size) = false := decide_eq_false (by omega)
        clear c9
        (first | rw [c9b0] | (simp only [i64_w, i32_w]; rw [c9b0]) | skip)
        have H' := Aside0.mk H
        clear H
        have hnb12 := NB521_522.out
        have hnc12 := NB522_521.out
        have hcz13_0 : w8.cell? ⟨gb521, 0, none⟩ = some (.int .i64 a0_0) := (blk_cell BK521.out 0).trans rfl
        have hcz13_1 : w8.cell? ⟨gb521, 1, none⟩ = some (.int .u64 a0_1) := (blk_cell BK521.out 1).trans rfl
        have hcz13_2 : w8.cell? ⟨gb521, 2, none⟩ = some (.int .u64 a0_2) := (blk_cell BK521.out 2).trans rfl
        have hcz13_3 : w8.cell? ⟨gb521, 3, none⟩ = some (.bool a0_3) := (blk_cell BK521.out 3).trans rfl
        have hcz13_4 : w8.cell? ⟨gb521, 4, none⟩ = some (.string a0_4) := (blk_cell BK521.out 4).trans rfl
        have hfz13_0 := blk_frozen BK521.out 0
        have hfz13_1 := blk_frozen BK521.out 1
        have hfz13_2 := blk_frozen BK521.out 2
        have hfz13_3 := blk_frozen BK521.out 3
        have hfz13_4 := blk_frozen BK521.out 4
        have hcz14_0 : w8.cell? ⟨gb522, 0, none⟩ = some (.int .i64 a1_0) := (blk_cell BK522.out 0).trans rfl
        have hcz14_1 : w8.cell? ⟨gb522, 1, none⟩ = some (.int .u64 a1_1) := (blk_cell BK522.out 1).trans rfl
        have hcz14_2 : w8.cell? ⟨gb522, 2, none⟩ = some (.int .u64 a1_2) := (blk_cell BK522.out 2).trans rfl
        have hcz14_3 : w8.cell? ⟨gb522, 3, none⟩ = some (.bool a1_3) := (blk_cell BK522.out 3).trans rfl
        have hcz14_4 : w8.cell? ⟨gb522, 4, none⟩ = some (.string a1_4) := (blk_cell BK522.out 4).trans rfl
        have hfz14_0 := blk_frozen BK522.out 0
        have hfz14_1 := blk_frozen BK522.out 1
        have hfz14_2 := blk_frozen BK522.out 2
        have hfz14_3 := blk_frozen BK522.out 3
        have hfz14_4 := blk_frozen BK522.out 4
        go_wp2
        go_meet
        case rel => exact ⟨_, (decide ((a1_4.size : Int) > 1024)), (by first | rfl | (simp; done) | (simp [*]; done)), H', ⟨by first | omega | exact Nat.le_refl _⟩, ⟨by (with_reducible repeat (first | refine blk_drewN ?_ _ | refine blk_drew ?_ | refine blk_alloc ?_ _)); exact BK521.out⟩, ⟨by (with_reducible repeat (first | refine blk_drewN ?_ _ | refine blk_drew ?_ | refine blk_alloc ?_ _)); exact BK522.out⟩, ⟨by repeat (first | (with_reducible first | exact HB.out | apply below_alloc | apply pw_below_drewN | apply below_drew1 | refine below_set ?_ GE521.out | refine below_set ?_ GE522.out) | exact HB.out)⟩⟩
    case rest =>
      clear HC5
      try clear c1
      try clear p2
      try clear c4
      try clear c7
      try clear c8
      try clear c9
      try clear c9b0
      try clear c9b1
      try clear c10
      try clear c12
      try clear hcz11_0
      try clear hcz11_1
      try clear hcz11_2
      try clear hcz11_3
      try clear hcz11_4
      try clear hcz13_0
      try clear hcz13_1
      try clear hcz13_2
      try clear hcz13_3
      try clear hcz13_4
      try clear hcz14_0
      try clear hcz14_1
      try clear hcz14_2
      try clear hcz14_3
      try clear hcz14_4
      try clear hfz11_0
      try clear hfz11_1
      try clear hfz11_2
      try clear hfz11_3
      try clear hfz11_4
      try clear hfz13_0
      try clear hfz13_1
      try clear hfz13_2
      try clear hfz13_3
      try clear hfz13_4
      try clear hfz14_0
      try clear hfz14_1
      try clear hfz14_2
      try clear hfz14_3
      try clear hfz14_4
      obtain ⟨kq, x24_4, rfl, HA, HJ4, BK521, BK522, HB⟩ := hcut
      cases kq with
      | zero => exact absurd HA.out (by simp [lorgnettelaw08_FoldSums.j0])
      | succ kj4 =>
        have H := HA.out
        clear HA
        simp only [lorgnettelaw08_FoldSums.j0] at H
        by_cases c15 : x24_4 = true
        · subst c15
          have H1 : (some true) = some r := by rw [if_pos rfl] at H; exact H
          clear H
          have H := H1
          clear H1
          obtain rfl := Option.some.inj H
          go_wp2
          go_ret
          exact ⟨by first | rfl | (simp [errW_none, errW_some] <;> rfl) | (simp [*, errW_none, errW_some] <;> rfl), by repeat (first | (with_reducible first | exact HB.out | apply below_alloc | apply pw_below_drewN | apply below_drew1 | refine below_set ?_ GE521.out | refine below_set ?_ GE522.out) | exact HB.out)⟩
        · replace c15 := Bool.eq_false_iff.mpr c15
          subst c15
          have H1 : ((fold_Binary.f kj4 (⟨#[43]⟩ : ByteArray) a0_0 a0_1 a0_2 a0_3 a0_4 a1_0 a1_1 a1_2 a1_3 a1_4).bind fun bt524 => (if a0_0 = 3 then (lorgnettelaw08_FoldSums.j1 kj4 bt524.2.2.2.2.2 (a1_0 == 3) a0_0 a0_1 a0_2 a0_3 a0_4 a1_0 a1_1 a1_2 a1_3 a1_4 bt524.1 bt524.2.1 bt524.2.2.1 bt524.2.2.2.1 bt524.2.2.2.2.1) else (lorgnettelaw08_FoldSums.j1 kj4 bt524.2.2.2.2.2 false a0_0 a0_1 a0_2 a0_3 a0_4 a1_0 a1_1 a1_2 a1_3 a1_4 bt524.1 bt524.2.1 bt524.2.2.1 bt524.2.2.2.1 bt524.2.2.2.2.1))) = some r := by rw [if_neg (show ¬ (false = true) by decide)] at H; exact H
          clear H
          have H := H1
          clear H1
          replace H := Option.bind_eq_some_iff.mp H
          obtain ⟨⟨t524, t525, t526, t527, t528, t529⟩, A160, H⟩ := H
          replace H : (if a0_0 = 3 then (lorgnettelaw08_FoldSums.j1 kj4 t529 (a1_0 == 3) a0_0 a0_1 a0_2 a0_3 a0_4 a1_0 a1_1 a1_2 a1_3 a1_4 t524 t525 t526 t527 t528) else (lorgnettelaw08_FoldSums.j1 kj4 t529 false a0_0 a0_1 a0_2 a0_3 a0_4 a1_0 a1_1 a1_2 a1_3 a1_4 t524 t525 t526 t527 t528)) = some r := H
          have A16 := Aside0.mk A160
          clear A160
          have HC17 := Aside0.mk H
          clear H
          have hnb18 := NB521_522.out
          have hnc18 := NB522_521.out
          have hcz19_0 : wc.cell? ⟨gb521, 0, none⟩ = some (.int .i64 a0_0) := (blk_cell BK521.out 0).trans rfl
          have hcz19_1 : wc.cell? ⟨gb521, 1, none⟩ = some (.int .u64 a0_1) := (blk_cell BK521.out 1).trans rfl
          have hcz19_2 : wc.cell? ⟨gb521, 2, none⟩ = some (.int .u64 a0_2) := (blk_cell BK521.out 2).trans rfl
          have hcz19_3 : wc.cell? ⟨gb521, 3, none⟩ = some (.bool a0_3) := (blk_cell BK521.out 3).trans rfl
          have hcz19_4 : wc.cell? ⟨gb521, 4, none⟩ = some (.string a0_4) := (blk_cell BK521.out 4).trans rfl
          have hfz19_0 := blk_frozen BK521.out 0
          have hfz19_1 := blk_frozen BK521.out 1
          have hfz19_2 := blk_frozen BK521.out 2
          have hfz19_3 := blk_frozen BK521.out 3
          have hfz19_4 := blk_frozen BK521.out 4
          have hcz20_0 : wc.cell? ⟨gb522, 0, none⟩ = some (.int .i64 a1_0) := (blk_cell BK522.out 0).trans rfl
          have hcz20_1 : wc.cell? ⟨gb522, 1, none⟩ = some (.int .u64 a1_1) := (blk_cell BK522.out 1).trans rfl
          have hcz20_2 : wc.cell? ⟨gb522, 2, none⟩ = some (.int .u64 a1_2) := (blk_cell BK522.out 2).trans rfl
          have hcz20_3 : wc.cell? ⟨gb522, 3, none⟩ = some (.bool a1_3) := (blk_cell BK522.out 3).trans rfl
          have hcz20_4 : wc.cell? ⟨gb522, 4, none⟩ = some (.string a1_4) := (blk_cell BK522.out 4).trans rfl
          have hfz20_0 := blk_frozen BK522.out 0
          have hfz20_1 := blk_frozen BK522.out 1
          have hfz20_2 := blk_frozen BK522.out 2
          have hfz20_3 := blk_frozen BK522.out 3
          have hfz20_4 := blk_frozen BK522.out 4
          go_upto_region 6 with (first | ((with_reducible refine gate_callee (f := 9) rfl ?_); refine goesL_ (some 28) rfl rfl Try.func9 (by kernel_rfl) rfl #[.string (⟨#[43]⟩ : ByteArray), .agg #[.int .i64 a0_0, .int .u64 a0_1, .int .u64 a0_2, .bool a0_3, .string a0_4], .agg #[.int .i64 a1_0, .int .u64 a1_1, .int .u64 a1_2, .bool a1_3, .string a1_4]] rfl (by (try simp only [List.map_toArray, List.map_cons, List.map_nil]); first | done | rfl | (simp only [List.length_drop, List.length_take]; rfl) | (go_simp; simp only [u8_w, w64_u8]; done) | (go_simp; simp only [u8_w, w64_u8]; rfl)) ?_; (with_reducible refine (fold_Binary.calls kj4 (⟨#[43]⟩ : ByteArray) a0_0 a0_1 a0_2 a0_3 a0_4 a1_0 a1_1 a1_2 a1_3 a1_4 t524 t525 t526 t527 t528 t529 _ A16.out).mono ?_); rintro e w21 ⟨rfl, hb⟩; refine ⟨_, rfl, ?_⟩; have n0_ := blkB BK521 hb; have n1_ := blkB BK522 hb; have n2_ := Aside0.mk (below_step (bL HB) hb); clear BK521 BK522 HB; have BK521 := n0_; have BK522 := n1_; have HB := n2_; clear n0_ n1_ n2_; (try clear hb); (try clear hb2); (try clear hk); (try clear hi)) | ((with_reducible refine gate_dst (N := 5) rfl ?_); (try (refine gate_guard (by rfl) ?_; dsimp only)); refine box_event ?hg (N := 5) ?hd (cs := #[.int .i64 0, .int .u64 0, .int .u64 0, .bool false, .string (⟨#[]⟩ : ByteArray)]) (t := 28) ?hr ?_; (case hd => rfl); (case hg => rfl); (case hr => first | (go_simp; done) | (go_simp; rfl)); intro gb530 hg w22 hbox hb; have n0_ := blkB BK521 hb; have n1_ := blkB BK522 hb; have n2_ := Aside0.mk (below_step (bL HB) hb); have n3_ := Aside0.mk (hbox); have n4_ := Aside0.mk ((by rw [hg]; exact (below_size (bL HB)) : w.heap.size ≤ gb530)); have n5_ := Aside0.mk ((by rw [hg]; exact (below_size (bL HB)) : w.heap.size ≤ gb530)); have n6_ := blkL BK521 hg; have n7_ := blkG BK521 hg; have n8_ := blkL BK522 hg; have n9_ := blkG BK522 hg; clear BK521 BK522 HB; have BK521 := n0_; have BK522 := n1_; have HB := n2_; have BK530 := n3_; have GW530 := n4_; have GE530 := n5_; have NB521_530 := n6_; have NB530_521 := n7_; have NB522_530 := n8_; have NB530_522 := n9_; clear n0_ n1_ n2_ n3_ n4_ n5_ n6_ n7_ n8_ n9_; clear hb hbox hg; have hnb23 := NB530_521.out; have hnc23 := NB521_530.out; have hnb24 := NB530_522.out; have hnc24 := NB522_530.out; have hcz25_0 : w22.cell? ⟨gb530, 0, none⟩ = some (.int .i64 0) := (blk_cell BK530.out 0).trans rfl; have hcz25_1 : w22.cell? ⟨gb530, 1, none⟩ = some (.int .u64 0) := (blk_cell BK530.out 1).trans rfl; have hcz25_2 : w22.cell? ⟨gb530, 2, none⟩ = some (.int .u64 0) := (blk_cell BK530.out 2).trans rfl; have hcz25_3 : w22.cell? ⟨gb530, 3, none⟩ = some (.bool false) := (blk_cell BK530.out 3).trans rfl; have hcz25_4 : w22.cell? ⟨gb530, 4, none⟩ = some (.string (⟨#[]⟩ : ByteArray)) := (blk_cell BK530.out 4).trans rfl; have hfz25_0 := blk_frozen BK530.out 0; have hfz25_1 := blk_frozen BK530.out 1; have hfz25_2 := blk_frozen BK530.out 2; have hfz25_3 := blk_frozen BK530.out 3; have hfz25_4 := blk_frozen BK530.out 4))
          (try simp only [Act.put, List.setIfInBounds_toArray, List.set_cons_zero, List.set_cons_succ])
          go_cut [38] (fun v38 wc => ∃ (kq : Nat) (x38_16 : Bool), v38 = .bool x38_16 ∧ Aside0 (lorgnettelaw08_FoldSums.j1 kq t529 x38_16 a0_0 a0_1 a0_2 a0_3 a0_4 a1_0 a1_1 a1_2 a1_3 a1_4 t524 t525 t526 t527 t528 = some r) ∧ Aside0 (kq ≤ kj4) ∧ Aside0 (wc.heap[gb521]? = some (.cells #[.int .i64 a0_0, .int .u64 a0_1, .int .u64 a0_2, .bool a0_3, .string a0_4] 28 (0, 0))) ∧ Aside0 (wc.heap[gb522]? = some (.cells #[.int .i64 a1_0, .int .u64 a1_1, .int .u64 a1_2, .bool a1_3, .string a1_4] 28 (0, 0))) ∧ Aside0 (wc.heap[gb530]? = some (.cells #[.int .i64 t524, .int .u64 t525, .int .u64 t526, .bool t527, .string t528] 28 (0, 0))) ∧ Aside0 (Below w.heap.size w wc))
          case first =>
            have H := HC17.out
            clear HC17
            by_cases c26 : a0_0 = 3
            · rw [if_pos c26] at H
              have c26b0 : (a0_0 == 3) = true := beq_iff_eq.mpr c26
              have c26b1 : (a0_0 != 3) = false := bne_eq_false_iff_eq.mpr c26
              clear c26
              (first | rw [c26b0] | (simp only [i64_w, i32_w]; rw [c26b0]) | skip)
              have H' := Aside0.mk H
              clear H
              have hnb27 := NB521_522.out
              have hnc27 := NB522_521.out
              have hnb28 := NB521_530.out
              have hnc28 := NB530_521.out
              have hcz29_0 : w22.cell? ⟨gb521, 0, none⟩ = some (.int .i64 a0_0) := (blk_cell BK521.out 0).trans rfl
              have hcz29_1 : w22.cell? ⟨gb521, 1, none⟩ = some (.int .u64 a0_1) := (blk_cell BK521.out 1).trans rfl
              have hcz29_2 : w22.cell? ⟨gb521, 2, none⟩ = some (.int .u64 a0_2) := (blk_cell BK521.out 2).trans rfl
              have hcz29_3 : w22.cell? ⟨gb521, 3, none⟩ = some (.bool a0_3) := (blk_cell BK521.out 3).trans rfl
              have hcz29_4 : w22.cell? ⟨gb521, 4, none⟩ = some (.string a0_4) := (blk_cell BK521.out 4).trans rfl
              have hfz29_0 := blk_frozen BK521.out 0
              have hfz29_1 := blk_frozen BK521.out 1
              have hfz29_2 := blk_frozen BK521.out 2
              have hfz29_3 := blk_frozen BK521.out 3
              have hfz29_4 := blk_frozen BK521.out 4
              have hnb30 := NB522_530.out
              have hnc30 := NB530_522.out
              have hcz31_0 : w22.cell? ⟨gb522, 0, none⟩ = some (.int .i64 a1_0) := (blk_cell BK522.out 0).trans rfl
              have hcz31_1 : w22.cell? ⟨gb522, 1, none⟩ = some (.int .u64 a1_1) := (blk_cell BK522.out 1).trans rfl
              have hcz31_2 : w22.cell? ⟨gb522, 2, none⟩ = some (.int .u64 a1_2) := (blk_cell BK522.out 2).trans rfl
              have hcz31_3 : w22.cell? ⟨gb522, 3, none⟩ = some (.bool a1_3) := (blk_cell BK522.out 3).trans rfl
              have hcz31_4 : w22.cell? ⟨gb522, 4, none⟩ = some (.string a1_4) := (blk_cell BK522.out 4).trans rfl
              have hfz31_0 := blk_frozen BK522.out 0
              have hfz31_1 := blk_frozen BK522.out 1
              have hfz31_2 := blk_frozen BK522.out 2
              have hfz31_3 := blk_frozen BK522.out 3
              have hfz31_4 := blk_frozen BK522.out 4
              go_wp2
              go_meet
              case rel => exact ⟨_, ((a1_0 == 3)), (by first | rfl | (simp; done) | (simp [*]; done)), H', ⟨by have := HJ4.out; first | omega | exact Nat.le_refl _⟩, ⟨by (with_reducible repeat (first | refine blk_drewN ?_ _ | refine blk_drew ?_ | refine blk_alloc ?_ _)); refine blk_far ?_ NB521_530.out _; (with_reducible repeat (first | refine blk_drewN ?_ _ | refine blk_drew ?_ | refine blk_alloc ?_ _)); refine blk_far ?_ NB521_530.out _; (with_reducible repeat (first | refine blk_drewN ?_ _ | refine blk_drew ?_ | refine blk_alloc ?_ _)); refine blk_far ?_ NB521_530.out _; (with_reducible repeat (first | refine blk_drewN ?_ _ | refine blk_drew ?_ | refine blk_alloc ?_ _)); refine blk_far ?_ NB521_530.out _; (with_reducible repeat (first | refine blk_drewN ?_ _ | refine blk_drew ?_ | refine blk_alloc ?_ _)); refine blk_far ?_ NB521_530.out _; (with_reducible repeat (first | refine blk_drewN ?_ _ | refine blk_drew ?_ | refine blk_alloc ?_ _)); exact BK521.out⟩, ⟨by (with_reducible repeat (first | refine blk_drewN ?_ _ | refine blk_drew ?_ | refine blk_alloc ?_ _)); refine blk_far ?_ NB522_530.out _; (with_reducible repeat (first | refine blk_drewN ?_ _ | refine blk_drew ?_ | refine blk_alloc ?_ _)); refine blk_far ?_ NB522_530.out _; (with_reducible repeat (first | refine blk_drewN ?_ _ | refine blk_drew ?_ | refine blk_alloc ?_ _)); refine blk_far ?_ NB522_530.out _; (with_reducible repeat (first | refine blk_drewN ?_ _ | refine blk_drew ?_ | refine blk_alloc ?_ _)); refine blk_far ?_ NB522_530.out _; (with_reducible repeat (first | refine blk_drewN ?_ _ | refine blk_drew ?_ | refine blk_alloc ?_ _)); refine blk_far ?_ NB522_530.out _; (with_reducible repeat (first | refine blk_drewN ?_ _ | refine blk_drew ?_ | refine blk_alloc ?_ _)); exact BK522.out⟩, ⟨by (with_reducible repeat (first | refine blk_drewN ?_ _ | refine blk_drew ?_ | refine blk_alloc ?_ _)); refine blk_put (cs := #[.int .i64 t524, .int .u64 t525, .int .u64 t526, .bool t527, .string (⟨#[]⟩ : ByteArray)]) ?_ 4 _ rfl; (with_reducible repeat (first | refine blk_drewN ?_ _ | refine blk_drew ?_ | refine blk_alloc ?_ _)); refine blk_put (cs := #[.int .i64 t524, .int .u64 t525, .int .u64 t526, .bool false, .string (⟨#[]⟩ : ByteArray)]) ?_ 3 _ rfl; (with_reducible repeat (first | refine blk_drewN ?_ _ | refine blk_drew ?_ | refine blk_alloc ?_ _)); refine blk_put (cs := #[.int .i64 t524, .int .u64 t525, .int .u64 0, .bool false, .string (⟨#[]⟩ : ByteArray)]) ?_ 2 _ rfl; (with_reducible repeat (first | refine blk_drewN ?_ _ | refine blk_drew ?_ | refine blk_alloc ?_ _)); refine blk_put (cs := #[.int .i64 t524, .int .u64 0, .int .u64 0, .bool false, .string (⟨#[]⟩ : ByteArray)]) ?_ 1 _ rfl; (with_reducible repeat (first | refine blk_drewN ?_ _ | refine blk_drew ?_ | refine blk_alloc ?_ _)); refine blk_put (cs := #[.int .i64 0, .int .u64 0, .int .u64 0, .bool false, .string (⟨#[]⟩ : ByteArray)]) ?_ 0 _ rfl; (with_reducible repeat (first | refine blk_drewN ?_ _ | refine blk_drew ?_ | refine blk_alloc ?_ _)); exact BK530.out⟩, ⟨by repeat (first | (with_reducible first | exact HB.out | apply below_alloc | apply pw_below_drewN | apply below_drew1 | refine below_set ?_ GE521.out | refine below_set ?_ GE522.out | refine below_set ?_ GE530.out) | exact HB.out)⟩⟩
            · rw [if_neg c26] at H
              have c26b0 : (a0_0 == 3) = false := beq_eq_false_iff_ne.mpr c26
              have c26b1 : (a0_0 != 3) = true := bne_iff_ne.mpr c26
              (first | rw [c26b0] | (simp only [i64_w, i32_w]; rw [c26b0]) | skip)
              have H' := Aside0.mk H
              clear H
              have hnb32 := NB521_522.out
              have hnc32 := NB522_521.out
              have hnb33 := NB521_530.out
              have hnc33 := NB530_521.out
              have hcz34_0 : w22.cell? ⟨gb521, 0, none⟩ = some (.int .i64 a0_0) := (blk_cell BK521.out 0).trans rfl
              have hcz34_1 : w22.cell? ⟨gb521, 1, none⟩ = some (.int .u64 a0_1) := (blk_cell BK521.out 1).trans rfl
              have hcz34_2 : w22.cell? ⟨gb521, 2, none⟩ = some (.int .u64 a0_2) := (blk_cell BK521.out 2).trans rfl
              have hcz34_3 : w22.cell? ⟨gb521, 3, none⟩ = some (.bool a0_3) := (blk_cell BK521.out 3).trans rfl
              have hcz34_4 : w22.cell? ⟨gb521, 4, none⟩ = some (.string a0_4) := (blk_cell BK521.out 4).trans rfl
              have hfz34_0 := blk_frozen BK521.out 0
              have hfz34_1 := blk_frozen BK521.out 1
              have hfz34_2 := blk_frozen BK521.out 2
              have hfz34_3 := blk_frozen BK521.out 3
              have hfz34_4 := blk_frozen BK521.out 4
              go_wp2
              go_meet
              case rel => exact ⟨_, (false), (by first | rfl | (simp; done) | (simp [*]; done)), H', ⟨by have := HJ4.out; first | omega | exact Nat.le_refl _⟩, ⟨by (with_reducible repeat (first | refine blk_drewN ?_ _ | refine blk_drew ?_ | refine blk_alloc ?_ _)); refine blk_far ?_ NB521_530.out _; (with_reducible repeat (first | refine blk_drewN ?_ _ | refine blk_drew ?_ | refine blk_alloc ?_ _)); refine blk_far ?_ NB521_530.out _; (with_reducible repeat (first | refine blk_drewN ?_ _ | refine blk_drew ?_ | refine blk_alloc ?_ _)); refine blk_far ?_ NB521_530.out _; (with_reducible repeat (first | refine blk_drewN ?_ _ | refine blk_drew ?_ | refine blk_alloc ?_ _)); refine blk_far ?_ NB521_530.out _; (with_reducible repeat (first | refine blk_drewN ?_ _ | refine blk_drew ?_ | refine blk_alloc ?_ _)); refine blk_far ?_ NB521_530.out _; (with_reducible repeat (first | refine blk_drewN ?_ _ | refine blk_drew ?_ | refine blk_alloc ?_ _)); exact BK521.out⟩, ⟨by (with_reducible repeat (first | refine blk_drewN ?_ _ | refine blk_drew ?_ | refine blk_alloc ?_ _)); refine blk_far ?_ NB522_530.out _; (with_reducible repeat (first | refine blk_drewN ?_ _ | refine blk_drew ?_ | refine blk_alloc ?_ _)); refine blk_far ?_ NB522_530.out _; (with_reducible repeat (first | refine blk_drewN ?_ _ | refine blk_drew ?_ | refine blk_alloc ?_ _)); refine blk_far ?_ NB522_530.out _; (with_reducible repeat (first | refine blk_drewN ?_ _ | refine blk_drew ?_ | refine blk_alloc ?_ _)); refine blk_far ?_ NB522_530.out _; (with_reducible repeat (first | refine blk_drewN ?_ _ | refine blk_drew ?_ | refine blk_alloc ?_ _)); refine blk_far ?_ NB522_530.out _; (with_reducible repeat (first | refine blk_drewN ?_ _ | refine blk_drew ?_ | refine blk_alloc ?_ _)); exact BK522.out⟩, ⟨by (with_reducible repeat (first | refine blk_drewN ?_ _ | refine blk_drew ?_ | refine blk_alloc ?_ _)); refine blk_put (cs := #[.int .i64 t524, .int .u64 t525, .int .u64 t526, .bool t527, .string (⟨#[]⟩ : ByteArray)]) ?_ 4 _ rfl; (with_reducible repeat (first | refine blk_drewN ?_ _ | refine blk_drew ?_ | refine blk_alloc ?_ _)); refine blk_put (cs := #[.int .i64 t524, .int .u64 t525, .int .u64 t526, .bool false, .string (⟨#[]⟩ : ByteArray)]) ?_ 3 _ rfl; (with_reducible repeat (first | refine blk_drewN ?_ _ | refine blk_drew ?_ | refine blk_alloc ?_ _)); refine blk_put (cs := #[.int .i64 t524, .int .u64 t525, .int .u64 0, .bool false, .string (⟨#[]⟩ : ByteArray)]) ?_ 2 _ rfl; (with_reducible repeat (first | refine blk_drewN ?_ _ | refine blk_drew ?_ | refine blk_alloc ?_ _)); refine blk_put (cs := #[.int .i64 t524, .int .u64 0, .int .u64 0, .bool false, .string (⟨#[]⟩ : ByteArray)]) ?_ 1 _ rfl; (with_reducible repeat (first | refine blk_drewN ?_ _ | refine blk_drew ?_ | refine blk_alloc ?_ _)); refine blk_put (cs := #[.int .i64 0, .int .u64 0, .int .u64 0, .bool false, .string (⟨#[]⟩ : ByteArray)]) ?_ 0 _ rfl; (with_reducible repeat (first | refine blk_drewN ?_ _ | refine blk_drew ?_ | refine blk_alloc ?_ _)); exact BK530.out⟩, ⟨by repeat (first | (with_reducible first | exact HB.out | apply below_alloc | apply pw_below_drewN | apply below_drew1 | refine below_set ?_ GE521.out | refine below_set ?_ GE522.out | refine below_set ?_ GE530.out) | exact HB.out)⟩⟩
          case rest =>
            clear HC17
            try clear c1
            try clear c2
            try clear p2
            try clear c3
            try clear c4
            try clear c7
            try clear c8
            try clear c9
            try clear c9b0
            try clear c9b1
            try clear c10
            try clear c12
            try clear c15
            try clear c18
            try clear c23
            try clear c24
            try clear c26
            try clear c26b0
            try clear c26b1
            try clear c27
            try clear c28
            try clear c30
            try clear c32
            try clear c33
            try clear hcz11_0
            try clear hcz11_1
            try clear hcz11_2
            try clear hcz11_3
            try clear hcz11_4
            try clear hcz13_0
            try clear hcz13_1
            try clear hcz13_2
            try clear hcz13_3
            try clear hcz13_4
            try clear hcz14_0
            try clear hcz14_1
            try clear hcz14_2
            try clear hcz14_3
            try clear hcz14_4
            try clear hcz19_0
            try clear hcz19_1
            try clear hcz19_2
            try clear hcz19_3
            try clear hcz19_4
            try clear hcz20_0
            try clear hcz20_1
            try clear hcz20_2
            try clear hcz20_3
            try clear hcz20_4
            try clear hcz25_0
            try clear hcz25_1
            try clear hcz25_2
            try clear hcz25_3
            try clear hcz25_4
            try clear hcz29_0
            try clear hcz29_1
            try clear hcz29_2
            try clear hcz29_3
            try clear hcz29_4
            try clear hcz31_0
            try clear hcz31_1
            try clear hcz31_2
            try clear hcz31_3
            try clear hcz31_4
            try clear hcz34_0
            try clear hcz34_1
            try clear hcz34_2
            try clear hcz34_3
            try clear hcz34_4
            try clear hfz11_0
            try clear hfz11_1
            try clear hfz11_2
            try clear hfz11_3
            try clear hfz11_4
            try clear hfz13_0
            try clear hfz13_1
            try clear hfz13_2
            try clear hfz13_3
            try clear hfz13_4
            try clear hfz14_0
            try clear hfz14_1
            try clear hfz14_2
            try clear hfz14_3
            try clear hfz14_4
            try clear hfz19_0
            try clear hfz19_1
            try clear hfz19_2
            try clear hfz19_3
            try clear hfz19_4
            try clear hfz20_0
            try clear hfz20_1
            try clear hfz20_2
            try clear hfz20_3
            try clear hfz20_4
            try clear hfz25_0
            try clear hfz25_1
            try clear hfz25_2
            try clear hfz25_3
            try clear hfz25_4
            try clear hfz29_0
            try clear hfz29_1
            try clear hfz29_2
            try clear hfz29_3
            try clear hfz29_4
            try clear hfz31_0
            try clear hfz31_1
            try clear hfz31_2
            try clear hfz31_3
            try clear hfz31_4
            try clear hfz34_0
            try clear hfz34_1
            try clear hfz34_2
            try clear hfz34_3
            try clear hfz34_4
            try clear p2
            obtain ⟨kq, x38_16, rfl, HA, HJ16, BK521, BK522, BK530, HB⟩ := hcut
            cases kq with
            | zero => exact absurd HA.out (by simp [lorgnettelaw08_FoldSums.j1])
            | succ kj16 =>
              have H := HA.out
              clear HA
              simp only [lorgnettelaw08_FoldSums.j1] at H
              by_cases c35 : x38_16 = true
              · subst c35
                have H1 : (if t529 = 0 then (if t524 = 3 then (if a0_4.size + a1_4.size ≤ 9223372036854775807 then (some (t528.toList == (a0_4 ++ a1_4).toList)) else (none)) else (none)) else (none)) = some r := by rw [if_pos rfl] at H; exact H
                clear H
                have H := H1
                clear H1
                by_cases c36 : t529 = 0
                · rw [if_pos c36] at H
                  have c36b0 : (t529 == 0) = true := beq_iff_eq.mpr c36
                  have c36b1 : (t529 != 0) = false := bne_eq_false_iff_eq.mpr c36
                  clear c36
                  by_cases c37 : t524 = 3
                  · rw [if_pos c37] at H
                    have c37b0 : (t524 == 3) = true := beq_iff_eq.mpr c37
                    have c37b1 : (t524 != 3) = false := bne_eq_false_iff_eq.mpr c37
                    clear c37
                    by_cases c38 : a0_4.size + a1_4.size ≤ 9223372036854775807
                    · rw [if_pos c38] at H
                      have c38b0 := eq_true c38
                      have c38b1 : decide (a0_4.size + a1_4.size ≤ 9223372036854775807) = true := decide_eq_true c38
                      try have c38b2 : (9223372036854775807 < a0_4.size + a1_4.size) = False := eq_false (Nat.not_lt.2 c38)
                      obtain rfl := Option.some.inj H
                      have hnb39 := NB530_521.out
                      have hnc39 := NB521_530.out
                      have hnb40 := NB530_522.out
                      have hnc40 := NB522_530.out
                      have hcz41_0 : wc.cell? ⟨gb530, 0, none⟩ = some (.int .i64 t524) := (blk_cell BK530.out 0).trans rfl
                      have hcz41_1 : wc.cell? ⟨gb530, 1, none⟩ = some (.int .u64 t525) := (blk_cell BK530.out 1).trans rfl
                      have hcz41_2 : wc.cell? ⟨gb530, 2, none⟩ = some (.int .u64 t526) := (blk_cell BK530.out 2).trans rfl
                      have hcz41_3 : wc.cell? ⟨gb530, 3, none⟩ = some (.bool t527) := (blk_cell BK530.out 3).trans rfl
                      have hcz41_4 : wc.cell? ⟨gb530, 4, none⟩ = some (.string t528) := (blk_cell BK530.out 4).trans rfl
                      have hfz41_0 := blk_frozen BK530.out 0
                      have hfz41_1 := blk_frozen BK530.out 1
                      have hfz41_2 := blk_frozen BK530.out 2
                      have hfz41_3 := blk_frozen BK530.out 3
                      have hfz41_4 := blk_frozen BK530.out 4
                      have hnb42 := NB521_522.out
                      have hnc42 := NB522_521.out
                      have hcz43_0 : wc.cell? ⟨gb521, 0, none⟩ = some (.int .i64 a0_0) := (blk_cell BK521.out 0).trans rfl
                      have hcz43_1 : wc.cell? ⟨gb521, 1, none⟩ = some (.int .u64 a0_1) := (blk_cell BK521.out 1).trans rfl
                      have hcz43_2 : wc.cell? ⟨gb521, 2, none⟩ = some (.int .u64 a0_2) := (blk_cell BK521.out 2).trans rfl
                      have hcz43_3 : wc.cell? ⟨gb521, 3, none⟩ = some (.bool a0_3) := (blk_cell BK521.out 3).trans rfl
                      have hcz43_4 : wc.cell? ⟨gb521, 4, none⟩ = some (.string a0_4) := (blk_cell BK521.out 4).trans rfl
                      have hfz43_0 := blk_frozen BK521.out 0
                      have hfz43_1 := blk_frozen BK521.out 1
                      have hfz43_2 := blk_frozen BK521.out 2
                      have hfz43_3 := blk_frozen BK521.out 3
                      have hfz43_4 := blk_frozen BK521.out 4
                      have hcz44_0 : wc.cell? ⟨gb522, 0, none⟩ = some (.int .i64 a1_0) := (blk_cell BK522.out 0).trans rfl
                      have hcz44_1 : wc.cell? ⟨gb522, 1, none⟩ = some (.int .u64 a1_1) := (blk_cell BK522.out 1).trans rfl
                      have hcz44_2 : wc.cell? ⟨gb522, 2, none⟩ = some (.int .u64 a1_2) := (blk_cell BK522.out 2).trans rfl
                      have hcz44_3 : wc.cell? ⟨gb522, 3, none⟩ = some (.bool a1_3) := (blk_cell BK522.out 3).trans rfl
                      have hcz44_4 : wc.cell? ⟨gb522, 4, none⟩ = some (.string a1_4) := (blk_cell BK522.out 4).trans rfl
                      have hfz44_0 := blk_frozen BK522.out 0
                      have hfz44_1 := blk_frozen BK522.out 1
                      have hfz44_2 := blk_frozen BK522.out 2
                      have hfz44_3 := blk_frozen BK522.out 3
                      have hfz44_4 := blk_frozen BK522.out 4
                      go_wp2
                      go_ret
                      exact ⟨by first | rfl | (simp [errW_none, errW_some] <;> rfl) | (simp [*, errW_none, errW_some] <;> rfl), by repeat (first | (with_reducible first | exact HB.out | apply below_alloc | apply pw_below_drewN | apply below_drew1 | refine below_set ?_ GE521.out | refine below_set ?_ GE522.out | refine below_set ?_ GE530.out) | exact HB.out)⟩
                    · rw [if_neg c38] at H
                      exact absurd H (by simp)
                  · rw [if_neg c37] at H
                    exact absurd H (by simp)
                · rw [if_neg c36] at H
                  exact absurd H (by simp)
              · replace c35 := Bool.eq_false_iff.mpr c35
                subst c35
                have H1 : (if a0_0 = 1 then (lorgnettelaw08_FoldSums.j2 kj16 t529 (a1_0 != 1) a0_0 a0_1 a0_2 a0_3 a0_4 a1_0 a1_1 a1_2 a1_3 a1_4 t524 t525 t526 t527 t528) else (lorgnettelaw08_FoldSums.j2 kj16 t529 true a0_0 a0_1 a0_2 a0_3 a0_4 a1_0 a1_1 a1_2 a1_3 a1_4 t524 t525 t526 t527 t528)) = some r := by rw [if_neg (show ¬ (false = true) by decide)] at H; exact H
                clear H
                have H := H1
                clear H1
                have HC45 := Aside0.mk H
                clear H
                go_upto_region 8 with (fail)
                go_cut [63] (fun v63 wc => ∃ (kq : Nat) (x63_44 : Bool), v63 = .bool x63_44 ∧ Aside0 (lorgnettelaw08_FoldSums.j2 kq t529 x63_44 a0_0 a0_1 a0_2 a0_3 a0_4 a1_0 a1_1 a1_2 a1_3 a1_4 t524 t525 t526 t527 t528 = some r) ∧ Aside0 (kq ≤ kj16) ∧ Aside0 (wc.heap[gb521]? = some (.cells #[.int .i64 a0_0, .int .u64 a0_1, .int .u64 a0_2, .bool a0_3, .string a0_4] 28 (0, 0))) ∧ Aside0 (wc.heap[gb522]? = some (.cells #[.int .i64 a1_0, .int .u64 a1_1, .int .u64 a1_2, .bool a1_3, .string a1_4] 28 (0, 0))) ∧ Aside0 (wc.heap[gb530]? = some (.cells #[.int .i64 t524, .int .u64 t525, .int .u64 t526, .bool t527, .string t528] 28 (0, 0))) ∧ Aside0 (Below w.heap.size w wc))
                case first =>
                  have H := HC45.out
                  clear HC45
                  by_cases c46 : a0_0 = 1
                  · rw [if_pos c46] at H
                    have c46b0 : (a0_0 == 1) = true := beq_iff_eq.mpr c46
                    have c46b1 : (a0_0 != 1) = false := bne_eq_false_iff_eq.mpr c46
                    clear c46
                    (first | rw [c46b0] | (simp only [i64_w, i32_w]; rw [c46b0]) | skip)
                    have H' := Aside0.mk H
                    clear H
                    have hnb47 := NB521_522.out
                    have hnc47 := NB522_521.out
                    have hnb48 := NB521_530.out
                    have hnc48 := NB530_521.out
                    have hcz49_0 : wc.cell? ⟨gb521, 0, none⟩ = some (.int .i64 a0_0) := (blk_cell BK521.out 0).trans rfl
                    have hcz49_1 : wc.cell? ⟨gb521, 1, none⟩ = some (.int .u64 a0_1) := (blk_cell BK521.out 1).trans rfl
                    have hcz49_2 : wc.cell? ⟨gb521, 2, none⟩ = some (.int .u64 a0_2) := (blk_cell BK521.out 2).trans rfl
                    have hcz49_3 : wc.cell? ⟨gb521, 3, none⟩ = some (.bool a0_3) := (blk_cell BK521.out 3).trans rfl
                    have hcz49_4 : wc.cell? ⟨gb521, 4, none⟩ = some (.string a0_4) := (blk_cell BK521.out 4).trans rfl
                    have hfz49_0 := blk_frozen BK521.out 0
                    have hfz49_1 := blk_frozen BK521.out 1
                    have hfz49_2 := blk_frozen BK521.out 2
                    have hfz49_3 := blk_frozen BK521.out 3
                    have hfz49_4 := blk_frozen BK521.out 4
                    have hnb50 := NB522_530.out
                    have hnc50 := NB530_522.out
                    have hcz51_0 : wc.cell? ⟨gb522, 0, none⟩ = some (.int .i64 a1_0) := (blk_cell BK522.out 0).trans rfl
                    have hcz51_1 : wc.cell? ⟨gb522, 1, none⟩ = some (.int .u64 a1_1) := (blk_cell BK522.out 1).trans rfl
                    have hcz51_2 : wc.cell? ⟨gb522, 2, none⟩ = some (.int .u64 a1_2) := (blk_cell BK522.out 2).trans rfl
                    have hcz51_3 : wc.cell? ⟨gb522, 3, none⟩ = some (.bool a1_3) := (blk_cell BK522.out 3).trans rfl
                    have hcz51_4 : wc.cell? ⟨gb522, 4, none⟩ = some (.string a1_4) := (blk_cell BK522.out 4).trans rfl
                    have hfz51_0 := blk_frozen BK522.out 0
                    have hfz51_1 := blk_frozen BK522.out 1
                    have hfz51_2 := blk_frozen BK522.out 2
                    have hfz51_3 := blk_frozen BK522.out 3
                    have hfz51_4 := blk_frozen BK522.out 4
                    go_wp2
                    go_meet
                    case rel => exact ⟨_, ((a1_0 != 1)), (by first | rfl | (simp; done) | (simp [*]; done)), H', ⟨by have := HJ4.out; have := HJ16.out; first | omega | exact Nat.le_refl _⟩, ⟨by (with_reducible repeat (first | refine blk_drewN ?_ _ | refine blk_drew ?_ | refine blk_alloc ?_ _)); exact BK521.out⟩, ⟨by (with_reducible repeat (first | refine blk_drewN ?_ _ | refine blk_drew ?_ | refine blk_alloc ?_ _)); exact BK522.out⟩, ⟨by (with_reducible repeat (first | refine blk_drewN ?_ _ | refine blk_drew ?_ | refine blk_alloc ?_ _)); exact BK530.out⟩, ⟨by repeat (first | (with_reducible first | exact HB.out | apply below_alloc | apply pw_below_drewN | apply below_drew1 | refine below_set ?_ GE521.out | refine below_set ?_ GE522.out | refine below_set ?_ GE530.out) | exact HB.out)⟩⟩
                  · rw [if_neg c46] at H
                    have c46b0 : (a0_0 == 1) = false := beq_eq_false_iff_ne.mpr c46
                    have c46b1 : (a0_0 != 1) = true := bne_iff_ne.mpr c46
                    (first | rw [c46b0] | (simp only [i64_w, i32_w]; rw [c46b0]) | skip)
                    have H' := Aside0.mk H
                    clear H
                    have hnb52 := NB521_522.out
                    have hnc52 := NB522_521.out
                    have hnb53 := NB521_530.out
                    have hnc53 := NB530_521.out
                    have hcz54_0 : wc.cell? ⟨gb521, 0, none⟩ = some (.int .i64 a0_0) := (blk_cell BK521.out 0).trans rfl
                    have hcz54_1 : wc.cell? ⟨gb521, 1, none⟩ = some (.int .u64 a0_1) := (blk_cell BK521.out 1).trans rfl
                    have hcz54_2 : wc.cell? ⟨gb521, 2, none⟩ = some (.int .u64 a0_2) := (blk_cell BK521.out 2).trans rfl
                    have hcz54_3 : wc.cell? ⟨gb521, 3, none⟩ = some (.bool a0_3) := (blk_cell BK521.out 3).trans rfl
                    have hcz54_4 : wc.cell? ⟨gb521, 4, none⟩ = some (.string a0_4) := (blk_cell BK521.out 4).trans rfl
                    have hfz54_0 := blk_frozen BK521.out 0
                    have hfz54_1 := blk_frozen BK521.out 1
                    have hfz54_2 := blk_frozen BK521.out 2
                    have hfz54_3 := blk_frozen BK521.out 3
                    have hfz54_4 := blk_frozen BK521.out 4
                    go_wp2
                    go_meet
                    case rel => exact ⟨_, (true), (by first | rfl | (simp; done) | (simp [*]; done)), H', ⟨by have := HJ4.out; have := HJ16.out; first | omega | exact Nat.le_refl _⟩, ⟨by (with_reducible repeat (first | refine blk_drewN ?_ _ | refine blk_drew ?_ | refine blk_alloc ?_ _)); exact BK521.out⟩, ⟨by (with_reducible repeat (first | refine blk_drewN ?_ _ | refine blk_drew ?_ | refine blk_alloc ?_ _)); exact BK522.out⟩, ⟨by (with_reducible repeat (first | refine blk_drewN ?_ _ | refine blk_drew ?_ | refine blk_alloc ?_ _)); exact BK530.out⟩, ⟨by repeat (first | (with_reducible first | exact HB.out | apply below_alloc | apply pw_below_drewN | apply below_drew1 | refine below_set ?_ GE521.out | refine below_set ?_ GE522.out | refine below_set ?_ GE530.out) | exact HB.out)⟩⟩
                case rest =>
                  clear HC45
                  try clear c1
                  try clear c2
                  try clear p2
                  try clear c3
                  try clear c4
                  try clear c5
                  try clear c7
                  try clear c8
                  try clear c9
                  try clear c9b0
                  try clear c9b1
                  try clear c10
                  try clear c12
                  try clear c15
                  try clear c18
                  try clear c23
                  try clear c24
                  try clear c26
                  try clear c26b0
                  try clear c26b1
                  try clear c27
                  try clear c28
                  try clear c30
                  try clear c32
                  try clear c33
                  try clear c35
                  try clear c36
                  try clear c36b0
                  try clear c36b1
                  try clear c37
                  try clear c37b0
                  try clear c37b1
                  try clear c38
                  try clear c38b0
                  try clear c38b1
                  try clear c38b2
                  try clear c39
                  try clear c40
                  try clear c42
                  try clear c46
                  try clear c46b0
                  try clear c46b1
                  try clear c47
                  try clear c48
                  try clear c50
                  try clear c52
                  try clear c53
                  try clear hcz11_0
                  try clear hcz11_1
                  try clear hcz11_2
                  try clear hcz11_3
                  try clear hcz11_4
                  try clear hcz13_0
                  try clear hcz13_1
                  try clear hcz13_2
                  try clear hcz13_3
                  try clear hcz13_4
                  try clear hcz14_0
                  try clear hcz14_1
                  try clear hcz14_2
                  try clear hcz14_3
                  try clear hcz14_4
                  try clear hcz19_0
                  try clear hcz19_1
                  try clear hcz19_2
                  try clear hcz19_3
                  try clear hcz19_4
                  try clear hcz20_0
                  try clear hcz20_1
                  try clear hcz20_2
                  try clear hcz20_3
                  try clear hcz20_4
                  try clear hcz25_0
                  try clear hcz25_1
                  try clear hcz25_2
                  try clear hcz25_3
                  try clear hcz25_4
                  try clear hcz29_0
                  try clear hcz29_1
                  try clear hcz29_2
                  try clear hcz29_3
                  try clear hcz29_4
                  try clear hcz31_0
                  try clear hcz31_1
                  try clear hcz31_2
                  try clear hcz31_3
                  try clear hcz31_4
                  try clear hcz34_0
                  try clear hcz34_1
                  try clear hcz34_2
                  try clear hcz34_3
                  try clear hcz34_4
                  try clear hcz41_0
                  try clear hcz41_1
                  try clear hcz41_2
                  try clear hcz41_3
                  try clear hcz41_4
                  try clear hcz43_0
                  try clear hcz43_1
                  try clear hcz43_2
                  try clear hcz43_3
                  try clear hcz43_4
                  try clear hcz44_0
                  try clear hcz44_1
                  try clear hcz44_2
                  try clear hcz44_3
                  try clear hcz44_4
                  try clear hcz49_0
                  try clear hcz49_1
                  try clear hcz49_2
                  try clear hcz49_3
                  try clear hcz49_4
                  try clear hcz51_0
                  try clear hcz51_1
                  try clear hcz51_2
                  try clear hcz51_3
                  try clear hcz51_4
                  try clear hcz54_0
                  try clear hcz54_1
                  try clear hcz54_2
                  try clear hcz54_3
                  try clear hcz54_4
                  try clear hfz11_0
                  try clear hfz11_1
                  try clear hfz11_2
                  try clear hfz11_3
                  try clear hfz11_4
                  try clear hfz13_0
                  try clear hfz13_1
                  try clear hfz13_2
                  try clear hfz13_3
                  try clear hfz13_4
                  try clear hfz14_0
                  try clear hfz14_1
                  try clear hfz14_2
                  try clear hfz14_3
                  try clear hfz14_4
                  try clear hfz19_0
                  try clear hfz19_1
                  try clear hfz19_2
                  try clear hfz19_3
                  try clear hfz19_4
                  try clear hfz20_0
                  try clear hfz20_1
                  try clear hfz20_2
                  try clear hfz20_3
                  try clear hfz20_4
                  try clear hfz25_0
                  try clear hfz25_1
                  try clear hfz25_2
                  try clear hfz25_3
                  try clear hfz25_4
                  try clear hfz29_0
                  try clear hfz29_1
                  try clear hfz29_2
                  try clear hfz29_3
                  try clear hfz29_4
                  try clear hfz31_0
                  try clear hfz31_1
                  try clear hfz31_2
                  try clear hfz31_3
                  try clear hfz31_4
                  try clear hfz34_0
                  try clear hfz34_1
                  try clear hfz34_2
                  try clear hfz34_3
                  try clear hfz34_4
                  try clear hfz41_0
                  try clear hfz41_1
                  try clear hfz41_2
                  try clear hfz41_3
                  try clear hfz41_4
                  try clear hfz43_0
                  try clear hfz43_1
                  try clear hfz43_2
                  try clear hfz43_3
                  try clear hfz43_4
                  try clear hfz44_0
                  try clear hfz44_1
                  try clear hfz44_2
                  try clear hfz44_3
                  try clear hfz44_4
                  try clear hfz49_0
                  try clear hfz49_1
                  try clear hfz49_2
                  try clear hfz49_3
                  try clear hfz49_4
                  try clear hfz51_0
                  try clear hfz51_1
                  try clear hfz51_2
                  try clear hfz51_3
                  try clear hfz51_4
                  try clear hfz54_0
                  try clear hfz54_1
                  try clear hfz54_2
                  try clear hfz54_3
                  try clear hfz54_4
                  try clear p2
                  obtain ⟨kq, x63_44, rfl, HA, HJ44, BK521, BK522, BK530, HB⟩ := hcut
                  cases kq with
                  | zero => exact absurd HA.out (by simp [lorgnettelaw08_FoldSums.j2])
                  | succ kj44 =>
                    have H := HA.out
                    clear HA
                    simp only [lorgnettelaw08_FoldSums.j2] at H
                    by_cases c55 : x63_44 = true
                    · subst c55
                      have H1 : (if t529 = 9 then (some (t524 == 0 && ((t525 == 0 && (t526 == 0)) && (!t527 && (t528.toList == ([] : List UInt8)))))) else (none)) = some r := by rw [if_pos rfl] at H; exact H
                      clear H
                      have H := H1
                      clear H1
                      by_cases c56 : t529 = 9
                      · rw [if_pos c56] at H
                        have c56b0 : (t529 == 9) = true := beq_iff_eq.mpr c56
                        have c56b1 : (t529 != 9) = false := bne_eq_false_iff_eq.mpr c56
                        clear c56
                        obtain rfl := Option.some.inj H
                        have hnb57 := NB530_521.out
                        have hnc57 := NB521_530.out
                        have hnb58 := NB530_522.out
                        have hnc58 := NB522_530.out
                        have hcz59_0 : wc.cell? ⟨gb530, 0, none⟩ = some (.int .i64 t524) := (blk_cell BK530.out 0).trans rfl
                        have hcz59_1 : wc.cell? ⟨gb530, 1, none⟩ = some (.int .u64 t525) := (blk_cell BK530.out 1).trans rfl
                        have hcz59_2 : wc.cell? ⟨gb530, 2, none⟩ = some (.int .u64 t526) := (blk_cell BK530.out 2).trans rfl
                        have hcz59_3 : wc.cell? ⟨gb530, 3, none⟩ = some (.bool t527) := (blk_cell BK530.out 3).trans rfl
                        have hcz59_4 : wc.cell? ⟨gb530, 4, none⟩ = some (.string t528) := (blk_cell BK530.out 4).trans rfl
                        have hfz59_0 := blk_frozen BK530.out 0
                        have hfz59_1 := blk_frozen BK530.out 1
                        have hfz59_2 := blk_frozen BK530.out 2
                        have hfz59_3 := blk_frozen BK530.out 3
                        have hfz59_4 := blk_frozen BK530.out 4
                        go_wp2
                        go_ret
                        exact ⟨by first | rfl | (simp [errW_none, errW_some] <;> rfl) | (simp [*, errW_none, errW_some] <;> rfl), by repeat (first | (with_reducible first | exact HB.out | apply below_alloc | apply pw_below_drewN | apply below_drew1 | refine below_set ?_ GE521.out | refine below_set ?_ GE522.out | refine below_set ?_ GE530.out) | exact HB.out)⟩
                      · rw [if_neg c56] at H
                        exact absurd H (by simp)
                    · replace c55 := Bool.eq_false_iff.mpr c55
                      subst c55
                      have H1 : (if t529 = 0 then ((fold_Binary.f kj44 (⟨#[45]⟩ : ByteArray) t524 t525 t526 t527 t528 a1_0 a1_1 a1_2 a1_3 a1_4).bind fun bt531 => (if bt531.2.2.2.2.2 = 0 then (if (!(bt531.2.1 == a0_1) || (!(bt531.2.2.1 == a0_2))) = true then (none) else ((fold_Unary.f kj44 (⟨#[45]⟩ : ByteArray) a0_0 a0_1 a0_2 a0_3 a0_4).bind fun bt538 => ((fold_Unary.f kj44 (⟨#[45]⟩ : ByteArray) bt538.1 bt538.2.1 bt538.2.2.1 bt538.2.2.2.1 bt538.2.2.2.2.1).bind fun bt545 => (if bt538.2.2.2.2.2 = 0 then (if bt545.2.2.2.2.2 = 0 then (some (bt545.2.1 == a0_1 && (bt545.2.2.1 == a0_2))) else (none)) else (some true))))) else (none))) else ((fold_Unary.f kj44 (⟨#[45]⟩ : ByteArray) a0_0 a0_1 a0_2 a0_3 a0_4).bind fun bt552 => ((fold_Unary.f kj44 (⟨#[45]⟩ : ByteArray) bt552.1 bt552.2.1 bt552.2.2.1 bt552.2.2.2.1 bt552.2.2.2.2.1).bind fun bt559 => (if bt552.2.2.2.2.2 = 0 then (if bt559.2.2.2.2.2 = 0 then (some (bt559.2.1 == a0_1 && (bt559.2.2.1 == a0_2))) else (none)) else (some true))))) = some r := by rw [if_neg (show ¬ (false = true) by decide)] at H; exact H
                      clear H
                      have H := H1
                      clear H1
                      by_cases c60 : t529 = 0
                      · rw [if_pos c60] at H
                        have c60b0 : (t529 == 0) = true := beq_iff_eq.mpr c60
                        have c60b1 : (t529 != 0) = false := bne_eq_false_iff_eq.mpr c60
                        clear c60
                        replace H := Option.bind_eq_some_iff.mp H
                        obtain ⟨⟨t531, t532, t533, t534, t535, t536⟩, A610, H⟩ := H
                        replace H : (if t536 = 0 then (if (!(t532 == a0_1) || (!(t533 == a0_2))) = true then (none) else ((fold_Unary.f kj44 (⟨#[45]⟩ : ByteArray) a0_0 a0_1 a0_2 a0_3 a0_4).bind fun bt538 => ((fold_Unary.f kj44 (⟨#[45]⟩ : ByteArray) bt538.1 bt538.2.1 bt538.2.2.1 bt538.2.2.2.1 bt538.2.2.2.2.1).bind fun bt545 => (if bt538.2.2.2.2.2 = 0 then (if bt545.2.2.2.2.2 = 0 then (some (bt545.2.1 == a0_1 && (bt545.2.2.1 == a0_2))) else (none)) else (some true))))) else (none)) = some r := H
                        have A61 := Aside0.mk A610
                        clear A610
                        by_cases c62 : t536 = 0
                        · rw [if_pos c62] at H
                          have c62b0 : (t536 == 0) = true := beq_iff_eq.mpr c62
                          have c62b1 : (t536 != 0) = false := bne_eq_false_iff_eq.mpr c62
                          clear c62
                          by_cases c63 : (!(t532 == a0_1) || (!(t533 == a0_2))) = true
                          · rw [if_pos c63] at H
                            exact absurd H (by simp)
                          · rw [if_neg c63] at H
                            have c63b0 : (!(t532 == a0_1) || (!(t533 == a0_2))) = false := by simpa using c63
                            clear c63
                            replace H := Option.bind_eq_some_iff.mp H
                            obtain ⟨⟨t538, t539, t540, t541, t542, t543⟩, A640, H⟩ := H
                            replace H : ((fold_Unary.f kj44 (⟨#[45]⟩ : ByteArray) t538 t539 t540 t541 t542).bind fun bt545 => (if t543 = 0 then (if bt545.2.2.2.2.2 = 0 then (some (bt545.2.1 == a0_1 && (bt545.2.2.1 == a0_2))) else (none)) else (some true))) = some r := H
                            have A64 := Aside0.mk A640
                            clear A640
                            replace H := Option.bind_eq_some_iff.mp H
                            obtain ⟨⟨t545, t546, t547, t548, t549, t550⟩, A650, H⟩ := H
                            replace H : (if t543 = 0 then (if t550 = 0 then (some (t546 == a0_1 && (t547 == a0_2))) else (none)) else (some true)) = some r := H
                            have A65 := Aside0.mk A650
                            clear A650
                            by_cases c66 : t543 = 0
                            · rw [if_pos c66] at H
                              have c66b0 : (t543 == 0) = true := beq_iff_eq.mpr c66
                              have c66b1 : (t543 != 0) = false := bne_eq_false_iff_eq.mpr c66
                              clear c66
                              by_cases c67 : t550 = 0
                              · rw [if_pos c67] at H
                                have c67b0 : (t550 == 0) = true := beq_iff_eq.mpr c67
                                have c67b1 : (t550 != 0) = false := bne_eq_false_iff_eq.mpr c67
                                clear c67
                                obtain rfl := Option.some.inj H
                                have hnb68 := NB530_521.out
                                have hnc68 := NB521_530.out
                                have hnb69 := NB530_522.out
                                have hnc69 := NB522_530.out
                                have hcz70_0 : wc.cell? ⟨gb530, 0, none⟩ = some (.int .i64 t524) := (blk_cell BK530.out 0).trans rfl
                                have hcz70_1 : wc.cell? ⟨gb530, 1, none⟩ = some (.int .u64 t525) := (blk_cell BK530.out 1).trans rfl
                                have hcz70_2 : wc.cell? ⟨gb530, 2, none⟩ = some (.int .u64 t526) := (blk_cell BK530.out 2).trans rfl
                                have hcz70_3 : wc.cell? ⟨gb530, 3, none⟩ = some (.bool t527) := (blk_cell BK530.out 3).trans rfl
                                have hcz70_4 : wc.cell? ⟨gb530, 4, none⟩ = some (.string t528) := (blk_cell BK530.out 4).trans rfl
                                have hfz70_0 := blk_frozen BK530.out 0
                                have hfz70_1 := blk_frozen BK530.out 1
                                have hfz70_2 := blk_frozen BK530.out 2
                                have hfz70_3 := blk_frozen BK530.out 3
                                have hfz70_4 := blk_frozen BK530.out 4
                                have hnb71 := NB522_521.out
                                have hnc71 := NB521_522.out
                                have hcz72_0 : wc.cell? ⟨gb522, 0, none⟩ = some (.int .i64 a1_0) := (blk_cell BK522.out 0).trans rfl
                                have hcz72_1 : wc.cell? ⟨gb522, 1, none⟩ = some (.int .u64 a1_1) := (blk_cell BK522.out 1).trans rfl
                                have hcz72_2 : wc.cell? ⟨gb522, 2, none⟩ = some (.int .u64 a1_2) := (blk_cell BK522.out 2).trans rfl
                                have hcz72_3 : wc.cell? ⟨gb522, 3, none⟩ = some (.bool a1_3) := (blk_cell BK522.out 3).trans rfl
                                have hcz72_4 : wc.cell? ⟨gb522, 4, none⟩ = some (.string a1_4) := (blk_cell BK522.out 4).trans rfl
                                have hfz72_0 := blk_frozen BK522.out 0
                                have hfz72_1 := blk_frozen BK522.out 1
                                have hfz72_2 := blk_frozen BK522.out 2
                                have hfz72_3 := blk_frozen BK522.out 3
                                have hfz72_4 := blk_frozen BK522.out 4
                                go_wp2_with (first | ((with_reducible refine gate_callee (f := 9) rfl ?_); refine goesL_ (some 76) rfl rfl Try.func9 (by kernel_rfl) rfl #[.string (⟨#[45]⟩ : ByteArray), .agg #[.int .i64 t524, .int .u64 t525, .int .u64 t526, .bool t527, .string t528], .agg #[.int .i64 a1_0, .int .u64 a1_1, .int .u64 a1_2, .bool a1_3, .string a1_4]] rfl (by (try simp only [List.map_toArray, List.map_cons, List.map_nil]); first | done | rfl | (simp only [List.length_drop, List.length_take]; rfl) | (go_simp; simp only [u8_w, w64_u8]; done) | (go_simp; simp only [u8_w, w64_u8]; rfl)) ?_; (with_reducible refine (fold_Binary.calls kj44 (⟨#[45]⟩ : ByteArray) t524 t525 t526 t527 t528 a1_0 a1_1 a1_2 a1_3 a1_4 t531 t532 t533 t534 t535 t536 _ A61.out).mono ?_); rintro e w73 ⟨rfl, hb⟩; refine ⟨_, rfl, ?_⟩; have n0_ := blkB BK521 hb; have n1_ := blkB BK522 hb; have n2_ := blkB BK530 hb; have n3_ := Aside0.mk (below_step (bL HB) hb); clear BK521 BK522 BK530 HB; have BK521 := n0_; have BK522 := n1_; have BK530 := n2_; have HB := n3_; clear n0_ n1_ n2_ n3_; (try clear hb); (try clear hb2); (try clear hk); (try clear hi)) | ((with_reducible refine gate_dst (N := 7) rfl ?_); (try (refine gate_guard (by rfl) ?_; dsimp only)); refine box_event ?hg (N := 7) ?hd (cs := #[.int .i64 0, .int .u64 0, .int .u64 0, .bool false, .string (⟨#[]⟩ : ByteArray)]) (t := 28) ?hr ?_; (case hd => rfl); (case hg => rfl); (case hr => first | (go_simp; done) | (go_simp; rfl)); intro gb537 hg w74 hbox hb; have n0_ := blkB BK521 hb; have n1_ := blkB BK522 hb; have n2_ := blkB BK530 hb; have n3_ := Aside0.mk (below_step (bL HB) hb); have n4_ := Aside0.mk (hbox); have n5_ := Aside0.mk ((by rw [hg]; exact (below_size (bL HB)) : w.heap.size ≤ gb537)); have n6_ := Aside0.mk ((by rw [hg]; exact (below_size (bL HB)) : w.heap.size ≤ gb537)); have n7_ := blkL BK521 hg; have n8_ := blkG BK521 hg; have n9_ := blkL BK522 hg; have n10_ := blkG BK522 hg; have n11_ := blkL BK530 hg; have n12_ := blkG BK530 hg; clear BK521 BK522 BK530 HB; have BK521 := n0_; have BK522 := n1_; have BK530 := n2_; have HB := n3_; have BK537 := n4_; have GW537 := n5_; have GE537 := n6_; have NB521_537 := n7_; have NB537_521 := n8_; have NB522_537 := n9_; have NB537_522 := n10_; have NB530_537 := n11_; have NB537_530 := n12_; clear n0_ n1_ n2_ n3_ n4_ n5_ n6_ n7_ n8_ n9_ n10_ n11_ n12_; clear hb hbox hg; have hnb75 := NB537_521.out; have hnc75 := NB521_537.out; have hnb76 := NB537_522.out; have hnc76 := NB522_537.out; have hnb77 := NB537_530.out; have hnc77 := NB530_537.out; have hcz78_0 : w74.cell? ⟨gb537, 0, none⟩ = some (.int .i64 0) := (blk_cell BK537.out 0).trans rfl; have hcz78_1 : w74.cell? ⟨gb537, 1, none⟩ = some (.int .u64 0) := (blk_cell BK537.out 1).trans rfl; have hcz78_2 : w74.cell? ⟨gb537, 2, none⟩ = some (.int .u64 0) := (blk_cell BK537.out 2).trans rfl; have hcz78_3 : w74.cell? ⟨gb537, 3, none⟩ = some (.bool false) := (blk_cell BK537.out 3).trans rfl; have hcz78_4 : w74.cell? ⟨gb537, 4, none⟩ = some (.string (⟨#[]⟩ : ByteArray)) := (blk_cell BK537.out 4).trans rfl; have hfz78_0 := blk_frozen BK537.out 0; have hfz78_1 := blk_frozen BK537.out 1; have hfz78_2 := blk_frozen BK537.out 2; have hfz78_3 := blk_frozen BK537.out 3; have hfz78_4 := blk_frozen BK537.out 4; have hcz79_0 : w74.cell? ⟨gb521, 0, none⟩ = some (.int .i64 a0_0) := (blk_cell BK521.out 0).trans rfl; have hcz79_1 : w74.cell? ⟨gb521, 1, none⟩ = some (.int .u64 a0_1) := (blk_cell BK521.out 1).trans rfl; have hcz79_2 : w74.cell? ⟨gb521, 2, none⟩ = some (.int .u64 a0_2) := (blk_cell BK521.out 2).trans rfl; have hcz79_3 : w74.cell? ⟨gb521, 3, none⟩ = some (.bool a0_3) := (blk_cell BK521.out 3).trans rfl; have hcz79_4 : w74.cell? ⟨gb521, 4, none⟩ = some (.string a0_4) := (blk_cell BK521.out 4).trans rfl; have hfz79_0 := blk_frozen BK521.out 0; have hfz79_1 := blk_frozen BK521.out 1; have hfz79_2 := blk_frozen BK521.out 2; have hfz79_3 := blk_frozen BK521.out 3; have hfz79_4 := blk_frozen BK521.out 4) | ((with_reducible refine gate_callee (f := 12) rfl ?_); refine goesL_ (some 90) rfl rfl Try.func12 (by kernel_rfl) rfl #[.string (⟨#[45]⟩ : ByteArray), .agg #[.int .i64 a0_0, .int .u64 a0_1, .int .u64 a0_2, .bool a0_3, .string a0_4]] rfl (by (try simp only [List.map_toArray, List.map_cons, List.map_nil]); first | done | rfl | (simp only [List.length_drop, List.length_take]; rfl) | (go_simp; simp only [u8_w, w64_u8]; done) | (go_simp; simp only [u8_w, w64_u8]; rfl)) ?_; (with_reducible refine (fold_Unary.calls kj44 (⟨#[45]⟩ : ByteArray) a0_0 a0_1 a0_2 a0_3 a0_4 t538 t539 t540 t541 t542 t543 _ A64.out).mono ?_); rintro e w80 ⟨rfl, hb⟩; refine ⟨_, rfl, ?_⟩; have n0_ := Aside0.mk (blk_below (g := gb521) (o := .cells #[.int .i64 a0_0, .int .u64 a0_1, .int .u64 a0_2, .bool a0_3, .string a0_4] 28 (0, 0)) (bF BK521) hb); have n1_ := Aside0.mk (blk_below (g := gb522) (o := .cells #[.int .i64 a1_0, .int .u64 a1_1, .int .u64 a1_2, .bool a1_3, .string a1_4] 28 (0, 0)) (bF BK522) hb); have n2_ := Aside0.mk (blk_below (g := gb530) (o := .cells #[.int .i64 t524, .int .u64 t525, .int .u64 t526, .bool t527, .string t528] 28 (0, 0)) (bF BK530) hb); have n3_ := Aside0.mk (blk_below (g := gb537) (o := .cells #[.int .i64 t531, .int .u64 t532, .int .u64 t533, .bool t534, .string t535] 28 (0, 0)) (by (with_reducible repeat (first | refine blk_drewN ?_ _ | refine blk_drew ?_ | refine blk_alloc ?_ _)); refine blk_put (cs := #[.int .i64 t531, .int .u64 t532, .int .u64 t533, .bool t534, .string (⟨#[]⟩ : ByteArray)]) ?_ 4 _ rfl; (with_reducible repeat (first | refine blk_drewN ?_ _ | refine blk_drew ?_ | refine blk_alloc ?_ _)); refine blk_put (cs := #[.int .i64 t531, .int .u64 t532, .int .u64 t533, .bool false, .string (⟨#[]⟩ : ByteArray)]) ?_ 3 _ rfl; (with_reducible repeat (first | refine blk_drewN ?_ _ | refine blk_drew ?_ | refine blk_alloc ?_ _)); refine blk_put (cs := #[.int .i64 t531, .int .u64 t532, .int .u64 0, .bool false, .string (⟨#[]⟩ : ByteArray)]) ?_ 2 _ rfl; (with_reducible repeat (first | refine blk_drewN ?_ _ | refine blk_drew ?_ | refine blk_alloc ?_ _)); refine blk_put (cs := #[.int .i64 t531, .int .u64 0, .int .u64 0, .bool false, .string (⟨#[]⟩ : ByteArray)]) ?_ 1 _ rfl; (with_reducible repeat (first | refine blk_drewN ?_ _ | refine blk_drew ?_ | refine blk_alloc ?_ _)); refine blk_put (cs := #[.int .i64 0, .int .u64 0, .int .u64 0, .bool false, .string (⟨#[]⟩ : ByteArray)]) ?_ 0 _ rfl; (with_reducible repeat (first | refine blk_drewN ?_ _ | refine blk_drew ?_ | refine blk_alloc ?_ _)); exact BK537.out) hb); have n4_ := Aside0.mk (below_step (bL HB) hb); clear BK521 BK522 BK530 BK537 HB; have BK521 := n0_; have BK522 := n1_; have BK530 := n2_; have BK537 := n3_; have HB := n4_; clear n0_ n1_ n2_ n3_ n4_; (try clear hb); (try clear hb2); (try clear hk); (try clear hi)) | ((with_reducible refine gate_dst (N := 9) rfl ?_); (try (refine gate_guard (by rfl) ?_; dsimp only)); refine box_event ?hg (N := 9) ?hd (cs := #[.int .i64 0, .int .u64 0, .int .u64 0, .bool false, .string (⟨#[]⟩ : ByteArray)]) (t := 28) ?hr ?_; (case hd => rfl); (case hg => rfl); (case hr => first | (go_simp; done) | (go_simp; rfl)); intro gb544 hg w81 hbox hb; have n0_ := blkB BK521 hb; have n1_ := blkB BK522 hb; have n2_ := blkB BK530 hb; have n3_ := blkB BK537 hb; have n4_ := Aside0.mk (below_step (bL HB) hb); have n5_ := Aside0.mk (hbox); have n6_ := Aside0.mk ((by rw [hg]; exact (below_size (bL HB)) : w.heap.size ≤ gb544)); have n7_ := Aside0.mk ((by rw [hg]; exact (below_size (bL HB)) : w.heap.size ≤ gb544)); have n8_ := blkL BK521 hg; have n9_ := blkG BK521 hg; have n10_ := blkL BK522 hg; have n11_ := blkG BK522 hg; have n12_ := blkL BK530 hg; have n13_ := blkG BK530 hg; have n14_ := blkL BK537 hg; have n15_ := blkG BK537 hg; clear BK521 BK522 BK530 BK537 HB; have BK521 := n0_; have BK522 := n1_; have BK530 := n2_; have BK537 := n3_; have HB := n4_; have BK544 := n5_; have GW544 := n6_; have GE544 := n7_; have NB521_544 := n8_; have NB544_521 := n9_; have NB522_544 := n10_; have NB544_522 := n11_; have NB530_544 := n12_; have NB544_530 := n13_; have NB537_544 := n14_; have NB544_537 := n15_; clear n0_ n1_ n2_ n3_ n4_ n5_ n6_ n7_ n8_ n9_ n10_ n11_ n12_ n13_ n14_ n15_; clear hb hbox hg; have hnb82 := NB544_521.out; have hnc82 := NB521_544.out; have hnb83 := NB544_522.out; have hnc83 := NB522_544.out; have hnb84 := NB544_530.out; have hnc84 := NB530_544.out; have hnb85 := NB544_537.out; have hnc85 := NB537_544.out; have hcz86_0 : w81.cell? ⟨gb544, 0, none⟩ = some (.int .i64 0) := (blk_cell BK544.out 0).trans rfl; have hcz86_1 : w81.cell? ⟨gb544, 1, none⟩ = some (.int .u64 0) := (blk_cell BK544.out 1).trans rfl; have hcz86_2 : w81.cell? ⟨gb544, 2, none⟩ = some (.int .u64 0) := (blk_cell BK544.out 2).trans rfl; have hcz86_3 : w81.cell? ⟨gb544, 3, none⟩ = some (.bool false) := (blk_cell BK544.out 3).trans rfl; have hcz86_4 : w81.cell? ⟨gb544, 4, none⟩ = some (.string (⟨#[]⟩ : ByteArray)) := (blk_cell BK544.out 4).trans rfl; have hfz86_0 := blk_frozen BK544.out 0; have hfz86_1 := blk_frozen BK544.out 1; have hfz86_2 := blk_frozen BK544.out 2; have hfz86_3 := blk_frozen BK544.out 3; have hfz86_4 := blk_frozen BK544.out 4) | ((with_reducible refine gate_callee (f := 12) rfl ?_); refine goesL_ (some 95) rfl rfl Try.func12 (by kernel_rfl) rfl #[.string (⟨#[45]⟩ : ByteArray), .agg #[.int .i64 t538, .int .u64 t539, .int .u64 t540, .bool t541, .string t542]] rfl (by (try simp only [List.map_toArray, List.map_cons, List.map_nil]); first | done | rfl | (simp only [List.length_drop, List.length_take]; rfl) | (go_simp; simp only [u8_w, w64_u8]; done) | (go_simp; simp only [u8_w, w64_u8]; rfl)) ?_; (with_reducible refine (fold_Unary.calls kj44 (⟨#[45]⟩ : ByteArray) t538 t539 t540 t541 t542 t545 t546 t547 t548 t549 t550 _ A65.out).mono ?_); rintro e w87 ⟨rfl, hb⟩; refine ⟨_, rfl, ?_⟩; have n0_ := Aside0.mk (blk_below (g := gb521) (o := .cells #[.int .i64 a0_0, .int .u64 a0_1, .int .u64 a0_2, .bool a0_3, .string a0_4] 28 (0, 0)) (bF BK521) hb); have n1_ := Aside0.mk (blk_below (g := gb522) (o := .cells #[.int .i64 a1_0, .int .u64 a1_1, .int .u64 a1_2, .bool a1_3, .string a1_4] 28 (0, 0)) (bF BK522) hb); have n2_ := Aside0.mk (blk_below (g := gb530) (o := .cells #[.int .i64 t524, .int .u64 t525, .int .u64 t526, .bool t527, .string t528] 28 (0, 0)) (bF BK530) hb); have n3_ := Aside0.mk (blk_below (g := gb537) (o := .cells #[.int .i64 t531, .int .u64 t532, .int .u64 t533, .bool t534, .string t535] 28 (0, 0)) (bF BK537) hb); have n4_ := Aside0.mk (blk_below (g := gb544) (o := .cells #[.int .i64 t538, .int .u64 t539, .int .u64 t540, .bool t541, .string t542] 28 (0, 0)) (by (with_reducible repeat (first | refine blk_drewN ?_ _ | refine blk_drew ?_ | refine blk_alloc ?_ _)); refine blk_put (cs := #[.int .i64 t538, .int .u64 t539, .int .u64 t540, .bool t541, .string (⟨#[]⟩ : ByteArray)]) ?_ 4 _ rfl; (with_reducible repeat (first | refine blk_drewN ?_ _ | refine blk_drew ?_ | refine blk_alloc ?_ _)); refine blk_put (cs := #[.int .i64 t538, .int .u64 t539, .int .u64 t540, .bool false, .string (⟨#[]⟩ : ByteArray)]) ?_ 3 _ rfl; (with_reducible repeat (first | refine blk_drewN ?_ _ | refine blk_drew ?_ | refine blk_alloc ?_ _)); refine blk_put (cs := #[.int .i64 t538, .int .u64 t539, .int .u64 0, .bool false, .string (⟨#[]⟩ : ByteArray)]) ?_ 2 _ rfl; (with_reducible repeat (first | refine blk_drewN ?_ _ | refine blk_drew ?_ | refine blk_alloc ?_ _)); refine blk_put (cs := #[.int .i64 t538, .int .u64 0, .int .u64 0, .bool false, .string (⟨#[]⟩ : ByteArray)]) ?_ 1 _ rfl; (with_reducible repeat (first | refine blk_drewN ?_ _ | refine blk_drew ?_ | refine blk_alloc ?_ _)); refine blk_put (cs := #[.int .i64 0, .int .u64 0, .int .u64 0, .bool false, .string (⟨#[]⟩ : ByteArray)]) ?_ 0 _ rfl; (with_reducible repeat (first | refine blk_drewN ?_ _ | refine blk_drew ?_ | refine blk_alloc ?_ _)); exact BK544.out) hb); have n5_ := Aside0.mk (below_step (bL HB) hb); clear BK521 BK522 BK530 BK537 BK544 HB; have BK521 := n0_; have BK522 := n1_; have BK530 := n2_; have BK537 := n3_; have BK544 := n4_; have HB := n5_; clear n0_ n1_ n2_ n3_ n4_ n5_; (try clear hb); (try clear hb2); (try clear hk); (try clear hi)) | ((with_reducible refine gate_dst (N := 11) rfl ?_); (try (refine gate_guard (by rfl) ?_; dsimp only)); refine box_event ?hg (N := 11) ?hd (cs := #[.int .i64 0, .int .u64 0, .int .u64 0, .bool false, .string (⟨#[]⟩ : ByteArray)]) (t := 28) ?hr ?_; (case hd => rfl); (case hg => rfl); (case hr => first | (go_simp; done) | (go_simp; rfl)); intro gb551 hg w88 hbox hb; have n0_ := blkB BK521 hb; have n1_ := blkB BK522 hb; have n2_ := blkB BK530 hb; have n3_ := blkB BK537 hb; have n4_ := blkB BK544 hb; have n5_ := Aside0.mk (below_step (bL HB) hb); have n6_ := Aside0.mk (hbox); have n7_ := Aside0.mk ((by rw [hg]; exact (below_size (bL HB)) : w.heap.size ≤ gb551)); have n8_ := Aside0.mk ((by rw [hg]; exact (below_size (bL HB)) : w.heap.size ≤ gb551)); have n9_ := blkL BK521 hg; have n10_ := blkG BK521 hg; have n11_ := blkL BK522 hg; have n12_ := blkG BK522 hg; have n13_ := blkL BK530 hg; have n14_ := blkG BK530 hg; have n15_ := blkL BK537 hg; have n16_ := blkG BK537 hg; have n17_ := blkL BK544 hg; have n18_ := blkG BK544 hg; clear BK521 BK522 BK530 BK537 BK544 HB; have BK521 := n0_; have BK522 := n1_; have BK530 := n2_; have BK537 := n3_; have BK544 := n4_; have HB := n5_; have BK551 := n6_; have GW551 := n7_; have GE551 := n8_; have NB521_551 := n9_; have NB551_521 := n10_; have NB522_551 := n11_; have NB551_522 := n12_; have NB530_551 := n13_; have NB551_530 := n14_; have NB537_551 := n15_; have NB551_537 := n16_; have NB544_551 := n17_; have NB551_544 := n18_; clear n0_ n1_ n2_ n3_ n4_ n5_ n6_ n7_ n8_ n9_ n10_ n11_ n12_ n13_ n14_ n15_ n16_ n17_ n18_; clear hb hbox hg; have hnb89 := NB551_521.out; have hnc89 := NB521_551.out; have hnb90 := NB551_522.out; have hnc90 := NB522_551.out; have hnb91 := NB551_530.out; have hnc91 := NB530_551.out; have hnb92 := NB551_537.out; have hnc92 := NB537_551.out; have hnb93 := NB551_544.out; have hnc93 := NB544_551.out; have hcz94_0 : w88.cell? ⟨gb551, 0, none⟩ = some (.int .i64 0) := (blk_cell BK551.out 0).trans rfl; have hcz94_1 : w88.cell? ⟨gb551, 1, none⟩ = some (.int .u64 0) := (blk_cell BK551.out 1).trans rfl; have hcz94_2 : w88.cell? ⟨gb551, 2, none⟩ = some (.int .u64 0) := (blk_cell BK551.out 2).trans rfl; have hcz94_3 : w88.cell? ⟨gb551, 3, none⟩ = some (.bool false) := (blk_cell BK551.out 3).trans rfl; have hcz94_4 : w88.cell? ⟨gb551, 4, none⟩ = some (.string (⟨#[]⟩ : ByteArray)) := (blk_cell BK551.out 4).trans rfl; have hfz94_0 := blk_frozen BK551.out 0; have hfz94_1 := blk_frozen BK551.out 1; have hfz94_2 := blk_frozen BK551.out 2; have hfz94_3 := blk_frozen BK551.out 3; have hfz94_4 := blk_frozen BK551.out 4; have hcz95_0 : w88.cell? ⟨gb521, 0, none⟩ = some (.int .i64 a0_0) := (blk_cell BK521.out 0).trans rfl; have hcz95_1 : w88.cell? ⟨gb521, 1, none⟩ = some (.int .u64 a0_1) := (blk_cell BK521.out 1).trans rfl; have hcz95_2 : w88.cell? ⟨gb521, 2, none⟩ = some (.int .u64 a0_2) := (blk_cell BK521.out 2).trans rfl; have hcz95_3 : w88.cell? ⟨gb521, 3, none⟩ = some (.bool a0_3) := (blk_cell BK521.out 3).trans rfl; have hcz95_4 : w88.cell? ⟨gb521, 4, none⟩ = some (.string a0_4) := (blk_cell BK521.out 4).trans rfl; have hfz95_0 := blk_frozen BK521.out 0; have hfz95_1 := blk_frozen BK521.out 1; have hfz95_2 := blk_frozen BK521.out 2; have hfz95_3 := blk_frozen BK521.out 3; have hfz95_4 := blk_frozen BK521.out 4))
                                go_ret
                                exact ⟨by first | rfl | (simp [errW_none, errW_some] <;> rfl) | (simp [*, errW_none, errW_some] <;> rfl), by repeat (first | (with_reducible first | exact HB.out | apply below_alloc | apply pw_below_drewN | apply below_drew1 | refine below_set ?_ GE521.out | refine below_set ?_ GE522.out | refine below_set ?_ GE530.out | refine below_set ?_ GE537.out | refine below_set ?_ GE544.out | refine below_set ?_ GE551.out) | exact HB.out)⟩
                              · rw [if_neg c67] at H
                                exact absurd H (by simp)
                            · rw [if_neg c66] at H
                              have c66b0 : (t543 == 0) = false := beq_eq_false_iff_ne.mpr c66
                              have c66b1 : (t543 != 0) = true := bne_iff_ne.mpr c66
                              obtain rfl := Option.some.inj H
                              have hnb96 := NB530_521.out
                              have hnc96 := NB521_530.out
                              have hnb97 := NB530_522.out
                              have hnc97 := NB522_530.out
                              have hcz98_0 : wc.cell? ⟨gb530, 0, none⟩ = some (.int .i64 t524) := (blk_cell BK530.out 0).trans rfl
                              have hcz98_1 : wc.cell? ⟨gb530, 1, none⟩ = some (.int .u64 t525) := (blk_cell BK530.out 1).trans rfl
                              have hcz98_2 : wc.cell? ⟨gb530, 2, none⟩ = some (.int .u64 t526) := (blk_cell BK530.out 2).trans rfl
                              have hcz98_3 : wc.cell? ⟨gb530, 3, none⟩ = some (.bool t527) := (blk_cell BK530.out 3).trans rfl
                              have hcz98_4 : wc.cell? ⟨gb530, 4, none⟩ = some (.string t528) := (blk_cell BK530.out 4).trans rfl
                              have hfz98_0 := blk_frozen BK530.out 0
                              have hfz98_1 := blk_frozen BK530.out 1
                              have hfz98_2 := blk_frozen BK530.out 2
                              have hfz98_3 := blk_frozen BK530.out 3
                              have hfz98_4 := blk_frozen BK530.out 4
                              have hnb99 := NB522_521.out
                              have hnc99 := NB521_522.out
                              have hcz100_0 : wc.cell? ⟨gb522, 0, none⟩ = some (.int .i64 a1_0) := (blk_cell BK522.out 0).trans rfl
                              have hcz100_1 : wc.cell? ⟨gb522, 1, none⟩ = some (.int .u64 a1_1) := (blk_cell BK522.out 1).trans rfl
                              have hcz100_2 : wc.cell? ⟨gb522, 2, none⟩ = some (.int .u64 a1_2) := (blk_cell BK522.out 2).trans rfl
                              have hcz100_3 : wc.cell? ⟨gb522, 3, none⟩ = some (.bool a1_3) := (blk_cell BK522.out 3).trans rfl
                              have hcz100_4 : wc.cell? ⟨gb522, 4, none⟩ = some (.string a1_4) := (blk_cell BK522.out 4).trans rfl
                              have hfz100_0 := blk_frozen BK522.out 0
                              have hfz100_1 := blk_frozen BK522.out 1
                              have hfz100_2 := blk_frozen BK522.out 2
                              have hfz100_3 := blk_frozen BK522.out 3
                              have hfz100_4 := blk_frozen BK522.out 4
                              go_wp2_with (first | ((with_reducible refine gate_callee (f := 9) rfl ?_); refine goesL_ (some 76) rfl rfl Try.func9 (by kernel_rfl) rfl #[.string (⟨#[45]⟩ : ByteArray), .agg #[.int .i64 t524, .int .u64 t525, .int .u64 t526, .bool t527, .string t528], .agg #[.int .i64 a1_0, .int .u64 a1_1, .int .u64 a1_2, .bool a1_3, .string a1_4]] rfl (by (try simp only [List.map_toArray, List.map_cons, List.map_nil]); first | done | rfl | (simp only [List.length_drop, List.length_take]; rfl) | (go_simp; simp only [u8_w, w64_u8]; done) | (go_simp; simp only [u8_w, w64_u8]; rfl)) ?_; (with_reducible refine (fold_Binary.calls kj44 (⟨#[45]⟩ : ByteArray) t524 t525 t526 t527 t528 a1_0 a1_1 a1_2 a1_3 a1_4 t531 t532 t533 t534 t535 t536 _ A61.out).mono ?_); rintro e w101 ⟨rfl, hb⟩; refine ⟨_, rfl, ?_⟩; have n0_ := blkB BK521 hb; have n1_ := blkB BK522 hb; have n2_ := blkB BK530 hb; have n3_ := Aside0.mk (below_step (bL HB) hb); clear BK521 BK522 BK530 HB; have BK521 := n0_; have BK522 := n1_; have BK530 := n2_; have HB := n3_; clear n0_ n1_ n2_ n3_; (try clear hb); (try clear hb2); (try clear hk); (try clear hi)) | ((with_reducible refine gate_dst (N := 7) rfl ?_); (try (refine gate_guard (by rfl) ?_; dsimp only)); refine box_event ?hg (N := 7) ?hd (cs := #[.int .i64 0, .int .u64 0, .int .u64 0, .bool false, .string (⟨#[]⟩ : ByteArray)]) (t := 28) ?hr ?_; (case hd => rfl); (case hg => rfl); (case hr => first | (go_simp; done) | (go_simp; rfl)); intro gb537 hg w102 hbox hb; have n0_ := blkB BK521 hb; have n1_ := blkB BK522 hb; have n2_ := blkB BK530 hb; have n3_ := Aside0.mk (below_step (bL HB) hb); have n4_ := Aside0.mk (hbox); have n5_ := Aside0.mk ((by rw [hg]; exact (below_size (bL HB)) : w.heap.size ≤ gb537)); have n6_ := Aside0.mk ((by rw [hg]; exact (below_size (bL HB)) : w.heap.size ≤ gb537)); have n7_ := blkL BK521 hg; have n8_ := blkG BK521 hg; have n9_ := blkL BK522 hg; have n10_ := blkG BK522 hg; have n11_ := blkL BK530 hg; have n12_ := blkG BK530 hg; clear BK521 BK522 BK530 HB; have BK521 := n0_; have BK522 := n1_; have BK530 := n2_; have HB := n3_; have BK537 := n4_; have GW537 := n5_; have GE537 := n6_; have NB521_537 := n7_; have NB537_521 := n8_; have NB522_537 := n9_; have NB537_522 := n10_; have NB530_537 := n11_; have NB537_530 := n12_; clear n0_ n1_ n2_ n3_ n4_ n5_ n6_ n7_ n8_ n9_ n10_ n11_ n12_; clear hb hbox hg; have hnb103 := NB537_521.out; have hnc103 := NB521_537.out; have hnb104 := NB537_522.out; have hnc104 := NB522_537.out; have hnb105 := NB537_530.out; have hnc105 := NB530_537.out; have hcz106_0 : w102.cell? ⟨gb537, 0, none⟩ = some (.int .i64 0) := (blk_cell BK537.out 0).trans rfl; have hcz106_1 : w102.cell? ⟨gb537, 1, none⟩ = some (.int .u64 0) := (blk_cell BK537.out 1).trans rfl; have hcz106_2 : w102.cell? ⟨gb537, 2, none⟩ = some (.int .u64 0) := (blk_cell BK537.out 2).trans rfl; have hcz106_3 : w102.cell? ⟨gb537, 3, none⟩ = some (.bool false) := (blk_cell BK537.out 3).trans rfl; have hcz106_4 : w102.cell? ⟨gb537, 4, none⟩ = some (.string (⟨#[]⟩ : ByteArray)) := (blk_cell BK537.out 4).trans rfl; have hfz106_0 := blk_frozen BK537.out 0; have hfz106_1 := blk_frozen BK537.out 1; have hfz106_2 := blk_frozen BK537.out 2; have hfz106_3 := blk_frozen BK537.out 3; have hfz106_4 := blk_frozen BK537.out 4; have hcz107_0 : w102.cell? ⟨gb521, 0, none⟩ = some (.int .i64 a0_0) := (blk_cell BK521.out 0).trans rfl; have hcz107_1 : w102.cell? ⟨gb521, 1, none⟩ = some (.int .u64 a0_1) := (blk_cell BK521.out 1).trans rfl; have hcz107_2 : w102.cell? ⟨gb521, 2, none⟩ = some (.int .u64 a0_2) := (blk_cell BK521.out 2).trans rfl; have hcz107_3 : w102.cell? ⟨gb521, 3, none⟩ = some (.bool a0_3) := (blk_cell BK521.out 3).trans rfl; have hcz107_4 : w102.cell? ⟨gb521, 4, none⟩ = some (.string a0_4) := (blk_cell BK521.out 4).trans rfl; have hfz107_0 := blk_frozen BK521.out 0; have hfz107_1 := blk_frozen BK521.out 1; have hfz107_2 := blk_frozen BK521.out 2; have hfz107_3 := blk_frozen BK521.out 3; have hfz107_4 := blk_frozen BK521.out 4) | ((with_reducible refine gate_callee (f := 12) rfl ?_); refine goesL_ (some 90) rfl rfl Try.func12 (by kernel_rfl) rfl #[.string (⟨#[45]⟩ : ByteArray), .agg #[.int .i64 a0_0, .int .u64 a0_1, .int .u64 a0_2, .bool a0_3, .string a0_4]] rfl (by (try simp only [List.map_toArray, List.map_cons, List.map_nil]); first | done | rfl | (simp only [List.length_drop, List.length_take]; rfl) | (go_simp; simp only [u8_w, w64_u8]; done) | (go_simp; simp only [u8_w, w64_u8]; rfl)) ?_; (with_reducible refine (fold_Unary.calls kj44 (⟨#[45]⟩ : ByteArray) a0_0 a0_1 a0_2 a0_3 a0_4 t538 t539 t540 t541 t542 t543 _ A64.out).mono ?_); rintro e w108 ⟨rfl, hb⟩; refine ⟨_, rfl, ?_⟩; have n0_ := Aside0.mk (blk_below (g := gb521) (o := .cells #[.int .i64 a0_0, .int .u64 a0_1, .int .u64 a0_2, .bool a0_3, .string a0_4] 28 (0, 0)) (bF BK521) hb); have n1_ := Aside0.mk (blk_below (g := gb522) (o := .cells #[.int .i64 a1_0, .int .u64 a1_1, .int .u64 a1_2, .bool a1_3, .string a1_4] 28 (0, 0)) (bF BK522) hb); have n2_ := Aside0.mk (blk_below (g := gb530) (o := .cells #[.int .i64 t524, .int .u64 t525, .int .u64 t526, .bool t527, .string t528] 28 (0, 0)) (bF BK530) hb); have n3_ := Aside0.mk (blk_below (g := gb537) (o := .cells #[.int .i64 t531, .int .u64 t532, .int .u64 t533, .bool t534, .string t535] 28 (0, 0)) (by (with_reducible repeat (first | refine blk_drewN ?_ _ | refine blk_drew ?_ | refine blk_alloc ?_ _)); refine blk_put (cs := #[.int .i64 t531, .int .u64 t532, .int .u64 t533, .bool t534, .string (⟨#[]⟩ : ByteArray)]) ?_ 4 _ rfl; (with_reducible repeat (first | refine blk_drewN ?_ _ | refine blk_drew ?_ | refine blk_alloc ?_ _)); refine blk_put (cs := #[.int .i64 t531, .int .u64 t532, .int .u64 t533, .bool false, .string (⟨#[]⟩ : ByteArray)]) ?_ 3 _ rfl; (with_reducible repeat (first | refine blk_drewN ?_ _ | refine blk_drew ?_ | refine blk_alloc ?_ _)); refine blk_put (cs := #[.int .i64 t531, .int .u64 t532, .int .u64 0, .bool false, .string (⟨#[]⟩ : ByteArray)]) ?_ 2 _ rfl; (with_reducible repeat (first | refine blk_drewN ?_ _ | refine blk_drew ?_ | refine blk_alloc ?_ _)); refine blk_put (cs := #[.int .i64 t531, .int .u64 0, .int .u64 0, .bool false, .string (⟨#[]⟩ : ByteArray)]) ?_ 1 _ rfl; (with_reducible repeat (first | refine blk_drewN ?_ _ | refine blk_drew ?_ | refine blk_alloc ?_ _)); refine blk_put (cs := #[.int .i64 0, .int .u64 0, .int .u64 0, .bool false, .string (⟨#[]⟩ : ByteArray)]) ?_ 0 _ rfl; (with_reducible repeat (first | refine blk_drewN ?_ _ | refine blk_drew ?_ | refine blk_alloc ?_ _)); exact BK537.out) hb); have n4_ := Aside0.mk (below_step (bL HB) hb); clear BK521 BK522 BK530 BK537 HB; have BK521 := n0_; have BK522 := n1_; have BK530 := n2_; have BK537 := n3_; have HB := n4_; clear n0_ n1_ n2_ n3_ n4_; (try clear hb); (try clear hb2); (try clear hk); (try clear hi)) | ((with_reducible refine gate_dst (N := 9) rfl ?_); (try (refine gate_guard (by rfl) ?_; dsimp only)); refine box_event ?hg (N := 9) ?hd (cs := #[.int .i64 0, .int .u64 0, .int .u64 0, .bool false, .string (⟨#[]⟩ : ByteArray)]) (t := 28) ?hr ?_; (case hd => rfl); (case hg => rfl); (case hr => first | (go_simp; done) | (go_simp; rfl)); intro gb544 hg w109 hbox hb; have n0_ := blkB BK521 hb; have n1_ := blkB BK522 hb; have n2_ := blkB BK530 hb; have n3_ := blkB BK537 hb; have n4_ := Aside0.mk (below_step (bL HB) hb); have n5_ := Aside0.mk (hbox); have n6_ := Aside0.mk ((by rw [hg]; exact (below_size (bL HB)) : w.heap.size ≤ gb544)); have n7_ := Aside0.mk ((by rw [hg]; exact (below_size (bL HB)) : w.heap.size ≤ gb544)); have n8_ := blkL BK521 hg; have n9_ := blkG BK521 hg; have n10_ := blkL BK522 hg; have n11_ := blkG BK522 hg; have n12_ := blkL BK530 hg; have n13_ := blkG BK530 hg; have n14_ := blkL BK537 hg; have n15_ := blkG BK537 hg; clear BK521 BK522 BK530 BK537 HB; have BK521 := n0_; have BK522 := n1_; have BK530 := n2_; have BK537 := n3_; have HB := n4_; have BK544 := n5_; have GW544 := n6_; have GE544 := n7_; have NB521_544 := n8_; have NB544_521 := n9_; have NB522_544 := n10_; have NB544_522 := n11_; have NB530_544 := n12_; have NB544_530 := n13_; have NB537_544 := n14_; have NB544_537 := n15_; clear n0_ n1_ n2_ n3_ n4_ n5_ n6_ n7_ n8_ n9_ n10_ n11_ n12_ n13_ n14_ n15_; clear hb hbox hg; have hnb110 := NB544_521.out; have hnc110 := NB521_544.out; have hnb111 := NB544_522.out; have hnc111 := NB522_544.out; have hnb112 := NB544_530.out; have hnc112 := NB530_544.out; have hnb113 := NB544_537.out; have hnc113 := NB537_544.out; have hcz114_0 : w109.cell? ⟨gb544, 0, none⟩ = some (.int .i64 0) := (blk_cell BK544.out 0).trans rfl; have hcz114_1 : w109.cell? ⟨gb544, 1, none⟩ = some (.int .u64 0) := (blk_cell BK544.out 1).trans rfl; have hcz114_2 : w109.cell? ⟨gb544, 2, none⟩ = some (.int .u64 0) := (blk_cell BK544.out 2).trans rfl; have hcz114_3 : w109.cell? ⟨gb544, 3, none⟩ = some (.bool false) := (blk_cell BK544.out 3).trans rfl; have hcz114_4 : w109.cell? ⟨gb544, 4, none⟩ = some (.string (⟨#[]⟩ : ByteArray)) := (blk_cell BK544.out 4).trans rfl; have hfz114_0 := blk_frozen BK544.out 0; have hfz114_1 := blk_frozen BK544.out 1; have hfz114_2 := blk_frozen BK544.out 2; have hfz114_3 := blk_frozen BK544.out 3; have hfz114_4 := blk_frozen BK544.out 4) | ((with_reducible refine gate_callee (f := 12) rfl ?_); refine goesL_ (some 95) rfl rfl Try.func12 (by kernel_rfl) rfl #[.string (⟨#[45]⟩ : ByteArray), .agg #[.int .i64 t538, .int .u64 t539, .int .u64 t540, .bool t541, .string t542]] rfl (by (try simp only [List.map_toArray, List.map_cons, List.map_nil]); first | done | rfl | (simp only [List.length_drop, List.length_take]; rfl) | (go_simp; simp only [u8_w, w64_u8]; done) | (go_simp; simp only [u8_w, w64_u8]; rfl)) ?_; (with_reducible refine (fold_Unary.calls kj44 (⟨#[45]⟩ : ByteArray) t538 t539 t540 t541 t542 t545 t546 t547 t548 t549 t550 _ A65.out).mono ?_); rintro e w115 ⟨rfl, hb⟩; refine ⟨_, rfl, ?_⟩; have n0_ := Aside0.mk (blk_below (g := gb521) (o := .cells #[.int .i64 a0_0, .int .u64 a0_1, .int .u64 a0_2, .bool a0_3, .string a0_4] 28 (0, 0)) (bF BK521) hb); have n1_ := Aside0.mk (blk_below (g := gb522) (o := .cells #[.int .i64 a1_0, .int .u64 a1_1, .int .u64 a1_2, .bool a1_3, .string a1_4] 28 (0, 0)) (bF BK522) hb); have n2_ := Aside0.mk (blk_below (g := gb530) (o := .cells #[.int .i64 t524, .int .u64 t525, .int .u64 t526, .bool t527, .string t528] 28 (0, 0)) (bF BK530) hb); have n3_ := Aside0.mk (blk_below (g := gb537) (o := .cells #[.int .i64 t531, .int .u64 t532, .int .u64 t533, .bool t534, .string t535] 28 (0, 0)) (bF BK537) hb); have n4_ := Aside0.mk (blk_below (g := gb544) (o := .cells #[.int .i64 t538, .int .u64 t539, .int .u64 t540, .bool t541, .string t542] 28 (0, 0)) (by (with_reducible repeat (first | refine blk_drewN ?_ _ | refine blk_drew ?_ | refine blk_alloc ?_ _)); refine blk_put (cs := #[.int .i64 t538, .int .u64 t539, .int .u64 t540, .bool t541, .string (⟨#[]⟩ : ByteArray)]) ?_ 4 _ rfl; (with_reducible repeat (first | refine blk_drewN ?_ _ | refine blk_drew ?_ | refine blk_alloc ?_ _)); refine blk_put (cs := #[.int .i64 t538, .int .u64 t539, .int .u64 t540, .bool false, .string (⟨#[]⟩ : ByteArray)]) ?_ 3 _ rfl; (with_reducible repeat (first | refine blk_drewN ?_ _ | refine blk_drew ?_ | refine blk_alloc ?_ _)); refine blk_put (cs := #[.int .i64 t538, .int .u64 t539, .int .u64 0, .bool false, .string (⟨#[]⟩ : ByteArray)]) ?_ 2 _ rfl; (with_reducible repeat (first | refine blk_drewN ?_ _ | refine blk_drew ?_ | refine blk_alloc ?_ _)); refine blk_put (cs := #[.int .i64 t538, .int .u64 0, .int .u64 0, .bool false, .string (⟨#[]⟩ : ByteArray)]) ?_ 1 _ rfl; (with_reducible repeat (first | refine blk_drewN ?_ _ | refine blk_drew ?_ | refine blk_alloc ?_ _)); refine blk_put (cs := #[.int .i64 0, .int .u64 0, .int .u64 0, .bool false, .string (⟨#[]⟩ : ByteArray)]) ?_ 0 _ rfl; (with_reducible repeat (first | refine blk_drewN ?_ _ | refine blk_drew ?_ | refine blk_alloc ?_ _)); exact BK544.out) hb); have n5_ := Aside0.mk (below_step (bL HB) hb); clear BK521 BK522 BK530 BK537 BK544 HB; have BK521 := n0_; have BK522 := n1_; have BK530 := n2_; have BK537 := n3_; have BK544 := n4_; have HB := n5_; clear n0_ n1_ n2_ n3_ n4_ n5_; (try clear hb); (try clear hb2); (try clear hk); (try clear hi)) | ((with_reducible refine gate_dst (N := 11) rfl ?_); (try (refine gate_guard (by rfl) ?_; dsimp only)); refine box_event ?hg (N := 11) ?hd (cs := #[.int .i64 0, .int .u64 0, .int .u64 0, .bool false, .string (⟨#[]⟩ : ByteArray)]) (t := 28) ?hr ?_; (case hd => rfl); (case hg => rfl); (case hr => first | (go_simp; done) | (go_simp; rfl)); intro gb551 hg w116 hbox hb; have n0_ := blkB BK521 hb; have n1_ := blkB BK522 hb; have n2_ := blkB BK530 hb; have n3_ := blkB BK537 hb; have n4_ := blkB BK544 hb; have n5_ := Aside0.mk (below_step (bL HB) hb); have n6_ := Aside0.mk (hbox); have n7_ := Aside0.mk ((by rw [hg]; exact (below_size (bL HB)) : w.heap.size ≤ gb551)); have n8_ := Aside0.mk ((by rw [hg]; exact (below_size (bL HB)) : w.heap.size ≤ gb551)); have n9_ := blkL BK521 hg; have n10_ := blkG BK521 hg; have n11_ := blkL BK522 hg; have n12_ := blkG BK522 hg; have n13_ := blkL BK530 hg; have n14_ := blkG BK530 hg; have n15_ := blkL BK537 hg; have n16_ := blkG BK537 hg; have n17_ := blkL BK544 hg; have n18_ := blkG BK544 hg; clear BK521 BK522 BK530 BK537 BK544 HB; have BK521 := n0_; have BK522 := n1_; have BK530 := n2_; have BK537 := n3_; have BK544 := n4_; have HB := n5_; have BK551 := n6_; have GW551 := n7_; have GE551 := n8_; have NB521_551 := n9_; have NB551_521 := n10_; have NB522_551 := n11_; have NB551_522 := n12_; have NB530_551 := n13_; have NB551_530 := n14_; have NB537_551 := n15_; have NB551_537 := n16_; have NB544_551 := n17_; have NB551_544 := n18_; clear n0_ n1_ n2_ n3_ n4_ n5_ n6_ n7_ n8_ n9_ n10_ n11_ n12_ n13_ n14_ n15_ n16_ n17_ n18_; clear hb hbox hg; have hnb117 := NB551_521.out; have hnc117 := NB521_551.out; have hnb118 := NB551_522.out; have hnc118 := NB522_551.out; have hnb119 := NB551_530.out; have hnc119 := NB530_551.out; have hnb120 := NB551_537.out; have hnc120 := NB537_551.out; have hnb121 := NB551_544.out; have hnc121 := NB544_551.out; have hcz122_0 : w116.cell? ⟨gb551, 0, none⟩ = some (.int .i64 0) := (blk_cell BK551.out 0).trans rfl; have hcz122_1 : w116.cell? ⟨gb551, 1, none⟩ = some (.int .u64 0) := (blk_cell BK551.out 1).trans rfl; have hcz122_2 : w116.cell? ⟨gb551, 2, none⟩ = some (.int .u64 0) := (blk_cell BK551.out 2).trans rfl; have hcz122_3 : w116.cell? ⟨gb551, 3, none⟩ = some (.bool false) := (blk_cell BK551.out 3).trans rfl; have hcz122_4 : w116.cell? ⟨gb551, 4, none⟩ = some (.string (⟨#[]⟩ : ByteArray)) := (blk_cell BK551.out 4).trans rfl; have hfz122_0 := blk_frozen BK551.out 0; have hfz122_1 := blk_frozen BK551.out 1; have hfz122_2 := blk_frozen BK551.out 2; have hfz122_3 := blk_frozen BK551.out 3; have hfz122_4 := blk_frozen BK551.out 4))
                              go_ret
                              exact ⟨by first | rfl | (simp [errW_none, errW_some] <;> rfl) | (simp [*, errW_none, errW_some] <;> rfl), by repeat (first | (with_reducible first | exact HB.out | apply below_alloc | apply pw_below_drewN | apply below_drew1 | refine below_set ?_ GE521.out | refine below_set ?_ GE522.out | refine below_set ?_ GE530.out | refine below_set ?_ GE537.out | refine below_set ?_ GE544.out | refine below_set ?_ GE551.out) | exact HB.out)⟩
                        · rw [if_neg c62] at H
                          exact absurd H (by simp)
                      · rw [if_neg c60] at H
                        have c60b0 : (t529 == 0) = false := beq_eq_false_iff_ne.mpr c60
                        have c60b1 : (t529 != 0) = true := bne_iff_ne.mpr c60
                        replace H := Option.bind_eq_some_iff.mp H
                        obtain ⟨⟨t552, t553, t554, t555, t556, t557⟩, A1230, H⟩ := H
                        replace H : ((fold_Unary.f kj44 (⟨#[45]⟩ : ByteArray) t552 t553 t554 t555 t556).bind fun bt559 => (if t557 = 0 then (if bt559.2.2.2.2.2 = 0 then (some (bt559.2.1 == a0_1 && (bt559.2.2.1 == a0_2))) else (none)) else (some true))) = some r := H
                        have A123 := Aside0.mk A1230
                        clear A1230
                        replace H := Option.bind_eq_some_iff.mp H
                        obtain ⟨⟨t559, t560, t561, t562, t563, t564⟩, A1240, H⟩ := H
                        replace H : (if t557 = 0 then (if t564 = 0 then (some (t560 == a0_1 && (t561 == a0_2))) else (none)) else (some true)) = some r := H
                        have A124 := Aside0.mk A1240
                        clear A1240
                        by_cases c125 : t557 = 0
                        · rw [if_pos c125] at H
                          have c125b0 : (t557 == 0) = true := beq_iff_eq.mpr c125
                          have c125b1 : (t557 != 0) = false := bne_eq_false_iff_eq.mpr c125
                          clear c125
                          by_cases c126 : t564 = 0
                          · rw [if_pos c126] at H
                            have c126b0 : (t564 == 0) = true := beq_iff_eq.mpr c126
                            have c126b1 : (t564 != 0) = false := bne_eq_false_iff_eq.mpr c126
                            clear c126
                            obtain rfl := Option.some.inj H
                            have hnb127 := NB521_522.out
                            have hnc127 := NB522_521.out
                            have hnb128 := NB521_530.out
                            have hnc128 := NB530_521.out
                            have hcz129_0 : wc.cell? ⟨gb521, 0, none⟩ = some (.int .i64 a0_0) := (blk_cell BK521.out 0).trans rfl
                            have hcz129_1 : wc.cell? ⟨gb521, 1, none⟩ = some (.int .u64 a0_1) := (blk_cell BK521.out 1).trans rfl
                            have hcz129_2 : wc.cell? ⟨gb521, 2, none⟩ = some (.int .u64 a0_2) := (blk_cell BK521.out 2).trans rfl
                            have hcz129_3 : wc.cell? ⟨gb521, 3, none⟩ = some (.bool a0_3) := (blk_cell BK521.out 3).trans rfl
                            have hcz129_4 : wc.cell? ⟨gb521, 4, none⟩ = some (.string a0_4) := (blk_cell BK521.out 4).trans rfl
                            have hfz129_0 := blk_frozen BK521.out 0
                            have hfz129_1 := blk_frozen BK521.out 1
                            have hfz129_2 := blk_frozen BK521.out 2
                            have hfz129_3 := blk_frozen BK521.out 3
                            have hfz129_4 := blk_frozen BK521.out 4
                            go_wp2_with (first | ((with_reducible refine gate_callee (f := 12) rfl ?_); refine goesL_ (some 90) rfl rfl Try.func12 (by kernel_rfl) rfl #[.string (⟨#[45]⟩ : ByteArray), .agg #[.int .i64 a0_0, .int .u64 a0_1, .int .u64 a0_2, .bool a0_3, .string a0_4]] rfl (by (try simp only [List.map_toArray, List.map_cons, List.map_nil]); first | done | rfl | (simp only [List.length_drop, List.length_take]; rfl) | (go_simp; simp only [u8_w, w64_u8]; done) | (go_simp; simp only [u8_w, w64_u8]; rfl)) ?_; (with_reducible refine (fold_Unary.calls kj44 (⟨#[45]⟩ : ByteArray) a0_0 a0_1 a0_2 a0_3 a0_4 t552 t553 t554 t555 t556 t557 _ A123.out).mono ?_); rintro e w130 ⟨rfl, hb⟩; refine ⟨_, rfl, ?_⟩; have n0_ := blkB BK521 hb; have n1_ := blkB BK522 hb; have n2_ := blkB BK530 hb; have n3_ := Aside0.mk (below_step (bL HB) hb); clear BK521 BK522 BK530 HB; have BK521 := n0_; have BK522 := n1_; have BK530 := n2_; have HB := n3_; clear n0_ n1_ n2_ n3_; (try clear hb); (try clear hb2); (try clear hk); (try clear hi)) | ((with_reducible refine gate_dst (N := 9) rfl ?_); (try (refine gate_guard (by rfl) ?_; dsimp only)); refine box_event ?hg (N := 9) ?hd (cs := #[.int .i64 0, .int .u64 0, .int .u64 0, .bool false, .string (⟨#[]⟩ : ByteArray)]) (t := 28) ?hr ?_; (case hd => rfl); (case hg => rfl); (case hr => first | (go_simp; done) | (go_simp; rfl)); intro gb558 hg w131 hbox hb; have n0_ := blkB BK521 hb; have n1_ := blkB BK522 hb; have n2_ := blkB BK530 hb; have n3_ := Aside0.mk (below_step (bL HB) hb); have n4_ := Aside0.mk (hbox); have n5_ := Aside0.mk ((by rw [hg]; exact (below_size (bL HB)) : w.heap.size ≤ gb558)); have n6_ := Aside0.mk ((by rw [hg]; exact (below_size (bL HB)) : w.heap.size ≤ gb558)); have n7_ := blkL BK521 hg; have n8_ := blkG BK521 hg; have n9_ := blkL BK522 hg; have n10_ := blkG BK522 hg; have n11_ := blkL BK530 hg; have n12_ := blkG BK530 hg; clear BK521 BK522 BK530 HB; have BK521 := n0_; have BK522 := n1_; have BK530 := n2_; have HB := n3_; have BK558 := n4_; have GW558 := n5_; have GE558 := n6_; have NB521_558 := n7_; have NB558_521 := n8_; have NB522_558 := n9_; have NB558_522 := n10_; have NB530_558 := n11_; have NB558_530 := n12_; clear n0_ n1_ n2_ n3_ n4_ n5_ n6_ n7_ n8_ n9_ n10_ n11_ n12_; clear hb hbox hg; have hnb132 := NB558_521.out; have hnc132 := NB521_558.out; have hnb133 := NB558_522.out; have hnc133 := NB522_558.out; have hnb134 := NB558_530.out; have hnc134 := NB530_558.out; have hcz135_0 : w131.cell? ⟨gb558, 0, none⟩ = some (.int .i64 0) := (blk_cell BK558.out 0).trans rfl; have hcz135_1 : w131.cell? ⟨gb558, 1, none⟩ = some (.int .u64 0) := (blk_cell BK558.out 1).trans rfl; have hcz135_2 : w131.cell? ⟨gb558, 2, none⟩ = some (.int .u64 0) := (blk_cell BK558.out 2).trans rfl; have hcz135_3 : w131.cell? ⟨gb558, 3, none⟩ = some (.bool false) := (blk_cell BK558.out 3).trans rfl; have hcz135_4 : w131.cell? ⟨gb558, 4, none⟩ = some (.string (⟨#[]⟩ : ByteArray)) := (blk_cell BK558.out 4).trans rfl; have hfz135_0 := blk_frozen BK558.out 0; have hfz135_1 := blk_frozen BK558.out 1; have hfz135_2 := blk_frozen BK558.out 2; have hfz135_3 := blk_frozen BK558.out 3; have hfz135_4 := blk_frozen BK558.out 4) | ((with_reducible refine gate_callee (f := 12) rfl ?_); refine goesL_ (some 95) rfl rfl Try.func12 (by kernel_rfl) rfl #[.string (⟨#[45]⟩ : ByteArray), .agg #[.int .i64 t552, .int .u64 t553, .int .u64 t554, .bool t555, .string t556]] rfl (by (try simp only [List.map_toArray, List.map_cons, List.map_nil]); first | done | rfl | (simp only [List.length_drop, List.length_take]; rfl) | (go_simp; simp only [u8_w, w64_u8]; done) | (go_simp; simp only [u8_w, w64_u8]; rfl)) ?_; (with_reducible refine (fold_Unary.calls kj44 (⟨#[45]⟩ : ByteArray) t552 t553 t554 t555 t556 t559 t560 t561 t562 t563 t564 _ A124.out).mono ?_); rintro e w136 ⟨rfl, hb⟩; refine ⟨_, rfl, ?_⟩; have n0_ := Aside0.mk (blk_below (g := gb521) (o := .cells #[.int .i64 a0_0, .int .u64 a0_1, .int .u64 a0_2, .bool a0_3, .string a0_4] 28 (0, 0)) (bF BK521) hb); have n1_ := Aside0.mk (blk_below (g := gb522) (o := .cells #[.int .i64 a1_0, .int .u64 a1_1, .int .u64 a1_2, .bool a1_3, .string a1_4] 28 (0, 0)) (bF BK522) hb); have n2_ := Aside0.mk (blk_below (g := gb530) (o := .cells #[.int .i64 t524, .int .u64 t525, .int .u64 t526, .bool t527, .string t528] 28 (0, 0)) (bF BK530) hb); have n3_ := Aside0.mk (blk_below (g := gb558) (o := .cells #[.int .i64 t552, .int .u64 t553, .int .u64 t554, .bool t555, .string t556] 28 (0, 0)) (by (with_reducible repeat (first | refine blk_drewN ?_ _ | refine blk_drew ?_ | refine blk_alloc ?_ _)); refine blk_put (cs := #[.int .i64 t552, .int .u64 t553, .int .u64 t554, .bool t555, .string (⟨#[]⟩ : ByteArray)]) ?_ 4 _ rfl; (with_reducible repeat (first | refine blk_drewN ?_ _ | refine blk_drew ?_ | refine blk_alloc ?_ _)); refine blk_put (cs := #[.int .i64 t552, .int .u64 t553, .int .u64 t554, .bool false, .string (⟨#[]⟩ : ByteArray)]) ?_ 3 _ rfl; (with_reducible repeat (first | refine blk_drewN ?_ _ | refine blk_drew ?_ | refine blk_alloc ?_ _)); refine blk_put (cs := #[.int .i64 t552, .int .u64 t553, .int .u64 0, .bool false, .string (⟨#[]⟩ : ByteArray)]) ?_ 2 _ rfl; (with_reducible repeat (first | refine blk_drewN ?_ _ | refine blk_drew ?_ | refine blk_alloc ?_ _)); refine blk_put (cs := #[.int .i64 t552, .int .u64 0, .int .u64 0, .bool false, .string (⟨#[]⟩ : ByteArray)]) ?_ 1 _ rfl; (with_reducible repeat (first | refine blk_drewN ?_ _ | refine blk_drew ?_ | refine blk_alloc ?_ _)); refine blk_put (cs := #[.int .i64 0, .int .u64 0, .int .u64 0, .bool false, .string (⟨#[]⟩ : ByteArray)]) ?_ 0 _ rfl; (with_reducible repeat (first | refine blk_drewN ?_ _ | refine blk_drew ?_ | refine blk_alloc ?_ _)); exact BK558.out) hb); have n4_ := Aside0.mk (below_step (bL HB) hb); clear BK521 BK522 BK530 BK558 HB; have BK521 := n0_; have BK522 := n1_; have BK530 := n2_; have BK558 := n3_; have HB := n4_; clear n0_ n1_ n2_ n3_ n4_; (try clear hb); (try clear hb2); (try clear hk); (try clear hi)) | ((with_reducible refine gate_dst (N := 11) rfl ?_); (try (refine gate_guard (by rfl) ?_; dsimp only)); refine box_event ?hg (N := 11) ?hd (cs := #[.int .i64 0, .int .u64 0, .int .u64 0, .bool false, .string (⟨#[]⟩ : ByteArray)]) (t := 28) ?hr ?_; (case hd => rfl); (case hg => rfl); (case hr => first | (go_simp; done) | (go_simp; rfl)); intro gb565 hg w137 hbox hb; have n0_ := blkB BK521 hb; have n1_ := blkB BK522 hb; have n2_ := blkB BK530 hb; have n3_ := blkB BK558 hb; have n4_ := Aside0.mk (below_step (bL HB) hb); have n5_ := Aside0.mk (hbox); have n6_ := Aside0.mk ((by rw [hg]; exact (below_size (bL HB)) : w.heap.size ≤ gb565)); have n7_ := Aside0.mk ((by rw [hg]; exact (below_size (bL HB)) : w.heap.size ≤ gb565)); have n8_ := blkL BK521 hg; have n9_ := blkG BK521 hg; have n10_ := blkL BK522 hg; have n11_ := blkG BK522 hg; have n12_ := blkL BK530 hg; have n13_ := blkG BK530 hg; have n14_ := blkL BK558 hg; have n15_ := blkG BK558 hg; clear BK521 BK522 BK530 BK558 HB; have BK521 := n0_; have BK522 := n1_; have BK530 := n2_; have BK558 := n3_; have HB := n4_; have BK565 := n5_; have GW565 := n6_; have GE565 := n7_; have NB521_565 := n8_; have NB565_521 := n9_; have NB522_565 := n10_; have NB565_522 := n11_; have NB530_565 := n12_; have NB565_530 := n13_; have NB558_565 := n14_; have NB565_558 := n15_; clear n0_ n1_ n2_ n3_ n4_ n5_ n6_ n7_ n8_ n9_ n10_ n11_ n12_ n13_ n14_ n15_; clear hb hbox hg; have hnb138 := NB565_521.out; have hnc138 := NB521_565.out; have hnb139 := NB565_522.out; have hnc139 := NB522_565.out; have hnb140 := NB565_530.out; have hnc140 := NB530_565.out; have hnb141 := NB565_558.out; have hnc141 := NB558_565.out; have hcz142_0 : w137.cell? ⟨gb565, 0, none⟩ = some (.int .i64 0) := (blk_cell BK565.out 0).trans rfl; have hcz142_1 : w137.cell? ⟨gb565, 1, none⟩ = some (.int .u64 0) := (blk_cell BK565.out 1).trans rfl; have hcz142_2 : w137.cell? ⟨gb565, 2, none⟩ = some (.int .u64 0) := (blk_cell BK565.out 2).trans rfl; have hcz142_3 : w137.cell? ⟨gb565, 3, none⟩ = some (.bool false) := (blk_cell BK565.out 3).trans rfl; have hcz142_4 : w137.cell? ⟨gb565, 4, none⟩ = some (.string (⟨#[]⟩ : ByteArray)) := (blk_cell BK565.out 4).trans rfl; have hfz142_0 := blk_frozen BK565.out 0; have hfz142_1 := blk_frozen BK565.out 1; have hfz142_2 := blk_frozen BK565.out 2; have hfz142_3 := blk_frozen BK565.out 3; have hfz142_4 := blk_frozen BK565.out 4; have hcz143_0 : w137.cell? ⟨gb521, 0, none⟩ = some (.int .i64 a0_0) := (blk_cell BK521.out 0).trans rfl; have hcz143_1 : w137.cell? ⟨gb521, 1, none⟩ = some (.int .u64 a0_1) := (blk_cell BK521.out 1).trans rfl; have hcz143_2 : w137.cell? ⟨gb521, 2, none⟩ = some (.int .u64 a0_2) := (blk_cell BK521.out 2).trans rfl; have hcz143_3 : w137.cell? ⟨gb521, 3, none⟩ = some (.bool a0_3) := (blk_cell BK521.out 3).trans rfl; have hcz143_4 : w137.cell? ⟨gb521, 4, none⟩ = some (.string a0_4) := (blk_cell BK521.out 4).trans rfl; have hfz143_0 := blk_frozen BK521.out 0; have hfz143_1 := blk_frozen BK521.out 1; have hfz143_2 := blk_frozen BK521.out 2; have hfz143_3 := blk_frozen BK521.out 3; have hfz143_4 := blk_frozen BK521.out 4))
                            go_ret
                            exact ⟨by first | rfl | (simp [errW_none, errW_some] <;> rfl) | (simp [*, errW_none, errW_some] <;> rfl), by repeat (first | (with_reducible first | exact HB.out | apply below_alloc | apply pw_below_drewN | apply below_drew1 | refine below_set ?_ GE521.out | refine below_set ?_ GE522.out | refine below_set ?_ GE530.out | refine below_set ?_ GE558.out | refine below_set ?_ GE565.out) | exact HB.out)⟩
                          · rw [if_neg c126] at H
                            exact absurd H (by simp)
                        · rw [if_neg c125] at H
                          have c125b0 : (t557 == 0) = false := beq_eq_false_iff_ne.mpr c125
                          have c125b1 : (t557 != 0) = true := bne_iff_ne.mpr c125
                          obtain rfl := Option.some.inj H
                          have hnb144 := NB521_522.out
                          have hnc144 := NB522_521.out
                          have hnb145 := NB521_530.out
                          have hnc145 := NB530_521.out
                          have hcz146_0 : wc.cell? ⟨gb521, 0, none⟩ = some (.int .i64 a0_0) := (blk_cell BK521.out 0).trans rfl
                          have hcz146_1 : wc.cell? ⟨gb521, 1, none⟩ = some (.int .u64 a0_1) := (blk_cell BK521.out 1).trans rfl
                          have hcz146_2 : wc.cell? ⟨gb521, 2, none⟩ = some (.int .u64 a0_2) := (blk_cell BK521.out 2).trans rfl
                          have hcz146_3 : wc.cell? ⟨gb521, 3, none⟩ = some (.bool a0_3) := (blk_cell BK521.out 3).trans rfl
                          have hcz146_4 : wc.cell? ⟨gb521, 4, none⟩ = some (.string a0_4) := (blk_cell BK521.out 4).trans rfl
                          have hfz146_0 := blk_frozen BK521.out 0
                          have hfz146_1 := blk_frozen BK521.out 1
                          have hfz146_2 := blk_frozen BK521.out 2
                          have hfz146_3 := blk_frozen BK521.out 3
                          have hfz146_4 := blk_frozen BK521.out 4
                          go_wp2_with (first | ((with_reducible refine gate_callee (f := 12) rfl ?_); refine goesL_ (some 90) rfl rfl Try.func12 (by kernel_rfl) rfl #[.string (⟨#[45]⟩ : ByteArray), .agg #[.int .i64 a0_0, .int .u64 a0_1, .int .u64 a0_2, .bool a0_3, .string a0_4]] rfl (by (try simp only [List.map_toArray, List.map_cons, List.map_nil]); first | done | rfl | (simp only [List.length_drop, List.length_take]; rfl) | (go_simp; simp only [u8_w, w64_u8]; done) | (go_simp; simp only [u8_w, w64_u8]; rfl)) ?_; (with_reducible refine (fold_Unary.calls kj44 (⟨#[45]⟩ : ByteArray) a0_0 a0_1 a0_2 a0_3 a0_4 t552 t553 t554 t555 t556 t557 _ A123.out).mono ?_); rintro e w147 ⟨rfl, hb⟩; refine ⟨_, rfl, ?_⟩; have n0_ := blkB BK521 hb; have n1_ := blkB BK522 hb; have n2_ := blkB BK530 hb; have n3_ := Aside0.mk (below_step (bL HB) hb); clear BK521 BK522 BK530 HB; have BK521 := n0_; have BK522 := n1_; have BK530 := n2_; have HB := n3_; clear n0_ n1_ n2_ n3_; (try clear hb); (try clear hb2); (try clear hk); (try clear hi)) | ((with_reducible refine gate_dst (N := 9) rfl ?_); (try (refine gate_guard (by rfl) ?_; dsimp only)); refine box_event ?hg (N := 9) ?hd (cs := #[.int .i64 0, .int .u64 0, .int .u64 0, .bool false, .string (⟨#[]⟩ : ByteArray)]) (t := 28) ?hr ?_; (case hd => rfl); (case hg => rfl); (case hr => first | (go_simp; done) | (go_simp; rfl)); intro gb558 hg w148 hbox hb; have n0_ := blkB BK521 hb; have n1_ := blkB BK522 hb; have n2_ := blkB BK530 hb; have n3_ := Aside0.mk (below_step (bL HB) hb); have n4_ := Aside0.mk (hbox); have n5_ := Aside0.mk ((by rw [hg]; exact (below_size (bL HB)) : w.heap.size ≤ gb558)); have n6_ := Aside0.mk ((by rw [hg]; exact (below_size (bL HB)) : w.heap.size ≤ gb558)); have n7_ := blkL BK521 hg; have n8_ := blkG BK521 hg; have n9_ := blkL BK522 hg; have n10_ := blkG BK522 hg; have n11_ := blkL BK530 hg; have n12_ := blkG BK530 hg; clear BK521 BK522 BK530 HB; have BK521 := n0_; have BK522 := n1_; have BK530 := n2_; have HB := n3_; have BK558 := n4_; have GW558 := n5_; have GE558 := n6_; have NB521_558 := n7_; have NB558_521 := n8_; have NB522_558 := n9_; have NB558_522 := n10_; have NB530_558 := n11_; have NB558_530 := n12_; clear n0_ n1_ n2_ n3_ n4_ n5_ n6_ n7_ n8_ n9_ n10_ n11_ n12_; clear hb hbox hg; have hnb149 := NB558_521.out; have hnc149 := NB521_558.out; have hnb150 := NB558_522.out; have hnc150 := NB522_558.out; have hnb151 := NB558_530.out; have hnc151 := NB530_558.out; have hcz152_0 : w148.cell? ⟨gb558, 0, none⟩ = some (.int .i64 0) := (blk_cell BK558.out 0).trans rfl; have hcz152_1 : w148.cell? ⟨gb558, 1, none⟩ = some (.int .u64 0) := (blk_cell BK558.out 1).trans rfl; have hcz152_2 : w148.cell? ⟨gb558, 2, none⟩ = some (.int .u64 0) := (blk_cell BK558.out 2).trans rfl; have hcz152_3 : w148.cell? ⟨gb558, 3, none⟩ = some (.bool false) := (blk_cell BK558.out 3).trans rfl; have hcz152_4 : w148.cell? ⟨gb558, 4, none⟩ = some (.string (⟨#[]⟩ : ByteArray)) := (blk_cell BK558.out 4).trans rfl; have hfz152_0 := blk_frozen BK558.out 0; have hfz152_1 := blk_frozen BK558.out 1; have hfz152_2 := blk_frozen BK558.out 2; have hfz152_3 := blk_frozen BK558.out 3; have hfz152_4 := blk_frozen BK558.out 4) | ((with_reducible refine gate_callee (f := 12) rfl ?_); refine goesL_ (some 95) rfl rfl Try.func12 (by kernel_rfl) rfl #[.string (⟨#[45]⟩ : ByteArray), .agg #[.int .i64 t552, .int .u64 t553, .int .u64 t554, .bool t555, .string t556]] rfl (by (try simp only [List.map_toArray, List.map_cons, List.map_nil]); first | done | rfl | (simp only [List.length_drop, List.length_take]; rfl) | (go_simp; simp only [u8_w, w64_u8]; done) | (go_simp; simp only [u8_w, w64_u8]; rfl)) ?_; (with_reducible refine (fold_Unary.calls kj44 (⟨#[45]⟩ : ByteArray) t552 t553 t554 t555 t556 t559 t560 t561 t562 t563 t564 _ A124.out).mono ?_); rintro e w153 ⟨rfl, hb⟩; refine ⟨_, rfl, ?_⟩; have n0_ := Aside0.mk (blk_below (g := gb521) (o := .cells #[.int .i64 a0_0, .int .u64 a0_1, .int .u64 a0_2, .bool a0_3, .string a0_4] 28 (0, 0)) (bF BK521) hb); have n1_ := Aside0.mk (blk_below (g := gb522) (o := .cells #[.int .i64 a1_0, .int .u64 a1_1, .int .u64 a1_2, .bool a1_3, .string a1_4] 28 (0, 0)) (bF BK522) hb); have n2_ := Aside0.mk (blk_below (g := gb530) (o := .cells #[.int .i64 t524, .int .u64 t525, .int .u64 t526, .bool t527, .string t528] 28 (0, 0)) (bF BK530) hb); have n3_ := Aside0.mk (blk_below (g := gb558) (o := .cells #[.int .i64 t552, .int .u64 t553, .int .u64 t554, .bool t555, .string t556] 28 (0, 0)) (by (with_reducible repeat (first | refine blk_drewN ?_ _ | refine blk_drew ?_ | refine blk_alloc ?_ _)); refine blk_put (cs := #[.int .i64 t552, .int .u64 t553, .int .u64 t554, .bool t555, .string (⟨#[]⟩ : ByteArray)]) ?_ 4 _ rfl; (with_reducible repeat (first | refine blk_drewN ?_ _ | refine blk_drew ?_ | refine blk_alloc ?_ _)); refine blk_put (cs := #[.int .i64 t552, .int .u64 t553, .int .u64 t554, .bool false, .string (⟨#[]⟩ : ByteArray)]) ?_ 3 _ rfl; (with_reducible repeat (first | refine blk_drewN ?_ _ | refine blk_drew ?_ | refine blk_alloc ?_ _)); refine blk_put (cs := #[.int .i64 t552, .int .u64 t553, .int .u64 0, .bool false, .string (⟨#[]⟩ : ByteArray)]) ?_ 2 _ rfl; (with_reducible repeat (first | refine blk_drewN ?_ _ | refine blk_drew ?_ | refine blk_alloc ?_ _)); refine blk_put (cs := #[.int .i64 t552, .int .u64 0, .int .u64 0, .bool false, .string (⟨#[]⟩ : ByteArray)]) ?_ 1 _ rfl; (with_reducible repeat (first | refine blk_drewN ?_ _ | refine blk_drew ?_ | refine blk_alloc ?_ _)); refine blk_put (cs := #[.int .i64 0, .int .u64 0, .int .u64 0, .bool false, .string (⟨#[]⟩ : ByteArray)]) ?_ 0 _ rfl; (with_reducible repeat (first | refine blk_drewN ?_ _ | refine blk_drew ?_ | refine blk_alloc ?_ _)); exact BK558.out) hb); have n4_ := Aside0.mk (below_step (bL HB) hb); clear BK521 BK522 BK530 BK558 HB; have BK521 := n0_; have BK522 := n1_; have BK530 := n2_; have BK558 := n3_; have HB := n4_; clear n0_ n1_ n2_ n3_ n4_; (try clear hb); (try clear hb2); (try clear hk); (try clear hi)) | ((with_reducible refine gate_dst (N := 11) rfl ?_); (try (refine gate_guard (by rfl) ?_; dsimp only)); refine box_event ?hg (N := 11) ?hd (cs := #[.int .i64 0, .int .u64 0, .int .u64 0, .bool false, .string (⟨#[]⟩ : ByteArray)]) (t := 28) ?hr ?_; (case hd => rfl); (case hg => rfl); (case hr => first | (go_simp; done) | (go_simp; rfl)); intro gb565 hg w154 hbox hb; have n0_ := blkB BK521 hb; have n1_ := blkB BK522 hb; have n2_ := blkB BK530 hb; have n3_ := blkB BK558 hb; have n4_ := Aside0.mk (below_step (bL HB) hb); have n5_ := Aside0.mk (hbox); have n6_ := Aside0.mk ((by rw [hg]; exact (below_size (bL HB)) : w.heap.size ≤ gb565)); have n7_ := Aside0.mk ((by rw [hg]; exact (below_size (bL HB)) : w.heap.size ≤ gb565)); have n8_ := blkL BK521 hg; have n9_ := blkG BK521 hg; have n10_ := blkL BK522 hg; have n11_ := blkG BK522 hg; have n12_ := blkL BK530 hg; have n13_ := blkG BK530 hg; have n14_ := blkL BK558 hg; have n15_ := blkG BK558 hg; clear BK521 BK522 BK530 BK558 HB; have BK521 := n0_; have BK522 := n1_; have BK530 := n2_; have BK558 := n3_; have HB := n4_; have BK565 := n5_; have GW565 := n6_; have GE565 := n7_; have NB521_565 := n8_; have NB565_521 := n9_; have NB522_565 := n10_; have NB565_522 := n11_; have NB530_565 := n12_; have NB565_530 := n13_; have NB558_565 := n14_; have NB565_558 := n15_; clear n0_ n1_ n2_ n3_ n4_ n5_ n6_ n7_ n8_ n9_ n10_ n11_ n12_ n13_ n14_ n15_; clear hb hbox hg; have hnb155 := NB565_521.out; have hnc155 := NB521_565.out; have hnb156 := NB565_522.out; have hnc156 := NB522_565.out; have hnb157 := NB565_530.out; have hnc157 := NB530_565.out; have hnb158 := NB565_558.out; have hnc158 := NB558_565.out; have hcz159_0 : w154.cell? ⟨gb565, 0, none⟩ = some (.int .i64 0) := (blk_cell BK565.out 0).trans rfl; have hcz159_1 : w154.cell? ⟨gb565, 1, none⟩ = some (.int .u64 0) := (blk_cell BK565.out 1).trans rfl; have hcz159_2 : w154.cell? ⟨gb565, 2, none⟩ = some (.int .u64 0) := (blk_cell BK565.out 2).trans rfl; have hcz159_3 : w154.cell? ⟨gb565, 3, none⟩ = some (.bool false) := (blk_cell BK565.out 3).trans rfl; have hcz159_4 : w154.cell? ⟨gb565, 4, none⟩ = some (.string (⟨#[]⟩ : ByteArray)) := (blk_cell BK565.out 4).trans rfl; have hfz159_0 := blk_frozen BK565.out 0; have hfz159_1 := blk_frozen BK565.out 1; have hfz159_2 := blk_frozen BK565.out 2; have hfz159_3 := blk_frozen BK565.out 3; have hfz159_4 := blk_frozen BK565.out 4))
                          go_ret
                          exact ⟨by first | rfl | (simp [errW_none, errW_some] <;> rfl) | (simp [*, errW_none, errW_some] <;> rfl), by repeat (first | (with_reducible first | exact HB.out | apply below_alloc | apply pw_below_drewN | apply below_drew1 | refine below_set ?_ GE521.out | refine below_set ?_ GE522.out | refine below_set ?_ GE530.out | refine below_set ?_ GE558.out | refine below_set ?_ GE565.out) | exact HB.out)⟩
  · replace c4 := Bool.eq_false_iff.mpr c4
    subst c4
    have H1 : (none) = some r := by rw [if_neg (show ¬ (false = true) by decide)] at H; exact H
    clear H
    have H := H1
    clear H1
    exact absurd H (by simp)

end Go.Proofs.Ytekndmlcmepekaa.Q
