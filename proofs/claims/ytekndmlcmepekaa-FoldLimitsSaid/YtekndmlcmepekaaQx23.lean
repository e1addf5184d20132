/- Functions of the program as Lean functions, and their walks: printed by print.py as this session changed it (mkprint.py). Lean checks it. No condition. -/
import Derived.Test.YtekndmlcmepekaaQx0
import Derived.Test.YtekndmlcmepekaaQx2
import Derived.Test.YtekndmlcmepekaaQx14
import Derived.Test.YtekndmlcmepekaaQx15
import Derived.Test.YtekndmlcmepekaaQx18
namespace Go.Proofs.Ytekndmlcmepekaa.Q
open Go.RowKit Go.Proofs.YtekndmlcmepekaaW.PrintWords Go.Proofs.YtekndmlcmepekaaW.PrintLast Go.Proofs.YtekndmlcmepekaaW.PrintMore
attribute [local go_sem] max2_int min2_int max_two min_two max_three min_three max_four min_four   -- for this text's walks alone
attribute [local go_sem] Instr.field asAgg
set_option linter.unusedVariables false
set_option linter.unusedSimpArgs false

attribute [local go_sem high] eqA28
/-! ### lorgnettelaw08_FoldLimits: function 3 -/
def lorgnettelaw08_FoldLimits.l0 : Nat → ByteArray → ByteArray → ByteArray → Int → Int → Int → Option (Bool)
  | 0, _, _, _, _, _, _ => none
  | k + 1, x5, x6, x7, x8, x9, x10 => if x10 ≤ 65536 then (if (Go.bits .and .i64 x8 x10) = 0 then (if (Go.bits .and .i64 x9 x10) = 0 then (if x7.size + x7.size ≤ 9223372036854775807 then (lorgnettelaw08_FoldLimits.l0 k x5 x6 (x7 ++ x7) x8 x9 (wrap64 (x10 * 2))) else (none)) else (if x6.size + x7.size ≤ 9223372036854775807 then (if x7.size + x7.size ≤ 9223372036854775807 then (lorgnettelaw08_FoldLimits.l0 k x5 (x6 ++ x7) (x7 ++ x7) x8 x9 (wrap64 (x10 * 2))) else (none)) else (none))) else (if x5.size + x7.size ≤ 9223372036854775807 then (if (Go.bits .and .i64 x9 x10) = 0 then (if x7.size + x7.size ≤ 9223372036854775807 then (lorgnettelaw08_FoldLimits.l0 k (x5 ++ x7) x6 (x7 ++ x7) x8 x9 (wrap64 (x10 * 2))) else (none)) else (if x6.size + x7.size ≤ 9223372036854775807 then (if x7.size + x7.size ≤ 9223372036854775807 then (lorgnettelaw08_FoldLimits.l0 k (x5 ++ x7) (x6 ++ x7) (x7 ++ x7) x8 x9 (wrap64 (x10 * 2))) else (none)) else (none))) else (none))) else ((fold_Text.f x5).bind fun bt567 => ((fold_Text.f x6).bind fun bt572 => ((fold_Binary.f k (⟨#[43]⟩ : ByteArray) bt567.1 bt567.2.1 bt567.2.2.1 bt567.2.2.2.1 bt567.2.2.2.2 bt572.1 bt572.2.1 bt572.2.2.1 bt572.2.2.2.1 bt572.2.2.2.2).bind fun bt577 => (if (wrap64 (x8 + x9)) > 65536 then (if (bt577.1 == 0 && ((bt577.2.1 == 0 && (bt577.2.2.1 == 0)) && (!bt577.2.2.2.1 && (bt577.2.2.2.2.1.toList == ([] : List UInt8))))) = true then (some (bt577.2.2.2.2.2 == 10)) else (none)) else (if bt577.2.2.2.2.2 = 0 then (some ((bt577.2.2.2.2.1.size : Int) == (wrap64 (x8 + x9)))) else (none))))))
def lorgnettelaw08_FoldLimits.f (k : Nat) (a0 : Int) (a1 : Int) : Option (Bool) := (lorgnettelaw08_awake.f k).bind fun t566 => (if t566 = true then (lorgnettelaw08_FoldLimits.l0 k (⟨#[]⟩ : ByteArray) (⟨#[]⟩ : ByteArray) (⟨#[120]⟩ : ByteArray) (wrap64 (Int.tmod (IntKind.u64.wrap (a0)) 65538)) (wrap64 (Int.tmod (IntKind.u64.wrap (a1)) 65538)) 1) else (none))
theorem lorgnettelaw08_FoldLimits.mono_l : ∀ k, (∀ y0 y1 y2 y3 y4 y5, LeO (lorgnettelaw08_FoldLimits.l0 k y0 y1 y2 y3 y4 y5) (lorgnettelaw08_FoldLimits.l0 (k + 1) y0 y1 y2 y3 y4 y5))
  | 0 => fun _ _ _ _ _ _ r h => by simp [lorgnettelaw08_FoldLimits.l0] at h
  | k + 1 => by
    have ih0 := lorgnettelaw08_FoldLimits.mono_l k
    · intro y0 y1 y2 y3 y4 y5
      unfold lorgnettelaw08_FoldLimits.l0
      repeat' first
      | (with_reducible exact ih0 _ _ _ _ _ _)
      | (with_reducible exact fold_Binary.mono _ _ _ _ _ _ _ _ _ _ _ _)
      | (with_reducible exact lorgnettelaw08_awake.mono _)
      | (with_reducible exact LeO.refl _)
      | (with_reducible exact LeO.none _)
      | (with_reducible refine LeO.ite ?_ ?_)
      | (with_reducible refine LeO.bind ?_ (fun _ => ?_))
      | exact ih0 _ _ _ _ _ _
      | exact fold_Binary.mono _ _ _ _ _ _ _ _ _ _ _ _
      | exact lorgnettelaw08_awake.mono _
      | exact LeO.none _
      | refine LeO.ite ?_ ?_
      | refine LeO.bind ?_ (fun _ => ?_)
theorem lorgnettelaw08_FoldLimits.mono : ∀ a0 a1 k, LeO (lorgnettelaw08_FoldLimits.f k a0 a1) (lorgnettelaw08_FoldLimits.f (k + 1) a0 a1) := by
  intro a0 a1 k
  have ih0 := lorgnettelaw08_FoldLimits.mono_l k
  unfold lorgnettelaw08_FoldLimits.f
  repeat' first
      | (with_reducible exact ih0 _ _ _ _ _ _)
      | (with_reducible exact fold_Binary.mono _ _ _ _ _ _ _ _ _ _ _ _)
      | (with_reducible exact lorgnettelaw08_awake.mono _)
      | (with_reducible exact LeO.refl _)
      | (with_reducible exact LeO.none _)
      | (with_reducible refine LeO.ite ?_ ?_)
      | (with_reducible refine LeO.bind ?_ (fun _ => ?_))
      | exact ih0 _ _ _ _ _ _
      | exact fold_Binary.mono _ _ _ _ _ _ _ _ _ _ _ _
      | exact lorgnettelaw08_awake.mono _
      | exact LeO.none _
      | refine LeO.ite ?_ ?_
      | refine LeO.bind ?_ (fun _ => ?_)
set_option maxHeartbeats 8000000 in
set_option maxRecDepth 100000 in
theorem lorgnettelaw08_FoldLimits.calls (k : Nat) (a0 : Int) (a1 : Int) (r : Bool) (w : World) (h : lorgnettelaw08_FoldLimits.f k a0 a1 = some r) :
    Calls Try.prog 3 #[.int .i64 a0, .int .i64 a1] w fun e w' => e = .returned (.bool r) ∧ Below w.heap.size w w' := by
  have hu28 := Try.underlying28
  have HB := Aside0.mk (Below.refl w.heap.size w)
  have H : ((lorgnettelaw08_awake.f k).bind fun t566 => (if t566 = true then (lorgnettelaw08_FoldLimits.l0 k (⟨#[]⟩ : ByteArray) (⟨#[]⟩ : ByteArray) (⟨#[120]⟩ : ByteArray) (wrap64 (Int.tmod (IntKind.u64.wrap (a0)) 65538)) (wrap64 (Int.tmod (IntKind.u64.wrap (a1)) 65538)) 1) else (none))) = some r := h
  clear h
  replace H := Option.bind_eq_some_iff.mp H
  obtain ⟨t566, A30, H⟩ := H
  replace H : (if t566 = true then (lorgnettelaw08_FoldLimits.l0 k (⟨#[]⟩ : ByteArray) (⟨#[]⟩ : ByteArray) (⟨#[120]⟩ : ByteArray) (wrap64 (Int.tmod (IntKind.u64.wrap (a0)) 65538)) (wrap64 (Int.tmod (IntKind.u64.wrap (a1)) 65538)) 1) else (none)) = some r := H
  have A3 := Aside0.mk A30
  clear A30
  by_cases c4 : t566 = true
  · subst c4
    have H1 : (lorgnettelaw08_FoldLimits.l0 k (⟨#[]⟩ : ByteArray) (⟨#[]⟩ : ByteArray) (⟨#[120]⟩ : ByteArray) (wrap64 (Int.tmod (IntKind.u64.wrap (a0)) 65538)) (wrap64 (Int.tmod (IntKind.u64.wrap (a1)) 65538)) 1) = some r := by rw [if_pos rfl] at H; exact H
    clear H
    have H := H1
    clear H1
    have H' := Aside0.mk H
    clear H
    go_enter Try.func3, Try.ntmps3
    go_wp2_with (first | ((with_reducible refine gate_callee (f := 8) rfl ?_); refine goesL_ (some 13) rfl rfl Try.func8 (by kernel_rfl) rfl #[] rfl (by (try simp only [List.map_toArray, List.map_cons, List.map_nil]); first | done | rfl | (simp only [List.length_drop, List.length_take]; rfl) | (go_simp; simp only [u8_w, w64_u8]; done) | (go_simp; simp only [u8_w, w64_u8]; rfl)) ?_; (with_reducible refine (lorgnettelaw08_awake.calls k  true _ A3.out).mono ?_); rintro e w5 ⟨rfl, hb⟩; refine ⟨_, rfl, ?_⟩; have n0_ := Aside0.mk (below_step (bL HB) hb); clear HB; have HB := n0_; clear n0_; (try clear hb); (try clear hb2); (try clear hk); (try clear hi)))
    go_loopg [5, 6, 7, 10] k (fun kq v5 v6 v7 v10 w' => ∃ (x5_1 : ByteArray) (x6_1 : ByteArray) (x7_1 : ByteArray) (x10_1 : Int), v5 = .string x5_1 ∧ v6 = .string x6_1 ∧ v7 = .string x7_1 ∧ v10 = .int .i64 x10_1 ∧ Aside0 (lorgnettelaw08_FoldLimits.l0 kq x5_1 x6_1 x7_1 (wrap64 (Int.tmod (IntKind.u64.wrap (a0)) 65538)) (wrap64 (Int.tmod (IntKind.u64.wrap (a1)) 65538)) x10_1 = some r) ∧ Aside0 (kq ≤ k) ∧ Aside0 (Below w.heap.size w w'))
    case atStart => exact ⟨((⟨#[]⟩ : ByteArray)), ((⟨#[]⟩ : ByteArray)), ((⟨#[120]⟩ : ByteArray)), (1), (by first | rfl | (simp; done) | (simp [*]; done)), (by first | rfl | (simp; done) | (simp [*]; done)), (by first | rfl | (simp; done) | (simp [*]; done)), (by first | rfl | (simp; done) | (simp [*]; done)), H', ⟨Nat.le_refl _⟩, ⟨by repeat (first | (with_reducible first | exact HB.out | apply below_alloc | apply pw_below_drewN | apply below_drew1) | exact HB.out)⟩⟩
    case round =>
      clear H'
      try clear p2
      try clear c3
      try clear c4
      obtain ⟨x5_1, x6_1, x7_1, x10_1, rfl, rfl, rfl, rfl, HA, HK1, HB⟩ := hrel
      cases gk with
      | zero => exact absurd HA.out (by simp [lorgnettelaw08_FoldLimits.l0])
      | succ k1 =>
        have H := HA.out
        clear HA
        simp only [lorgnettelaw08_FoldLimits.l0] at H
        by_cases c6 : x10_1 ≤ 65536
        · rw [if_pos c6] at H
          have c6b0 : decide (x10_1 ≤ 65536) = true := decide_eq_true c6
          clear c6
          by_cases c7 : (Go.bits .and .i64 (wrap64 (Int.tmod (IntKind.u64.wrap (a0)) 65538)) x10_1) = 0
          · rw [if_pos c7] at H
            have c7b0 : ((Go.bits .and .i64 (wrap64 (Int.tmod (IntKind.u64.wrap (a0)) 65538)) x10_1) == 0) = true := beq_iff_eq.mpr c7
            have c7b1 : ((Go.bits .and .i64 (wrap64 (Int.tmod (IntKind.u64.wrap (a0)) 65538)) x10_1) != 0) = false := bne_eq_false_iff_eq.mpr c7
            clear c7
            by_cases c8 : (Go.bits .and .i64 (wrap64 (Int.tmod (IntKind.u64.wrap (a1)) 65538)) x10_1) = 0
            · rw [if_pos c8] at H
              have c8b0 : ((Go.bits .and .i64 (wrap64 (Int.tmod (IntKind.u64.wrap (a1)) 65538)) x10_1) == 0) = true := beq_iff_eq.mpr c8
              have c8b1 : ((Go.bits .and .i64 (wrap64 (Int.tmod (IntKind.u64.wrap (a1)) 65538)) x10_1) != 0) = false := bne_eq_false_iff_eq.mpr c8
              clear c8
              by_cases c9 : x7_1.size + x7_1.size ≤ 9223372036854775807
              · rw [if_pos c9] at H
                have c9b0 := eq_true c9
                have c9b1 : decide (x7_1.size + x7_1.size ≤ 9223372036854775807) = true := decide_eq_true c9
                try have c9b2 : (9223372036854775807 < x7_1.size + x7_1.size) = False := eq_false (Nat.not_lt.2 c9)
                have H' := Aside0.mk H
                clear H
                go_wp2
                go_roundg k1
                case measure => have := HK1.out; omega
                case rel => exact ⟨(x5_1), (x6_1), (x7_1 ++ x7_1), (wrap64 (x10_1 * 2)), (by first | rfl | (simp; done) | (simp [*]; done)), (by first | rfl | (simp; done) | (simp [*]; done)), (by first | rfl | (simp; done) | (simp [*]; done)), (by first | rfl | (simp; done) | (simp [*]; done)), H', ⟨by have := HK1.out; omega⟩, ⟨by repeat (first | (with_reducible first | exact HB.out | apply below_alloc | apply pw_below_drewN | apply below_drew1) | exact HB.out)⟩⟩
              · rw [if_neg c9] at H
                exact absurd H (by simp)
            · rw [if_neg c8] at H
              have c8b0 : ((Go.bits .and .i64 (wrap64 (Int.tmod (IntKind.u64.wrap (a1)) 65538)) x10_1) == 0) = false := beq_eq_false_iff_ne.mpr c8
              have c8b1 : ((Go.bits .and .i64 (wrap64 (Int.tmod (IntKind.u64.wrap (a1)) 65538)) x10_1) != 0) = true := bne_iff_ne.mpr c8
              by_cases c10 : x6_1.size + x7_1.size ≤ 9223372036854775807
              · rw [if_pos c10] at H
                have c10b0 := eq_true c10
                have c10b1 : decide (x6_1.size + x7_1.size ≤ 9223372036854775807) = true := decide_eq_true c10
                try have c10b2 : (9223372036854775807 < x6_1.size + x7_1.size) = False := eq_false (Nat.not_lt.2 c10)
                by_cases c11 : x7_1.size + x7_1.size ≤ 9223372036854775807
                · rw [if_pos c11] at H
                  have c11b0 := eq_true c11
                  have c11b1 : decide (x7_1.size + x7_1.size ≤ 9223372036854775807) = true := decide_eq_true c11
                  try have c11b2 : (9223372036854775807 < x7_1.size + x7_1.size) = False := eq_false (Nat.not_lt.2 c11)
                  have H' := Aside0.mk H
                  clear H
                  go_wp2
                  go_roundg k1
                  case measure => have := HK1.out; omega
                  case rel => exact ⟨(x5_1), (x6_1 ++ x7_1), (x7_1 ++ x7_1), (wrap64 (x10_1 * 2)), (by first | rfl | (simp; done) | (simp [*]; done)), (by first | rfl | (simp; done) | (simp [*]; done)), (by first | rfl | (simp; done) | (simp [*]; done)), (by first | rfl | (simp; done) | (simp [*]; done)), H', ⟨by have := HK1.out; omega⟩, ⟨by repeat (first | (with_reducible first | exact HB.out | apply below_alloc | apply pw_below_drewN | apply below_drew1) | exact HB.out)⟩⟩
                · rw [if_neg c11] at H
                  exact absurd H (by simp)
              · rw [if_neg c10] at H
                exact absurd H (by simp)
          · rw [if_neg c7] at H
            have c7b0 : ((Go.bits .and .i64 (wrap64 (Int.tmod (IntKind.u64.wrap (a0)) 65538)) x10_1) == 0) = false := beq_eq_false_iff_ne.mpr c7
            have c7b1 : ((Go.bits .and .i64 (wrap64 (Int.tmod (IntKind.u64.wrap (a0)) 65538)) x10_1) != 0) = true := bne_iff_ne.mpr c7
            by_cases c12 : x5_1.size + x7_1.size ≤ 9223372036854775807
            · rw [if_pos c12] at H
              have c12b0 := eq_true c12
              have c12b1 : decide (x5_1.size + x7_1.size ≤ 9223372036854775807) = true := decide_eq_true c12
              try have c12b2 : (9223372036854775807 < x5_1.size + x7_1.size) = False := eq_false (Nat.not_lt.2 c12)
              by_cases c13 : (Go.bits .and .i64 (wrap64 (Int.tmod (IntKind.u64.wrap (a1)) 65538)) x10_1) = 0
              · rw [if_pos c13] at H
                have c13b0 : ((Go.bits .and .i64 (wrap64 (Int.tmod (IntKind.u64.wrap (a1)) 65538)) x10_1) == 0) = true := beq_iff_eq.mpr c13
                have c13b1 : ((Go.bits .and .i64 (wrap64 (Int.tmod (IntKind.u64.wrap (a1)) 65538)) x10_1) != 0) = false := bne_eq_false_iff_eq.mpr c13
                clear c13
                by_cases c14 : x7_1.size + x7_1.size ≤ 9223372036854775807
                · rw [if_pos c14] at H
                  have c14b0 := eq_true c14
                  have c14b1 : decide (x7_1.size + x7_1.size ≤ 9223372036854775807) = true := decide_eq_true c14
                  try have c14b2 : (9223372036854775807 < x7_1.size + x7_1.size) = False := eq_false (Nat.not_lt.2 c14)
                  have H' := Aside0.mk H
                  clear H
                  go_wp2
                  go_roundg k1
                  case measure => have := HK1.out; omega
                  case rel => exact ⟨(x5_1 ++ x7_1), (x6_1), (x7_1 ++ x7_1), (wrap64 (x10_1 * 2)), (by first | rfl | (simp; done) | (simp [*]; done)), (by first | rfl | (simp; done) | (simp [*]; done)), (by first | rfl | (simp; done) | (simp [*]; done)), (by first | rfl | (simp; done) | (simp [*]; done)), H', ⟨by have := HK1.out; omega⟩, ⟨by repeat (first | (with_reducible first | exact HB.out | apply below_alloc | apply pw_below_drewN | apply below_drew1) | exact HB.out)⟩⟩
                · rw [if_neg c14] at H
                  exact absurd H (by simp)
              · rw [if_neg c13] at H
                have c13b0 : ((Go.bits .and .i64 (wrap64 (Int.tmod (IntKind.u64.wrap (a1)) 65538)) x10_1) == 0) = false := beq_eq_false_iff_ne.mpr c13
                have c13b1 : ((Go.bits .and .i64 (wrap64 (Int.tmod (IntKind.u64.wrap (a1)) 65538)) x10_1) != 0) = true := bne_iff_ne.mpr c13
                by_cases c15 : x6_1.size + x7_1.size ≤ 9223372036854775807
                · rw [if_pos c15] at H
                  have c15b0 := eq_true c15
                  have c15b1 : decide (x6_1.size + x7_1.size ≤ 9223372036854775807) = true := decide_eq_true c15
                  try have c15b2 : (9223372036854775807 < x6_1.size + x7_1.size) = False := eq_false (Nat.not_lt.2 c15)
                  by_cases c16 : x7_1.size + x7_1.size ≤ 9223372036854775807
                  · rw [if_pos c16] at H
                    have c16b0 := eq_true c16
                    have c16b1 : decide (x7_1.size + x7_1.size ≤ 9223372036854775807) = true := decide_eq_true c16
                    try have c16b2 : (9223372036854775807 < x7_1.size + x7_1.size) = False := eq_false (Nat.not_lt.2 c16)
                    have H' := Aside0.mk H
                    clear H
                    go_wp2
                    go_roundg k1
                    case measure => have := HK1.out; omega
                    case rel => exact ⟨(x5_1 ++ x7_1), (x6_1 ++ x7_1), (x7_1 ++ x7_1), (wrap64 (x10_1 * 2)), (by first | rfl | (simp; done) | (simp [*]; done)), (by first | rfl | (simp; done) | (simp [*]; done)), (by first | rfl | (simp; done) | (simp [*]; done)), (by first | rfl | (simp; done) | (simp [*]; done)), H', ⟨by have := HK1.out; omega⟩, ⟨by repeat (first | (with_reducible first | exact HB.out | apply below_alloc | apply pw_below_drewN | apply below_drew1) | exact HB.out)⟩⟩
                  · rw [if_neg c16] at H
                    exact absurd H (by simp)
                · rw [if_neg c15] at H
                  exact absurd H (by simp)
            · rw [if_neg c12] at H
              exact absurd H (by simp)
        · rw [if_neg c6] at H
          have c6b0 : decide (x10_1 ≤ 65536) = false := decide_eq_false c6
          clear c6
          replace H := Option.bind_eq_some_iff.mp H
          obtain ⟨⟨t567, t568, t569, t570, t571⟩, A170, H⟩ := H
          replace H : ((fold_Text.f x6_1).bind fun bt572 => ((fold_Binary.f k1 (⟨#[43]⟩ : ByteArray) t567 t568 t569 t570 t571 bt572.1 bt572.2.1 bt572.2.2.1 bt572.2.2.2.1 bt572.2.2.2.2).bind fun bt577 => (if (wrap64 ((wrap64 (Int.tmod (IntKind.u64.wrap (a0)) 65538)) + (wrap64 (Int.tmod (IntKind.u64.wrap (a1)) 65538)))) > 65536 then (if (bt577.1 == 0 && ((bt577.2.1 == 0 && (bt577.2.2.1 == 0)) && (!bt577.2.2.2.1 && (bt577.2.2.2.2.1.toList == ([] : List UInt8))))) = true then (some (bt577.2.2.2.2.2 == 10)) else (none)) else (if bt577.2.2.2.2.2 = 0 then (some ((bt577.2.2.2.2.1.size : Int) == (wrap64 ((wrap64 (Int.tmod (IntKind.u64.wrap (a0)) 65538)) + (wrap64 (Int.tmod (IntKind.u64.wrap (a1)) 65538)))))) else (none))))) = some r := H
          have A17 := Aside0.mk A170
          clear A170
          replace H := Option.bind_eq_some_iff.mp H
          obtain ⟨⟨t572, t573, t574, t575, t576⟩, A180, H⟩ := H
          replace H : ((fold_Binary.f k1 (⟨#[43]⟩ : ByteArray) t567 t568 t569 t570 t571 t572 t573 t574 t575 t576).bind fun bt577 => (if (wrap64 ((wrap64 (Int.tmod (IntKind.u64.wrap (a0)) 65538)) + (wrap64 (Int.tmod (IntKind.u64.wrap (a1)) 65538)))) > 65536 then (if (bt577.1 == 0 && ((bt577.2.1 == 0 && (bt577.2.2.1 == 0)) && (!bt577.2.2.2.1 && (bt577.2.2.2.2.1.toList == ([] : List UInt8))))) = true then (some (bt577.2.2.2.2.2 == 10)) else (none)) else (if bt577.2.2.2.2.2 = 0 then (some ((bt577.2.2.2.2.1.size : Int) == (wrap64 ((wrap64 (Int.tmod (IntKind.u64.wrap (a0)) 65538)) + (wrap64 (Int.tmod (IntKind.u64.wrap (a1)) 65538)))))) else (none)))) = some r := H
          have A18 := Aside0.mk A180
          clear A180
          replace H := Option.bind_eq_some_iff.mp H
          obtain ⟨⟨t577, t578, t579, t580, t581, t582⟩, A190, H⟩ := H
          replace H : (if (wrap64 ((wrap64 (Int.tmod (IntKind.u64.wrap (a0)) 65538)) + (wrap64 (Int.tmod (IntKind.u64.wrap (a1)) 65538)))) > 65536 then (if (t577 == 0 && ((t578 == 0 && (t579 == 0)) && (!t580 && (t581.toList == ([] : List UInt8))))) = true then (some (t582 == 10)) else (none)) else (if t582 = 0 then (some ((t581.size : Int) == (wrap64 ((wrap64 (Int.tmod (IntKind.u64.wrap (a0)) 65538)) + (wrap64 (Int.tmod (IntKind.u64.wrap (a1)) 65538)))))) else (none))) = some r := H
          have A19 := Aside0.mk A190
          clear A190
          by_cases c20 : (wrap64 ((wrap64 (Int.tmod (IntKind.u64.wrap (a0)) 65538)) + (wrap64 (Int.tmod (IntKind.u64.wrap (a1)) 65538)))) > 65536
          · rw [if_pos c20] at H
            have c20b0 : decide (65536 < (wrap64 ((wrap64 (Int.tmod (IntKind.u64.wrap (a0)) 65538)) + (wrap64 (Int.tmod (IntKind.u64.wrap (a1)) 65538))))) = true := decide_eq_true c20
            clear c20
            by_cases c21 : (t577 == 0 && ((t578 == 0 && (t579 == 0)) && (!t580 && (t581.toList == ([] : List UInt8))))) = true
            · rw [if_pos c21] at H
              have c21b0 : (t577 == 0 && ((t578 == 0 && (t579 == 0)) && (!t580 && (t581.toList == ([] : List UInt8))))) = true := c21
              (try (have c21b1 : decide (t577 = 0 && ((t578 == 0 && (t579 == 0)) && (!t580 && (t581.toList == ([] : List UInt8))))) = true := by simpa using c21))
              (try (have c21b2 : (t577 == 0 && ((t578 == 0 && (t579 == 0)) && (!t580 && (t581.toList == ([] : List UInt8))))) = true := by simpa using c21))
              (try (have c21b9 := c21; simp only [Bool.and_eq_true, beq_iff_eq] at c21b9; replace c21b9 := eq_true c21b9))
              clear c21
              obtain rfl := Option.some.inj H
              go_wp2_with (first | ((with_reducible refine gate_callee (f := 10) rfl ?_); refine goesL_ (some 46) rfl rfl Try.func10 (by kernel_rfl) rfl #[.string x5_1] rfl (by (try simp only [List.map_toArray, List.map_cons, List.map_nil]); first | done | rfl | (simp only [List.length_drop, List.length_take]; rfl) | (go_simp; simp only [u8_w, w64_u8]; done) | (go_simp; simp only [u8_w, w64_u8]; rfl)) ?_; (with_reducible refine (fold_Text.calls x5_1 t567 t568 t569 t570 t571 _ A17.out).mono ?_); rintro e w22 ⟨rfl, hb⟩; refine ⟨_, rfl, ?_⟩; have n0_ := Aside0.mk (below_step (bL HB) hb); clear HB; have HB := n0_; clear n0_; (try clear hb); (try clear hb2); (try clear hk); (try clear hi)) | ((with_reducible refine gate_callee (f := 10) rfl ?_); refine goesL_ (some 48) rfl rfl Try.func10 (by kernel_rfl) rfl #[.string x6_1] rfl (by (try simp only [List.map_toArray, List.map_cons, List.map_nil]); first | done | rfl | (simp only [List.length_drop, List.length_take]; rfl) | (go_simp; simp only [u8_w, w64_u8]; done) | (go_simp; simp only [u8_w, w64_u8]; rfl)) ?_; (with_reducible refine (fold_Text.calls x6_1 t572 t573 t574 t575 t576 _ A18.out).mono ?_); rintro e w23 ⟨rfl, hb⟩; refine ⟨_, rfl, ?_⟩; have n0_ := Aside0.mk (below_step (bL HB) hb); clear HB; have HB := n0_; clear n0_; (try clear hb); (try clear hb2); (try clear hk); (try clear hi)) | ((with_reducible refine gate_callee (f := 9) rfl ?_); refine goesL_ (some 49) rfl rfl Try.func9 (by kernel_rfl) rfl #[.string (⟨#[43]⟩ : ByteArray), .agg #[.int .i64 t567, .int .u64 t568, .int .u64 t569, .bool t570, .string t571], .agg #[.int .i64 t572, .int .u64 t573, .int .u64 t574, .bool t575, .string t576]] rfl (by (try simp only [List.map_toArray, List.map_cons, List.map_nil]); first | done | rfl | (simp only [List.length_drop, List.length_take]; rfl) | (go_simp; simp only [u8_w, w64_u8]; done) | (go_simp; simp only [u8_w, w64_u8]; rfl)) ?_; (with_reducible refine (fold_Binary.calls k1 (⟨#[43]⟩ : ByteArray) t567 t568 t569 t570 t571 t572 t573 t574 t575 t576 t577 t578 t579 t580 t581 t582 _ A19.out).mono ?_); rintro e w24 ⟨rfl, hb⟩; refine ⟨_, rfl, ?_⟩; have n0_ := Aside0.mk (below_step (bL HB) hb); clear HB; have HB := n0_; clear n0_; (try clear hb); (try clear hb2); (try clear hk); (try clear hi)) | ((with_reducible refine gate_dst (N := 11) rfl ?_); (try (refine gate_guard (by rfl) ?_; dsimp only)); refine box_event ?hg (N := 11) ?hd (cs := #[.int .i64 0, .int .u64 0, .int .u64 0, .bool false, .string (⟨#[]⟩ : ByteArray)]) (t := 28) ?hr ?_; (case hd => rfl); (case hg => rfl); (case hr => first | (go_simp; done) | (go_simp; rfl)); intro gb583 hg w25 hbox hb; have n0_ := Aside0.mk (below_step (bL HB) hb); have n1_ := Aside0.mk (hbox); have n2_ := Aside0.mk ((by rw [hg]; exact (below_size (bL HB)) : w.heap.size ≤ gb583)); have n3_ := Aside0.mk ((by rw [hg]; exact (below_size (bL HB)) : w.heap.size ≤ gb583)); clear HB; have HB := n0_; have BK583 := n1_; have GW583 := n2_; have GE583 := n3_; clear n0_ n1_ n2_ n3_; clear hb hbox hg; have hcz26_0 : w25.cell? ⟨gb583, 0, none⟩ = some (.int .i64 0) := (blk_cell BK583.out 0).trans rfl; have hcz26_1 : w25.cell? ⟨gb583, 1, none⟩ = some (.int .u64 0) := (blk_cell BK583.out 1).trans rfl; have hcz26_2 : w25.cell? ⟨gb583, 2, none⟩ = some (.int .u64 0) := (blk_cell BK583.out 2).trans rfl; have hcz26_3 : w25.cell? ⟨gb583, 3, none⟩ = some (.bool false) := (blk_cell BK583.out 3).trans rfl; have hcz26_4 : w25.cell? ⟨gb583, 4, none⟩ = some (.string (⟨#[]⟩ : ByteArray)) := (blk_cell BK583.out 4).trans rfl; have hfz26_0 := blk_frozen BK583.out 0; have hfz26_1 := blk_frozen BK583.out 1; have hfz26_2 := blk_frozen BK583.out 2; have hfz26_3 := blk_frozen BK583.out 3; have hfz26_4 := blk_frozen BK583.out 4))
              (try (any_goals (rename_i hx_; first | exact absurd (by simpa using c21b0) hx_)))
              go_ret
              exact ⟨by first | rfl | (simp [errW_none, errW_some] <;> rfl) | (simp [*, errW_none, errW_some] <;> rfl), by repeat (first | (with_reducible first | exact HB.out | apply below_alloc | apply pw_below_drewN | apply below_drew1 | refine below_set ?_ GE583.out) | exact HB.out)⟩
            · rw [if_neg c21] at H
              exact absurd H (by simp)
          · rw [if_neg c20] at H
            have c20b0 : decide (65536 < (wrap64 ((wrap64 (Int.tmod (IntKind.u64.wrap (a0)) 65538)) + (wrap64 (Int.tmod (IntKind.u64.wrap (a1)) 65538))))) = false := decide_eq_false c20
            clear c20
            by_cases c27 : t582 = 0
            · rw [if_pos c27] at H
              have c27b0 : (t582 == 0) = true := beq_iff_eq.mpr c27
              have c27b1 : (t582 != 0) = false := bne_eq_false_iff_eq.mpr c27
              clear c27
              obtain rfl := Option.some.inj H
              go_wp2_with (first | ((with_reducible refine gate_callee (f := 10) rfl ?_); refine goesL_ (some 46) rfl rfl Try.func10 (by kernel_rfl) rfl #[.string x5_1] rfl (by (try simp only [List.map_toArray, List.map_cons, List.map_nil]); first | done | rfl | (simp only [List.length_drop, List.length_take]; rfl) | (go_simp; simp only [u8_w, w64_u8]; done) | (go_simp; simp only [u8_w, w64_u8]; rfl)) ?_; (with_reducible refine (fold_Text.calls x5_1 t567 t568 t569 t570 t571 _ A17.out).mono ?_); rintro e w28 ⟨rfl, hb⟩; refine ⟨_, rfl, ?_⟩; have n0_ := Aside0.mk (below_step (bL HB) hb); clear HB; have HB := n0_; clear n0_; (try clear hb); (try clear hb2); (try clear hk); (try clear hi)) | ((with_reducible refine gate_callee (f := 10) rfl ?_); refine goesL_ (some 48) rfl rfl Try.func10 (by kernel_rfl) rfl #[.string x6_1] rfl (by (try simp only [List.map_toArray, List.map_cons, List.map_nil]); first | done | rfl | (simp only [List.length_drop, List.length_take]; rfl) | (go_simp; simp only [u8_w, w64_u8]; done) | (go_simp; simp only [u8_w, w64_u8]; rfl)) ?_; (with_reducible refine (fold_Text.calls x6_1 t572 t573 t574 t575 t576 _ A18.out).mono ?_); rintro e w29 ⟨rfl, hb⟩; refine ⟨_, rfl, ?_⟩; have n0_ := Aside0.mk (below_step (bL HB) hb); clear HB; have HB := n0_; clear n0_; (try clear hb); (try clear hb2); (try clear hk); (try clear hi)) | ((with_reducible refine gate_callee (f := 9) rfl ?_); refine goesL_ (some 49) rfl rfl Try.func9 (by kernel_rfl) rfl #[.string (⟨#[43]⟩ : ByteArray), .agg #[.int .i64 t567, .int .u64 t568, .int .u64 t569, .bool t570, .string t571], .agg #[.int .i64 t572, .int .u64 t573, .int .u64 t574, .bool t575, .string t576]] rfl (by (try simp only [List.map_toArray, List.map_cons, List.map_nil]); first | done | rfl | (simp only [List.length_drop, List.length_take]; rfl) | (go_simp; simp only [u8_w, w64_u8]; done) | (go_simp; simp only [u8_w, w64_u8]; rfl)) ?_; (with_reducible refine (fold_Binary.calls k1 (⟨#[43]⟩ : ByteArray) t567 t568 t569 t570 t571 t572 t573 t574 t575 t576 t577 t578 t579 t580 t581 t582 _ A19.out).mono ?_); rintro e w30 ⟨rfl, hb⟩; refine ⟨_, rfl, ?_⟩; have n0_ := Aside0.mk (below_step (bL HB) hb); clear HB; have HB := n0_; clear n0_; (try clear hb); (try clear hb2); (try clear hk); (try clear hi)) | ((with_reducible refine gate_dst (N := 11) rfl ?_); (try (refine gate_guard (by rfl) ?_; dsimp only)); refine box_event ?hg (N := 11) ?hd (cs := #[.int .i64 0, .int .u64 0, .int .u64 0, .bool false, .string (⟨#[]⟩ : ByteArray)]) (t := 28) ?hr ?_; (case hd => rfl); (case hg => rfl); (case hr => first | (go_simp; done) | (go_simp; rfl)); intro gb583 hg w31 hbox hb; have n0_ := Aside0.mk (below_step (bL HB) hb); have n1_ := Aside0.mk (hbox); have n2_ := Aside0.mk ((by rw [hg]; exact (below_size (bL HB)) : w.heap.size ≤ gb583)); have n3_ := Aside0.mk ((by rw [hg]; exact (below_size (bL HB)) : w.heap.size ≤ gb583)); clear HB; have HB := n0_; have BK583 := n1_; have GW583 := n2_; have GE583 := n3_; clear n0_ n1_ n2_ n3_; clear hb hbox hg; have hcz32_0 : w31.cell? ⟨gb583, 0, none⟩ = some (.int .i64 0) := (blk_cell BK583.out 0).trans rfl; have hcz32_1 : w31.cell? ⟨gb583, 1, none⟩ = some (.int .u64 0) := (blk_cell BK583.out 1).trans rfl; have hcz32_2 : w31.cell? ⟨gb583, 2, none⟩ = some (.int .u64 0) := (blk_cell BK583.out 2).trans rfl; have hcz32_3 : w31.cell? ⟨gb583, 3, none⟩ = some (.bool false) := (blk_cell BK583.out 3).trans rfl; have hcz32_4 : w31.cell? ⟨gb583, 4, none⟩ = some (.string (⟨#[]⟩ : ByteArray)) := (blk_cell BK583.out 4).trans rfl; have hfz32_0 := blk_frozen BK583.out 0; have hfz32_1 := blk_frozen BK583.out 1; have hfz32_2 := blk_frozen BK583.out 2; have hfz32_3 := blk_frozen BK583.out 3; have hfz32_4 := blk_frozen BK583.out 4))
              go_ret
              exact ⟨by first | rfl | (simp [errW_none, errW_some] <;> rfl) | (simp [*, errW_none, errW_some] <;> rfl), by repeat (first | (with_reducible first | exact HB.out | apply below_alloc | apply pw_below_drewN | apply below_drew1 | refine below_set ?_ GE583.out) | exact HB.out)⟩
            · rw [if_neg c27] at H
              exact absurd H (by simp)
  · replace c4 := Bool.eq_false_iff.mpr c4
    subst c4
    have H1 : (none) = some r := by rw [if_neg (show ¬ (false = true) by decide)] at H; exact H
    clear H
    have H := H1
    clear H1
    exact absurd H (by simp)

/-- THE ONE PURE STATEMENT of lorgnettelaw08_FoldLimits: yours. -/
def lorgnettelaw08_FoldLimits.Pure : Prop := ∀ (a0 : Int) (a1 : Int), (Lit.int .i64 a0).wf = true → (Lit.int .i64 a1).wf = true → ∃ k, lorgnettelaw08_FoldLimits.f k a0 a1 = some true
theorem lorgnettelaw08_FoldLimits.walk (P : lorgnettelaw08_FoldLimits.Pure) (a0 : Int) (a1 : Int) (w : World) (w0 : (Lit.int .i64 a0).wf = true) (w1 : (Lit.int .i64 a1).wf = true) :
    Calls Try.prog 3 #[.int .i64 a0, .int .i64 a1] w fun e w' => e = .returned (.bool true) ∧ Below w.heap.size w w' := by
  obtain ⟨k, h⟩ := P a0 a1 w0 w1
  refine (lorgnettelaw08_FoldLimits.calls k a0 a1 true w h).mono ?_
  rintro e w' ⟨rfl, hd⟩
  exact ⟨rfl, hd⟩

end Go.Proofs.Ytekndmlcmepekaa.Q
