/- Functions of the program as Lean functions, and their walks: printed by print.py as this session changed it (mkprint.py). Lean checks it. No condition. (halved) -/
import Derived.Test.YtjnaebcdidilgaaQx0
namespace Go.Proofs.Ytjnaebcdidilgaa.Q
open Go.RowKit Go.Proofs.YtjnaebcdidilgaaW.PrintWords Go.Proofs.YtjnaebcdidilgaaW.PrintLast Go.Proofs.YtjnaebcdidilgaaW.PrintMore
attribute [local go_sem] max2_int min2_int max_two min_two max_three min_three max_four min_four   -- for this text's walks alone
attribute [local go_sem] Instr.field asAgg
set_option linter.unusedVariables false
set_option linter.unusedSimpArgs false

/-! ### lorgnetteref01_Print: function 17 -/
def lorgnetteref01_Print.l0 : Nat → ByteArray → Int → Bool → List Int → Option (ByteArray)
 | 0, _, _, _, _ => none
 | k + 1, x3, x4, x430000, x430001 => if x4 < (x430001.length : Int) then (if 0 ≤ x4 then (if 0 ≤ (rd x430001 x4) then (if (rd x430001 x4) ≤ (wrap64 ((rd x430001 x4) + 1)) then (if (wrap64 ((rd x430001 x4) + 1)) ≤ 10 then (if ((⟨#[48, 49, 50, 51, 52, 53, 54, 55, 56, 57]⟩ : ByteArray).extract ((rd x430001 x4) : Int).toNat ((wrap64 ((rd x430001 x4) + 1)) : Int).toNat).size + x3.size ≤ 9223372036854775807 then (lorgnetteref01_Print.l0 k (((⟨#[48, 49, 50, 51, 52, 53, 54, 55, 56, 57]⟩ : ByteArray).extract ((rd x430001 x4) : Int).toNat ((wrap64 ((rd x430001 x4) + 1)) : Int).toNat) ++ x3) (wrap64 (x4 + 1)) x430000 x430001) else (none)) else (none)) else (none)) else (none)) else (none)) else (if x3.toList = ([] : List UInt8) then (some (⟨#[48]⟩ : ByteArray)) else (if x430000 = true then (if 1 + x3.size ≤ 9223372036854775807 then (some ((⟨#[45]⟩ : ByteArray) ++ x3)) else (none)) else (some x3)))
def lorgnetteref01_Print.f (k : Nat) (a0_0 : Bool) (l0_1 : List Int) : Option (ByteArray) := lorgnetteref01_Print.l0 k (⟨#[]⟩ : ByteArray) 0 a0_0 l0_1
theorem lorgnetteref01_Print.mono_l : ∀ k, (∀ y0 y1 y2 y3, LeO (lorgnetteref01_Print.l0 k y0 y1 y2 y3) (lorgnetteref01_Print.l0 (k + 1) y0 y1 y2 y3))
 | 0 => fun _ _ _ _ r h => by simp [lorgnetteref01_Print.l0] at h
 | k + 1 => by
  have ih0 := lorgnetteref01_Print.mono_l k
  ·intro y0 y1 y2 y3
   unfold lorgnetteref01_Print.l0
   repeat' first
   | (with_reducible exact ih0 _ _ _ _)
   | (with_reducible exact LeO.refl _)
   | (with_reducible exact LeO.none _)
   | (with_reducible refine LeO.ite ?_ ?_)
   | (with_reducible refine LeO.bind ?_ (fun _ => ?_))
theorem lorgnetteref01_Print.mono : ∀ a0 a1 k, LeO (lorgnetteref01_Print.f k a0 a1) (lorgnetteref01_Print.f (k + 1) a0 a1) := by
 intro a0 a1 k
 have ih0 := lorgnetteref01_Print.mono_l k
 unfold lorgnetteref01_Print.f
 repeat' first
   | (with_reducible exact ih0 _ _ _ _)
   | (with_reducible exact LeO.refl _)
   | (with_reducible exact LeO.none _)
   | (with_reducible refine LeO.ite ?_ ?_)
   | (with_reducible refine LeO.bind ?_ (fun _ => ?_))
set_option maxHeartbeats 8000000 in
set_option maxRecDepth 100000 in
theorem lorgnetteref01_Print.calls (k : Nat) (a0_0 : Bool) (A0_1 : Option Addr) (c0_1 : Nat) (l0_1 : List Int) (r : ByteArray) (w : World) (hr0_1 : Kd.C (Kd.int .i64) w A0_1 l0_1.length l0_1) (hc0_1 : l0_1.length ≤ c0_1) (h : lorgnetteref01_Print.f k a0_0 l0_1 = some r) :
  Calls Try.prog 17 #[.agg #[.bool a0_0, .slice A0_1 l0_1.length c0_1]] w fun e w' => e = .returned (.string r) ∧ Below w.heap.size w w' := by
 have hu28 := Try.underlying28
 have HR0_1 := Aside0.mk hr0_1
 have HC0_1 := Aside0.mk hc0_1
 clear hr0_1 hc0_1
 have HB := Aside0.mk (Below.refl w.heap.size w)
 have H : (lorgnetteref01_Print.l0 k (⟨#[]⟩ : ByteArray) 0 a0_0 l0_1) = some r := h
 clear h
 have H' := Aside0.mk H
 clear H
 go_enter Try.func17, Try.ntmps17
 go_wp2_with (first | ((with_reducible refine gate_dst (N := 1) rfl ?_); refine box_event ?hg (N := 1) ?hd (cs := #[.bool a0_0, .slice A0_1 l0_1.length c0_1]) (t := 28) ?hr ?_; (case hd => rfl); (case hg => rfl); (case hr => first | (go_simp; done) | (go_simp; rfl)); intro gb429 hg w2 hbox hb; have n0_ := Aside0.mk (below_step (bL HB) hb); have n1_ := Aside0.mk (hbox); have n2_ := Aside0.mk ((by rw [hg]; exact (below_size (bL HB)) : w.heap.size ≤ gb429)); have n3_ := Aside0.mk ((by rw [hg]; exact (below_size (bL HB)) : w.heap.size ≤ gb429)); clear HB; have HB := n0_; have BK429 := n1_; have GW429 := n2_; have GE429 := n3_; clear n0_ n1_ n2_ n3_; clear hb hbox hg))
 repeat (go_quiet (first | ((with_reducible refine gate_dst (N := 1) rfl ?_); refine box_event ?hg (N := 1) ?hd (cs := #[.bool a0_0, .slice A0_1 l0_1.length c0_1]) (t := 28) ?hr ?_; (case hd => rfl); (case hg => rfl); (case hr => first | (go_simp; done) | (go_simp; rfl)); intro gb429 hg w2 hbox hb; have n0_ := Aside0.mk (below_step (bL HB) hb); have n1_ := Aside0.mk (hbox); have n2_ := Aside0.mk ((by rw [hg]; exact (below_size (bL HB)) : w.heap.size ≤ gb429)); have n3_ := Aside0.mk ((by rw [hg]; exact (below_size (bL HB)) : w.heap.size ≤ gb429)); clear HB; have HB := n0_; have BK429 := n1_; have GW429 := n2_; have GE429 := n3_; clear n0_ n1_ n2_ n3_; clear hb hbox hg)); try go_wp2_with (first | ((with_reducible refine gate_dst (N := 1) rfl ?_); refine box_event ?hg (N := 1) ?hd (cs := #[.bool a0_0, .slice A0_1 l0_1.length c0_1]) (t := 28) ?hr ?_; (case hd => rfl); (case hg => rfl); (case hr => first | (go_simp; done) | (go_simp; rfl)); intro gb429 hg w2 hbox hb; have n0_ := Aside0.mk (below_step (bL HB) hb); have n1_ := Aside0.mk (hbox); have n2_ := Aside0.mk ((by rw [hg]; exact (below_size (bL HB)) : w.heap.size ≤ gb429)); have n3_ := Aside0.mk ((by rw [hg]; exact (below_size (bL HB)) : w.heap.size ≤ gb429)); clear HB; have HB := n0_; have BK429 := n1_; have GW429 := n2_; have GE429 := n3_; clear n0_ n1_ n2_ n3_; clear hb hbox hg)))
 go_loopg [3, 4] k (fun kq v3 v4 w' => ∃ (x3_1 : ByteArray) (x4_1 : Int), v3 = .string x3_1 ∧ v4 = .int .i64 x4_1 ∧ Aside0 (lorgnetteref01_Print.l0 kq x3_1 x4_1 a0_0 l0_1 = some r) ∧ Aside0 (kq ≤ k) ∧ Aside0 (w'.heap[gb429]? = some (.cells #[.bool a0_0, (.slice A0_1 l0_1.length c0_1)] 28 (0, 0))) ∧ Aside0 (Below w.heap.size w w'))
 case atStart => exact ⟨((⟨#[]⟩ : ByteArray)), (0), (by first | rfl | (simp; done) | (simp [*]; done)), (by first | rfl | (simp; done) | (simp [*]; done)), H', ⟨Nat.le_refl _⟩, ⟨bN BK429⟩, ⟨by repeat (first | (with_reducible first | exact HB.out | apply below_alloc | apply pw_below_drewN | apply below_drew1 | refine below_set ?_ GE429.out) | exact HB.out)⟩⟩
 case round =>
  clear H'
  try clear c1
  try clear p2
  obtain ⟨x3_1, x4_1, rfl, rfl, HA, HK1, BK429, HB⟩ := hrel
  cases gk with
  | zero => exact absurd HA.out (by simp [lorgnetteref01_Print.l0])
  | succ k1 =>
   have H := HA.out
   clear HA
   simp only [lorgnetteref01_Print.l0] at H
   by_cases c3 : x4_1 < (l0_1.length : Int)
   ·rw [if_pos c3] at H
    have c3b0 : decide (x4_1 < (l0_1.length : Int)) = true := decide_eq_true c3
    clear c3
    by_cases c4 : 0 ≤ x4_1
    ·rw [if_pos c4] at H
     have c4b0 : decide (0 ≤ x4_1) = true := decide_eq_true c4
     clear c4
     by_cases c5 : 0 ≤ (rd l0_1 x4_1)
     ·rw [if_pos c5] at H
      have c5b0 := eq_true c5
      have c5b1 : decide (0 ≤ (rd l0_1 x4_1)) = true := decide_eq_true c5
      clear c5
      by_cases c6 : (rd l0_1 x4_1) ≤ (wrap64 ((rd l0_1 x4_1) + 1))
      ·rw [if_pos c6] at H
       have c6b0 := eq_true c6
       have c6b1 : decide ((rd l0_1 x4_1) ≤ (wrap64 ((rd l0_1 x4_1) + 1))) = true := decide_eq_true c6
       by_cases c7 : (wrap64 ((rd l0_1 x4_1) + 1)) ≤ 10
       ·rw [if_pos c7] at H
        have c7b0 := eq_true c7
        have c7b1 : decide ((wrap64 ((rd l0_1 x4_1) + 1)) ≤ 10) = true := decide_eq_true c7
        by_cases c8 : ((⟨#[48, 49, 50, 51, 52, 53, 54, 55, 56, 57]⟩ : ByteArray).extract ((rd l0_1 x4_1) : Int).toNat ((wrap64 ((rd l0_1 x4_1) + 1)) : Int).toNat).size + x3_1.size ≤ 9223372036854775807
        ·rw [if_pos c8] at H
         have c8b0 := eq_true c8
         have c8b1 : decide (((⟨#[48, 49, 50, 51, 52, 53, 54, 55, 56, 57]⟩ : ByteArray).extract ((rd l0_1 x4_1) : Int).toNat ((wrap64 ((rd l0_1 x4_1) + 1)) : Int).toNat).size + x3_1.size ≤ 9223372036854775807) = true := decide_eq_true c8
         try have c8b2 : (9223372036854775807 < ((⟨#[48, 49, 50, 51, 52, 53, 54, 55, 56, 57]⟩ : ByteArray).extract ((rd l0_1 x4_1) : Int).toNat ((wrap64 ((rd l0_1 x4_1) + 1)) : Int).toNat).size + x3_1.size) = False := eq_false (Nat.not_lt.2 c8)
         have H' := Aside0.mk H
         clear H
         have hcz9_0 : wr.cell? ⟨gb429, 0, none⟩ = some (.bool a0_0) := (blk_cell BK429.out 0).trans rfl
         have hcz9_1 : wr.cell? ⟨gb429, 1, none⟩ = some (.slice A0_1 l0_1.length c0_1) := (blk_cell BK429.out 1).trans rfl
         have hfz9_0 := blk_frozen BK429.out 0
         have hfz9_1 := blk_frozen BK429.out 1
         have p430 : 0 ≤ (x4_1 : Int) := of_decide_eq_true (by first | (with_reducible assumption) | assumption)
         have q430 : x4_1 < (l0_1.length : Int) := of_decide_eq_true (by first | (with_reducible assumption) | assumption)
         obtain ⟨ad430, e430, hx430_0⟩ := Kd.at_int HR0_1.out x4_1 p430 q430
         cases e430
         replace hx430_0 := (HB.out.cell (World.block_lt_of_cell? w _ hx430_0)).trans hx430_0
         replace p430 := eq_true p430
         replace q430 := eq_true q430
         have p431 : 0 ≤ (x4_1 : Int) := of_decide_eq_true (by first | (with_reducible assumption) | assumption)
         have q431 : x4_1 < (l0_1.length : Int) := of_decide_eq_true (by first | (with_reducible assumption) | assumption)
         obtain ⟨ad431, e431, hx431_0⟩ := Kd.at_int HR0_1.out x4_1 p431 q431
         obtain rfl : ad430 = ad431 := (by injection e431)
         replace hx431_0 := (HB.out.cell (World.block_lt_of_cell? w _ hx431_0)).trans hx431_0
         replace p431 := eq_true p431
         replace q431 := eq_true q431
         go_wp2
         repeat (go_quiet (fail); try go_wp2)
         go_roundg k1
         case measure => have := HK1.out; omega
         case rel => exact ⟨(((⟨#[48, 49, 50, 51, 52, 53, 54, 55, 56, 57]⟩ : ByteArray).extract ((rd l0_1 x4_1) : Int).toNat ((wrap64 ((rd l0_1 x4_1) + 1)) : Int).toNat) ++ x3_1), (wrap64 (x4_1 + 1)), (by first | rfl | (simp; done) | (simp [*]; done)), (by first | rfl | (simp; done) | (simp [*]; done)), H', ⟨by have := HK1.out; omega⟩, ⟨bN BK429⟩, ⟨by repeat (first | (with_reducible first | exact HB.out | apply below_alloc | apply pw_below_drewN | apply below_drew1 | refine below_set ?_ GE429.out) | exact HB.out)⟩⟩
        ·rw [if_neg c8] at H
         exact absurd H (by simp)
       ·rw [if_neg c7] at H
        exact absurd H (by simp)
      ·rw [if_neg c6] at H
       exact absurd H (by simp)
     ·rw [if_neg c5] at H
      exact absurd H (by simp)
    ·rw [if_neg c4] at H
     exact absurd H (by simp)
   ·rw [if_neg c3] at H
    have c3b0 : decide (x4_1 < (l0_1.length : Int)) = false := decide_eq_false c3
    clear c3
    by_cases c10 : x3_1.toList = ([] : List UInt8)
    ·rw [if_pos c10] at H
     have c10b0 : (x3_1.toList == ([] : List UInt8)) = true := beq_iff_eq.mpr c10
     have c10b1 : (x3_1.toList != ([] : List UInt8)) = false := bne_eq_false_iff_eq.mpr c10
     clear c10
     obtain rfl := Option.some.inj H
     have hcz11_0 : wr.cell? ⟨gb429, 0, none⟩ = some (.bool a0_0) := (blk_cell BK429.out 0).trans rfl
     have hcz11_1 : wr.cell? ⟨gb429, 1, none⟩ = some (.slice A0_1 l0_1.length c0_1) := (blk_cell BK429.out 1).trans rfl
     have hfz11_0 := blk_frozen BK429.out 0
     have hfz11_1 := blk_frozen BK429.out 1
     go_wp2
     repeat (go_quiet (fail); try go_wp2)
     go_ret
     exact ⟨by first | rfl | (simp [errW_none, errW_some] <;> rfl) | (simp [*, errW_none, errW_some] <;> rfl), by repeat (first | (with_reducible first | exact HB.out | apply below_alloc | apply pw_below_drewN | apply below_drew1 | refine below_set ?_ GE429.out) | exact HB.out)⟩
    ·rw [if_neg c10] at H
     have c10b0 : (x3_1.toList == ([] : List UInt8)) = false := beq_eq_false_iff_ne.mpr c10
     have c10b1 : (x3_1.toList != ([] : List UInt8)) = true := bne_iff_ne.mpr c10
     by_cases c12 : a0_0 = true
     ·subst c12
      have H1 : (if 1 + x3_1.size ≤ 9223372036854775807 then (some ((⟨#[45]⟩ : ByteArray) ++ x3_1)) else (none)) = some r := by rw [if_pos rfl] at H; exact H
      clear H
      have H := H1
      clear H1
      by_cases c13 : 1 + x3_1.size ≤ 9223372036854775807
      ·rw [if_pos c13] at H
       have c13b0 := eq_true c13
       have c13b1 : decide (1 + x3_1.size ≤ 9223372036854775807) = true := decide_eq_true c13
       try have c13b2 : (9223372036854775807 < 1 + x3_1.size) = False := eq_false (Nat.not_lt.2 c13)
       obtain rfl := Option.some.inj H
       have hcz14_0 : wr.cell? ⟨gb429, 0, none⟩ = some (.bool true) := (blk_cell BK429.out 0).trans rfl
       have hcz14_1 : wr.cell? ⟨gb429, 1, none⟩ = some (.slice A0_1 l0_1.length c0_1) := (blk_cell BK429.out 1).trans rfl
       have hfz14_0 := blk_frozen BK429.out 0
       have hfz14_1 := blk_frozen BK429.out 1
       go_wp2
       repeat (go_quiet (fail); try go_wp2)
       go_ret
       exact ⟨by first | rfl | (simp [errW_none, errW_some] <;> rfl) | (simp [*, errW_none, errW_some] <;> rfl), by repeat (first | (with_reducible first | exact HB.out | apply below_alloc | apply pw_below_drewN | apply below_drew1 | refine below_set ?_ GE429.out) | exact HB.out)⟩
      ·rw [if_neg c13] at H
       exact absurd H (by simp)
     ·replace c12 := Bool.eq_false_iff.mpr c12
      subst c12
      have H1 : (some x3_1) = some r := by rw [if_neg (show ¬ (false = true) by decide)] at H; exact H
      clear H
      have H := H1
      clear H1
      obtain rfl := Option.some.inj H
      have hcz15_0 : wr.cell? ⟨gb429, 0, none⟩ = some (.bool false) := (blk_cell BK429.out 0).trans rfl
      have hcz15_1 : wr.cell? ⟨gb429, 1, none⟩ = some (.slice A0_1 l0_1.length c0_1) := (blk_cell BK429.out 1).trans rfl
      have hfz15_0 := blk_frozen BK429.out 0
      have hfz15_1 := blk_frozen BK429.out 1
      go_wp2
      repeat (go_quiet (fail); try go_wp2)
      go_ret
      exact ⟨by first | rfl | (simp [errW_none, errW_some] <;> rfl) | (simp [*, errW_none, errW_some] <;> rfl), by repeat (first | (with_reducible first | exact HB.out | apply below_alloc | apply pw_below_drewN | apply below_drew1 | refine below_set ?_ GE429.out) | exact HB.out)⟩

end Go.Proofs.Ytjnaebcdidilgaa.Q
