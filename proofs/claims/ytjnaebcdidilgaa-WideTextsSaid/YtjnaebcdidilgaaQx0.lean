/- Functions of the program as Lean functions, and their walks: printed by print.py as this session changed it (mkprint.py). Lean checks it. No condition. (halved) -/
import Derived.Test.YtjnaebcdidilgaaProg
import Derived.Below
import Derived.Deep.Draws
import Derived.Deep.AppendLies
import Derived.Maps.AppendAt
import Derived.OwnWalk
import Derived.Laws.BytesArg
import Derived.Laws.MakeOwn
import Derived.Laws.OwnMore
import Derived.Deep.OwnRows
import Derived.Tactics
import Derived.Lib.ConvBytes
import Derived.Laws.Slices
import Derived.WalkKit
import Derived.KernelRfl
import Derived.RowKit3
import Derived.Deep.LoopGhost
import Derived.Deep.QuietTactic
import Derived.BigQuiet
import Derived.WideLaws
import Derived.Deep.DeepCutAuto
import Derived.Deep.CutBlock
import Derived.Deep.RegionHeld3
import Derived.Laws.Rows
import Derived.Lib.AppendStr
import Derived.ArgAppend
import Derived.Laws.IdiomCopy
import Derived.OrdersHeld
import Derived.Laws.BitsLemmas
import Derived.RowKit
import Derived.Test.YtjnaebcdidilgaaWWords
import Derived.Test.YtjnaebcdidilgaaWLast
import Derived.Test.YtjnaebcdidilgaaWTab
import Derived.Test.YtjnaebcdidilgaaWFour
import Derived.Test.YtjnaebcdidilgaaWQPut
import Derived.Test.YtjnaebcdidilgaaWApart
import Derived.Test.YtjnaebcdidilgaaWArr
import Derived.Test.YtjnaebcdidilgaaWZeros
import Derived.Test.YtjnaebcdidilgaaWFoot
import Derived.Test.YtjnaebcdidilgaaWKept
import Derived.Test.YtjnaebcdidilgaaWShare
import Derived.Test.YtjnaebcdidilgaaWN
import Derived.Test.YtjnaebcdidilgaaWFootNe
import Derived.Test.YtjnaebcdidilgaaWAt
import Derived.Test.YtjnaebcdidilgaaWEqStruct
import Derived.Test.YtjnaebcdidilgaaWRepsOne
import Derived.Test.YtjnaebcdidilgaaWInv
import Derived.Test.YtjnaebcdidilgaaWInvWords
import Derived.Test.YtjnaebcdidilgaaWGuard
import Derived.Test.YtjnaebcdidilgaaWNEv
import Derived.Test.YtjnaebcdidilgaaWMore
namespace Go.Proofs.Ytjnaebcdidilgaa.Q
open Go.RowKit Go.Proofs.YtjnaebcdidilgaaW.PrintWords Go.Proofs.YtjnaebcdidilgaaW.PrintLast Go.Proofs.YtjnaebcdidilgaaW.PrintMore
attribute [local go_sem] max2_int min2_int max_two min_two max_three min_three max_four min_four   -- for this text's walks alone
attribute [local go_sem] Instr.field asAgg
set_option linter.unusedVariables false
set_option linter.unusedSimpArgs false



def errW : Option Int → Value
 | none => .nilIface
 | some c => .iface 0 (.int .i64 c)
theorem errW_none : errW none = .nilIface := rfl
theorem errW_some (c : Int) : errW (some c) = .iface 0 (.int .i64 c) := rfl

/-! ### words of this session's: body-less carries, []byte(s) that is only read -/
def add64S (x y c : Int) : Int := ((x.toNat + y.toNat + c.toNat) % 18446744073709551616 : Nat)
def add64C (x y c : Int) : Int := ((x.toNat + y.toNat + c.toNat) / 18446744073709551616 : Nat)
def sub64S (x y c : Int) : Int := ((x.toNat + 18446744073709551616 - y.toNat - c.toNat) % 18446744073709551616 : Nat)
def sub64C (x y c : Int) : Int := if x.toNat < y.toNat + c.toNat then 1 else 0
def pEntryAdd : Array Value → Sem Value := fun args => do
 let (x, y, c) ← Extern.MathBitsCarry.three "Add64" args
 pure (Extern.MathBitsCarry.pair ((x + y + c) % Extern.MathBitsCarry.m64) ((x + y + c) / Extern.MathBitsCarry.m64))
def pEntrySub : Array Value → Sem Value := fun args => do
 let (x, y, b) ← Extern.MathBitsCarry.three "Sub64" args
 pure (Extern.MathBitsCarry.pair ((x + Extern.MathBitsCarry.m64 - y - b) % Extern.MathBitsCarry.m64) (if x < y + b then 1 else 0))
theorem pAdd_run {P : Program} (x y c : Int) (hc : c ≤ 1) (w : World) :
  (pEntryAdd #[.int .u64 x, .int .u64 y, .int .u64 c]).run P w = .ok (.tuple #[.int .u64 (add64S x y c), .int .u64 (add64C x y c)]) w := by
 cases c with
 | ofNat k =>
  have hk : k = 0 ∨ k = 1 := by simp only [Int.ofNat_eq_natCast] at hc; omega
  rcases hk with rfl | rfl <;> rfl
 | negSucc m => rfl
theorem pSub_run {P : Program} (x y c : Int) (hc : c ≤ 1) (w : World) :
  (pEntrySub #[.int .u64 x, .int .u64 y, .int .u64 c]).run P w = .ok (.tuple #[.int .u64 (sub64S x y c), .int .u64 (sub64C x y c)]) w := by
 have key : (pEntrySub #[.int .u64 x, .int .u64 y, .int .u64 c]).run P w =
   .ok (Extern.MathBitsCarry.pair ((x.toNat + Extern.MathBitsCarry.m64 - y.toNat - c.toNat) % Extern.MathBitsCarry.m64) (if x.toNat < y.toNat + c.toNat then 1 else 0)) w := by
  cases c with
  | ofNat k =>
   have hk : k = 0 ∨ k = 1 := by simp only [Int.ofNat_eq_natCast] at hc; omega
   rcases hk with rfl | rfl <;> rfl
  | negSucc m => rfl
 rw [key]
 unfold sub64C Extern.MathBitsCarry.pair
 by_cases h : x.toNat < y.toNat + c.toNat
 ·rw [if_pos h, if_pos h]; rfl
 ·rw [if_neg h, if_neg h]; rfl
theorem add64_of {P : Program} {f : FuncId} {fn : Func} (hf : P.funcs[f]? = some fn) (hn : ((fn.name == "runtime.NumGoroutine") = false ∧ fn.body.isNone = true) ∧ Extern.findNext fn = none ∧ Extern.find fn = some pEntryAdd) (x y c : Int) (w : World) (hc : decide (c ≤ 1) = true) :
  (callFunc f #[.int .u64 x, .int .u64 y, .int .u64 c]).run P w = .ok (.value (.tuple #[.int .u64 (add64S x y c), .int .u64 (add64C x y c)])) w := by
 rw [run_callFunc_extern hf hn.1.1 hn.1.2 hn.2.1 hn.2.2, pAdd_run x y c (of_decide_eq_true hc)]; rfl
theorem sub64_of {P : Program} {f : FuncId} {fn : Func} (hf : P.funcs[f]? = some fn) (hn : ((fn.name == "runtime.NumGoroutine") = false ∧ fn.body.isNone = true) ∧ Extern.findNext fn = none ∧ Extern.find fn = some pEntrySub) (x y c : Int) (w : World) (hc : decide (c ≤ 1) = true) :
  (callFunc f #[.int .u64 x, .int .u64 y, .int .u64 c]).run P w = .ok (.value (.tuple #[.int .u64 (sub64S x y c), .int .u64 (sub64C x y c)])) w := by
 rw [run_callFunc_extern hf hn.1.1 hn.1.2 hn.2.1 hn.2.2, pSub_run x y c (of_decide_eq_true hc)]; rfl
theorem add640_of {P : Program} {f : FuncId} {fn : Func} (hf : P.funcs[f]? = some fn) (hn : ((fn.name == "runtime.NumGoroutine") = false ∧ fn.body.isNone = true) ∧ Extern.findNext fn = none ∧ Extern.find fn = some pEntryAdd) (x y : Int) (w : World) :
  (callFunc f #[.int .u64 x, .int .u64 y, .int .u64 0]).run P w = .ok (.value (.tuple #[.int .u64 (add64S x y 0), .int .u64 (add64C x y 0)])) w := add64_of hf hn x y 0 w rfl
theorem sub640_of {P : Program} {f : FuncId} {fn : Func} (hf : P.funcs[f]? = some fn) (hn : ((fn.name == "runtime.NumGoroutine") = false ∧ fn.body.isNone = true) ∧ Extern.findNext fn = none ∧ Extern.find fn = some pEntrySub) (x y : Int) (w : World) :
  (callFunc f #[.int .u64 x, .int .u64 y, .int .u64 0]).run P w = .ok (.value (.tuple #[.int .u64 (sub64S x y 0), .int .u64 (sub64C x y 0)])) w := sub64_of hf hn x y 0 w rfl
theorem u8_w (n : Int) : IntKind.u8.wrap n = n % 256 := by simp [IntKind.wrap, IntKind.signed, IntKind.bits]
theorem w64_u8 (n : Int) : wrap64 (n % 256) = n % 256 := by unfold wrap64; omega
namespace Kd
section
variable {P : Program} {ops : Array Oper} {rest : List Oper} {o : Oper} {a : Act} {Q : Exit → Act → World → Prop}
theorem V_conv {w0 W : World} (base e : Nat) (hgd : o.guard = none) {N : Tmp} (_hd : o.dst = some N) (s t : TypeId) (x : Operand) (ho : o.op = .convert s t x) (b : ByteArray) (hx : a.eval x = .string b)
  (hs : P.underlying s = some .string) (ht : P.underlying t = some (.slice e)) (he : P.underlying e = some (.int .u8)) {ok : Nat → Prop} (hsz : b.size ≤ 9223372036854775807) (hok : ∀ k_, W.heap.size ≤ k_ → ok k_) (HB : Below base w0 W) (hbase : base ≤ W.heap.size)
  (h : ∀ v1 w1, Kd.V (Kd.int .u8) e w1 base ok v1 (bytesOf b) → Below base w0 w1 → W.grownBy w1 none → (∃ k, v1.ownBlock = some k ∧ W.heap.size ≤ k) → wpList P ops Q rest (a.put o.dst v1) w1) :
  wpList P ops Q (o :: rest) a W := by
 have hrun : (execOp a.eval o).run P W = .ok (.value (.slice (some ⟨W.heap.size, 0, none⟩) b.size (grownCap W b.size 0 e))) (Lib.bytesWorld W e b) := by
  have := Lib.run_convert_string_bytes W s t e b hs ht he
  simp [execOp, ho, hx, this]
 have hlen : (bytesOf b).length = b.size := by simp [bytesOf]
 refine Kd.event_run hgd hrun (h _ _ ?_ ?_ ?_ ⟨W.heap.size, by simp [Value.ownBlock], Nat.le_refl _⟩)
 ·rw [← hlen]
  refine Kd.V_mk (by rw [hlen]; exact grownCap_ge _ _ _ _) ?_
  intro W' hW'
  have hcell : ∀ j, j < b.size → W'.cell? ⟨W.heap.size, j, none⟩ = some (.int .u8 ((bytesOf b).getD j 0)) := by
   intro j hj
   have h1 := hW' W.heap.size (hok _ (Nat.le_refl _)) (by rw [Lib.bytesWorld_size]; omega)
   have h2 := Lib.bytesWorld_cell W e b j hj
   simp only [World.cell?, h1] at h2 ⊢
   rw [h2]
   simp [bytesOf, List.getD, hj]
  refine Kd.C_of_reads (d := (0 : Int)) (h1 := fun _ => rfl) ?_
  refine ⟨by rw [hlen], by rw [hlen]; exact hsz, fun hp => ⟨⟨W.heap.size, 0, none⟩, rfl, fun j hj => ?_⟩⟩
  rw [hlen] at hj
  rw [add_plain]
  exact hcell j hj
 ·exact HB.trans ⟨rfl, rfl, rfl, by rw [Lib.bytesWorld_size]; omega, fun k hk => Lib.bytesWorld_at_old _ _ _ _ (by omega)⟩
 ·exact ⟨rfl, rfl, rfl, by rw [Lib.bytesWorld_size]; omega, fun k hk _ => Lib.bytesWorld_at_old _ _ _ _ hk⟩
end
end Kd
/-! ### short words for what the texts say over and over -/
theorem bN {Q P : Prop} (h0 : Aside0 Q) (h : Q → P := by intro h_; (with_reducible repeat (first | refine blk_drewN ?_ _ | refine blk_drew ?_ | refine blk_alloc ?_ _)); exact h_) : P := h h0.out
theorem bL {Q P : Prop} (h0 : Aside0 Q) (h : Q → P := by intro h_; repeat (first | (with_reducible first | exact h_ | apply below_alloc | apply pw_below_drewN | apply below_drew1 | refine below_set ?_ (Aside0.out (by assumption))) | exact h_)) : P := h h0.out
theorem blkB {W0 W W1 : World} {g : Nat} {o : Obj} (h0 : Aside0 (W0.heap[g]? = some o)) (hb : Below W.heap.size W W1) (h : W0.heap[g]? = some o → W.heap[g]? = some o := by intro h_; (with_reducible repeat (first | refine blk_drewN ?_ _ | refine blk_drew ?_ | refine blk_alloc ?_ _)); exact h_) : Aside0 (W1.heap[g]? = some o) := Aside0.mk (blk_below (h h0.out) hb)
theorem blkL {W0 W : World} {g gb : Nat} {o : Obj} (h0 : Aside0 (W0.heap[g]? = some o)) (hg : gb = W.heap.size) (h : W0.heap[g]? = some o → W.heap[g]? = some o := by intro h_; (with_reducible repeat (first | refine blk_drewN ?_ _ | refine blk_drew ?_ | refine blk_alloc ?_ _)); exact h_) : Aside0 (g ≠ gb) := Aside0.mk (by rw [hg]; exact Nat.ne_of_lt (blk_lt (h h0.out)))
theorem blkG {W0 W : World} {g gb : Nat} {o : Obj} (h0 : Aside0 (W0.heap[g]? = some o)) (hg : gb = W.heap.size) (h : W0.heap[g]? = some o → W.heap[g]? = some o := by intro h_; (with_reducible repeat (first | refine blk_drewN ?_ _ | refine blk_drew ?_ | refine blk_alloc ?_ _)); exact h_) : Aside0 (gb ≠ g) := Aside0.mk (by rw [hg]; exact Nat.ne_of_gt (blk_lt (h h0.out)))
theorem bF {Q P : Prop} (h0 : Aside0 Q) (h : Q → P := by intro h_; (with_reducible repeat (first | refine blk_drewN ?_ _ | refine blk_drew ?_ | refine blk_alloc ?_ _ | refine blk_far ?_ (Aside0.out (by with_reducible assumption)) _)); exact h_) : P := h h0.out
theorem vN {Q P : Prop} (h0 : Aside0 Q) (h : Q → P := by intro h_; (with_reducible repeat (first | apply Kd.V_alloc | apply Kd.V_drewN | apply Kd.V_drew)); exact h_) : P := h h0.out
theorem rN {Q P : Prop} (h0 : Aside0 Q) (h : Q → P := by intro h_; (with_reducible repeat (first | apply Kd.R_alloc | apply Kd.R_drewN | apply Kd.R_drew)); exact h_) : P := h h0.out

theorem primAdd640_39 (x y : Int) (w : World) : (callFunc 39 #[.int .u64 x, .int .u64 y, .int .u64 0]).run Try.prog w = .ok (.value (.tuple #[.int .u64 (add64S x y 0), .int .u64 (add64C x y 0)])) w := add640_of rfl ⟨⟨by kernel_rfl, by kernel_rfl⟩, by kernel_rfl, by kernel_rfl⟩ x y w
theorem primAdd64_39 (x y c : Int) (w : World) (hc : decide (c ≤ 1) = true) : (callFunc 39 #[.int .u64 x, .int .u64 y, .int .u64 c]).run Try.prog w = .ok (.value (.tuple #[.int .u64 (add64S x y c), .int .u64 (add64C x y c)])) w := add64_of rfl ⟨⟨by kernel_rfl, by kernel_rfl⟩, by kernel_rfl, by kernel_rfl⟩ x y c w hc
theorem primSub640_42 (x y : Int) (w : World) : (callFunc 42 #[.int .u64 x, .int .u64 y, .int .u64 0]).run Try.prog w = .ok (.value (.tuple #[.int .u64 (sub64S x y 0), .int .u64 (sub64C x y 0)])) w := sub640_of rfl ⟨⟨by kernel_rfl, by kernel_rfl⟩, by kernel_rfl, by kernel_rfl⟩ x y w
theorem primSub64_42 (x y c : Int) (w : World) (hc : decide (c ≤ 1) = true) : (callFunc 42 #[.int .u64 x, .int .u64 y, .int .u64 c]).run Try.prog w = .ok (.value (.tuple #[.int .u64 (sub64S x y c), .int .u64 (sub64C x y c)])) w := sub64_of rfl ⟨⟨by kernel_rfl, by kernel_rfl⟩, by kernel_rfl, by kernel_rfl⟩ x y c w hc
theorem info3 : (Try.prog.info? 3).map (fun i => (i.zero, i.size, i.bytes)) = some (some (.int .i64 0), 1, 8) := by kernel_rfl
theorem info5 : (Try.prog.info? 5).map (fun i => (i.zero, i.size, i.bytes)) = some (some (.int .u8 0), 1, 1) := by kernel_rfl
-- the values' own types

end Go.Proofs.Ytjnaebcdidilgaa.Q
