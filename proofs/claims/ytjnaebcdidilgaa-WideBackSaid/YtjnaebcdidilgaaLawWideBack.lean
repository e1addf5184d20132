/- The law WideBack: whatever the input, it returns true and leaves its arguments as they were. No condition. -/
import Derived.Test.YtjnaebcdidilgaaRows
import Derived.Test.YtjnaebcdidilgaaQx38
import Derived.Test.YtjnaebcdidilgaaPWideBack
import Derived.Test.YtjnaebcdidilgaaRd
import Derived.WalkKit
import Derived.ProofKit
import Derived.OpenShut
import Derived.ShutString
import Derived.ChangeOld
import Derived.Below
import Derived.SizedLaws
import Derived.Carry
namespace Go.Proofs.Ytjnaebcdidilgaa.wideBack
open Go.ChangeShapes Go.WideShapes Go.ChangeAt Go.RowKit
open Go.ChangeMaps (open_string shut_string)
open Go.Proofs.Ytjnaebcdidilgaa.Q Go.Proofs.Ytjnaebcdidilgaa.Rd
set_option linter.unusedVariables false
set_option linter.unusedSimpArgs false
theorem own : ownKnob Try.prog.godebug = none := by kernel_rfl
theorem laidOut : laidOutB Try.prog = true := by kernel_rfl
set_option maxRecDepth 100000 in
theorem lifted (os : Os) (started : os.Started) (H : Type) (enc : TypeId × Value → H) :
    ReturnsInHanded {} Try.checked os 6 .any (Rows.wideBackSpec.pre6 enc Try.prog Try.f6 Rows.wideBackRow.domain false) (Rows.wideBackSpec.post enc Try.prog Try.f6 false true false false) := by
  refine returnsInHanded_of_change_sized (C := Try.checked) own started (by kernel_rfl) Try.func6
    (ChangeSpec.witness6 (enc := enc) (C := Try.checked) false ⟨#[], #[.agg #[.int .u64 0, .int .u64 0], .agg #[.int .u64 0, .int .u64 0]], []⟩ 8 (by kernel_rfl) (by kernel_rfl) (by kernel_rfl) (by kernel_rfl)) ?_
  intro W base args ds gs before hval0 hW hcnd hsz0 _
  have hsz : (DataW.weightsEach Try.prog (Try.f6.params.toList ++ Rows.wideBackSpec.plain.varTypes Try.prog) (ds ++ gs)).all (· ≤ reachBytes) = true := hsz0
  have hval : ∀ (j : Nat) t v, Try.f6.params[j]? = some t → args[j]? = some v → Value.okWide Try.prog W .any base t v := hval0
  have hW' := hW
  obtain ⟨p, q, hA0, hV, rfl, hfz, hnd⟩ := hW
  have hA : DataW.TrodAll enc Try.prog W 0 (fun _ => true) true Try.f6.params.toList args.toList ds p := hA0
  rw [Try.params6] at hA hval hsz
  obtain ⟨v0, vs0, d0, ds0, p0, q0, hargs, rfl, rfl, h0, r0⟩ := trodAll_cons hA
  obtain ⟨v1, vs1, d1, ds1, p1, q1, rfl, rfl, rfl, h1, r1⟩ := trodAll_cons r0
  obtain ⟨rfl, rfl, rfl⟩ := trodAll_nil r1
  obtain rfl : args = #[v0, v1] := by cases args; simp_all
  obtain ⟨rfl, rfl⟩ := trodVars_none hV
  obtain ⟨cs0, rfl, _⟩ := okWide_struct Try.underlying24 (hval 0 24 v0 rfl rfl)
  have k0 := h0
  have lt0 : ∀ x ∈ p0, x.block < W.heap.size := by obtain ⟨m, hm⟩ := k0; exact DataW.trod_lt m _ _ _ hm
  have sz0 : ∀ n ∈ d0.weights Try.prog 24, n ≤ reachBytes := by
    intro n hn
    have z := List.all_eq_true.1 hsz n (DataW.weights_mem_each (j := 0) (t := 24) (d := d0) rfl rfl n hn)
    simpa using z
  obtain ⟨fuel0, hf0⟩ := h0
  obtain ⟨ln0, pt0⟩ := struct_parts Try.underlying24 hf0 sz0
  obtain ⟨cs0⟩ := cs0
  simp only [Value.cells] at ln0 pt0
  obtain ⟨c0_0, c0_1, rfl⟩ := len2 ln0
  obtain ⟨n0_0, y0_0, t0_0, z0_0⟩ := pt0 0 _ rfl
  obtain ⟨a0_0, e0_0, w0_0⟩ := (Rd_int (P := Try.prog) Try.underlying22) enc W _ _ _ t0_0 z0_0
  obtain rfl : c0_0 = .int .u64 a0_0 := by have z : [c0_0] = [.int .u64 a0_0] := e0_0; exact (List.cons.inj z).1
  obtain ⟨n0_1, y0_1, t0_1, z0_1⟩ := pt0 1 _ rfl
  obtain ⟨a0_1, e0_1, w0_1⟩ := (Rd_int (P := Try.prog) Try.underlying22) enc W _ _ _ t0_1 z0_1
  obtain rfl : c0_1 = .int .u64 a0_1 := by have z : [c0_1] = [.int .u64 a0_1] := e0_1; exact (List.cons.inj z).1
  obtain ⟨cs1, rfl, _⟩ := okWide_struct Try.underlying24 (hval 1 24 v1 rfl rfl)
  have k1 := h1
  have lt1 : ∀ x ∈ p1, x.block < W.heap.size := by obtain ⟨m, hm⟩ := k1; exact DataW.trod_lt m _ _ _ hm
  have sz1 : ∀ n ∈ d1.weights Try.prog 24, n ≤ reachBytes := by
    intro n hn
    have z := List.all_eq_true.1 hsz n (DataW.weights_mem_each (j := 1) (t := 24) (d := d1) rfl rfl n hn)
    simpa using z
  obtain ⟨fuel1, hf1⟩ := h1
  obtain ⟨ln1, pt1⟩ := struct_parts Try.underlying24 hf1 sz1
  obtain ⟨cs1⟩ := cs1
  simp only [Value.cells] at ln1 pt1
  obtain ⟨c1_0, c1_1, rfl⟩ := len2 ln1
  obtain ⟨n1_0, y1_0, t1_0, z1_0⟩ := pt1 0 _ rfl
  obtain ⟨a1_0, e1_0, w1_0⟩ := (Rd_int (P := Try.prog) Try.underlying22) enc W _ _ _ t1_0 z1_0
  obtain rfl : c1_0 = .int .u64 a1_0 := by have z : [c1_0] = [.int .u64 a1_0] := e1_0; exact (List.cons.inj z).1
  obtain ⟨n1_1, y1_1, t1_1, z1_1⟩ := pt1 1 _ rfl
  obtain ⟨a1_1, e1_1, w1_1⟩ := (Rd_int (P := Try.prog) Try.underlying22) enc W _ _ _ t1_1 z1_1
  obtain rfl : c1_1 = .int .u64 a1_1 := by have z : [c1_1] = [.int .u64 a1_1] := e1_1; exact (List.cons.inj z).1
  clear hA0 hval0 hsz0 hsz
  refine (lorgnettelaw01_WideBack.calls 600 a0_0 a0_1 a1_0 a1_1 true W (WideBack_pure a0_0 a0_1 a1_0 a1_1 w0_0 w0_1 w1_0 w1_1)).mono fun e W' ⟨he, bel⟩ => ?_
  subst he
  exact ⟨_, rfl, _, _, _, [], _, [], hW', trodAll_mk1 (shut_bool Try.underlying4 _), (trodAll_cons_mk (Below.trod laidOut (by kernel_rfl) (of_decide_eq_true (by kernel_rfl)) k0 bel lt0) (trodAll_cons_mk (Below.trod laidOut (by kernel_rfl) (of_decide_eq_true (by kernel_rfl)) k1 bel lt1) trodAll_mk0)), rfl, bel.frame _, fun h => by cases h⟩
theorem over : Rows.wideBackRow.holds Try.pinned (OpenSpec.ofChange Rows.wideBackSpec) :=
  OpenClaim.holds_of_wide 6 Try.f6 rfl rfl rfl rfl rfl rfl rfl ⟨rfl, rfl, rfl, rfl, rfl⟩ rfl rfl rfl rfl rfl (by kernel_rfl) Try.func6 (by kernel_rfl)
    (of_decide_eq_true (by kernel_rfl)) (by unfold Func.isWrapper; first | (rw [if_pos (by decide +kernel)]; kernel_rfl) | (rw [if_neg (by decide +kernel)]; exact ⟨rfl, rfl⟩))
    (fun os started H enc _ => lifted os started H enc)
theorem proved : Rows.WideBackSaid := over
#print axioms proved
end Go.Proofs.Ytjnaebcdidilgaa.wideBack
namespace Go.Proofs.Ytjnaebcdidilgaa
/-- The row, under a short name, for the claim. -/
theorem wideBack_holds : Rows.WideBackSaid := wideBack.proved
end Go.Proofs.Ytjnaebcdidilgaa
