/- The law WideTexts: whatever the input, it returns true and leaves its arguments as they were. No condition. (halved) -/
import Derived.Test.YtjnaebcdidilgaaRows
import Derived.Test.YtjnaebcdidilgaaQx27
import Derived.Test.YtjnaebcdidilgaaTxtPure
import Derived.Test.YtjnaebcdidilgaaRd
import Derived.WalkKit
import Derived.ProofKit
import Derived.OpenShut
import Derived.ShutString
import Derived.ChangeOld
import Derived.Below
import Derived.SizedLaws
import Derived.Carry
namespace Go.Proofs.Ytjnaebcdidilgaa.wideTexts
open Go.ChangeShapes Go.WideShapes Go.ChangeAt Go.RowKit
open Go.ChangeMaps (open_string shut_string)
open Go.Proofs.Ytjnaebcdidilgaa.Q Go.Proofs.Ytjnaebcdidilgaa.Rd
set_option linter.unusedVariables false
set_option linter.unusedSimpArgs false
theorem own : ownKnob Try.prog.godebug = none := by kernel_rfl
theorem laidOut : laidOutB Try.prog = true := by kernel_rfl
set_option maxRecDepth 100000 in
theorem lifted (os : Os) (started : os.Started) (H : Type) (enc : TypeId × Value → H) :
  ReturnsInHanded {} Try.checked os 3 .any (Rows.wideTextsSpec.pre6 enc Try.prog Try.f3 Rows.wideTextsRow.domain false) (Rows.wideTextsSpec.post enc Try.prog Try.f3 false true false false) := by
 refine returnsInHanded_of_change_sized (C := Try.checked) own started (by kernel_rfl) Try.func3
  (ChangeSpec.witness6 (enc := enc) (C := Try.checked) false ⟨#[], #[.agg #[.int .u64 0, .int .u64 0], .string ByteArray.empty, .int .i64 0], []⟩ 8 (by kernel_rfl) (by kernel_rfl) (by kernel_rfl) (by kernel_rfl)) ?_
 intro W base args ds gs before hval0 hW hcnd hsz0 _
 have hsz : (DataW.weightsEach Try.prog (Try.f3.params.toList ++ Rows.wideTextsSpec.plain.varTypes Try.prog) (ds ++ gs)).all (· ≤ reachBytes) = true := hsz0
 have hval : ∀ (j : Nat) t v, Try.f3.params[j]? = some t → args[j]? = some v → Value.okWide Try.prog W .any base t v := hval0
 have hW' := hW
 obtain ⟨p, q, hA0, hV, rfl, hfz, hnd⟩ := hW
 have hA : DataW.TrodAll enc Try.prog W 0 (fun _ => true) true Try.f3.params.toList args.toList ds p := hA0
 rw [Try.params3] at hA hval hsz
 obtain ⟨v0, vs0, d0, ds0, p0, q0, hargs, rfl, rfl, h0, r0⟩ := trodAll_cons hA
 obtain ⟨v1, vs1, d1, ds1, p1, q1, rfl, rfl, rfl, h1, r1⟩ := trodAll_cons r0
 obtain ⟨v2, vs2, d2, ds2, p2, q2, rfl, rfl, rfl, h2, r2⟩ := trodAll_cons r1
 obtain ⟨rfl, rfl, rfl⟩ := trodAll_nil r2
 obtain rfl : args = #[v0, v1, v2] := by cases args; simp_all
 obtain ⟨rfl, rfl⟩ := trodVars_none hV
 obtain ⟨cs0, rfl, _⟩ := okWide_struct Try.underlying24 (hval 0 24 v0 rfl rfl)
 have k0 := h0
 have lt0 : ∀ x ∈ p0, x.block < W.heap.size := by obtain ⟨m, hm⟩ := k0; exact DataW.trod_lt m _ _ _ hm
 have sz0 : ∀ n ∈ d0.weights Try.prog 24, n ≤ reachBytes := by
  intro n hn
  have z := List.all_eq_true.1 hsz n (DataW.weights_mem_each (j := 0) (t := 24) (d := d0) rfl rfl n hn)
  simpa using z
 obtain ⟨fuel0, hf0⟩ := h0
 obtain ⟨ln0, pt0⟩ := struct_parts Try.underlying24 hf0 sz0
 obtain ⟨cs0⟩ := cs0
 simp only [Value.cells] at ln0 pt0
 obtain ⟨c0_0, c0_1, rfl⟩ := len2 ln0
 obtain ⟨n0_0, y0_0, t0_0, z0_0⟩ := pt0 0 _ rfl
 obtain ⟨a0_0, e0_0, w0_0⟩ := (Rd_int (P := Try.prog) Try.underlying22) enc W _ _ _ t0_0 z0_0
 obtain rfl : c0_0 = .int .u64 a0_0 := by have z : [c0_0] = [.int .u64 a0_0] := e0_0; exact (List.cons.inj z).1
 obtain ⟨n0_1, y0_1, t0_1, z0_1⟩ := pt0 1 _ rfl
 obtain ⟨a0_1, e0_1, w0_1⟩ := (Rd_int (P := Try.prog) Try.underlying22) enc W _ _ _ t0_1 z0_1
 obtain rfl : c0_1 = .int .u64 a0_1 := by have z : [c0_1] = [.int .u64 a0_1] := e0_1; exact (List.cons.inj z).1
 obtain ⟨a1, rfl, rfl, rfl, y1⟩ := open_string Try.underlying9 (hval 1 9 v1 rfl rfl) h1
 have w1 : a1.size ≤ 140737488351232 := by
  have z := sized_string hsz (j := 1) (t := 9) rfl rfl
  rw [Array.length_toList] at z
  exact z
 obtain ⟨a2, rfl, rfl, rfl, w2⟩ := open_int Try.underlying3 (hval 2 3 v2 rfl rfl) h2
 clear hA0 hval0 hsz0 hsz
 refine (lorgnettelaw01_WideTexts.calls 20000 a0_0 a0_1 a1 a2 true W (WideTexts_pure a0_0 a0_1 a1 a2 w0_0 w0_1 w1 w2)).mono fun e W' ⟨he, bel⟩ => ?_
 subst he
 exact ⟨_, rfl, _, _, _, [], _, [], hW', trodAll_mk1 (shut_bool Try.underlying4 _), (trodAll_cons_mk (Below.trod laidOut (by kernel_rfl) (of_decide_eq_true (by kernel_rfl)) k0 bel lt0) (trodAll_cons_mk (shut_string Try.underlying9 y1) (trodAll_cons_mk (shut_int Try.underlying3 w2) trodAll_mk0))), rfl, bel.frame _, fun h => by cases h⟩
theorem over : Rows.wideTextsRow.holds Try.pinned (OpenSpec.ofChange Rows.wideTextsSpec) :=
 OpenClaim.holds_of_wide 3 Try.f3 rfl rfl rfl rfl rfl rfl rfl ⟨rfl, rfl, rfl, rfl, rfl⟩ rfl rfl rfl rfl rfl (by kernel_rfl) Try.func3 (by kernel_rfl)
  (of_decide_eq_true (by kernel_rfl)) (by unfold Func.isWrapper; first | (rw [if_pos (by decide +kernel)]; kernel_rfl) | (rw [if_neg (by decide +kernel)]; exact ⟨rfl, rfl⟩))
  (fun os started H enc _ => lifted os started H enc)
theorem proved : Rows.WideTextsSaid := over
#print axioms proved
end Go.Proofs.Ytjnaebcdidilgaa.wideTexts
namespace Go.Proofs.Ytjnaebcdidilgaa
/-- The row, under a short name, for the claim. -/
theorem wideTexts_holds : Rows.WideTextsSaid := wideTexts.proved
end Go.Proofs.Ytjnaebcdidilgaa
