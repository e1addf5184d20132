/- The law FoldOrders: whatever the input, it returns true and leaves its arguments as they were. No condition. -/
import Derived.Test.YtekndmlcmepekaaRows
import Derived.Test.YtekndmlcmepekaaQx21
import Derived.Test.YtekndmlcmepekaaPFoldOrders
import Derived.Test.YtekndmlcmepekaaRd
import Derived.WalkKit
import Derived.ProofKit
import Derived.OpenShut
import Derived.ShutString
import Derived.ChangeOld
import Derived.Below
import Derived.SizedLaws
import Derived.Carry
namespace Go.Proofs.Ytekndmlcmepekaa.foldOrders
open Go.ChangeShapes Go.WideShapes Go.ChangeAt Go.RowKit
open Go.ChangeMaps (open_string shut_string)
open Go.Proofs.Ytekndmlcmepekaa.Q Go.Proofs.Ytekndmlcmepekaa.Rd
set_option linter.unusedVariables false
set_option linter.unusedSimpArgs false
theorem own : ownKnob Try.prog.godebug = none := by kernel_rfl
theorem laidOut : laidOutB Try.prog = true := by kernel_rfl
set_option maxRecDepth 100000 in
theorem lifted (os : Os) (started : os.Started) (H : Type) (enc : TypeId × Value → H) :
    ReturnsInHanded {} Try.checked os 4 .any (Rows.foldOrdersSpec.pre6 enc Try.prog Try.f4 Rows.foldOrdersRow.domain false) (Rows.foldOrdersSpec.post enc Try.prog Try.f4 false true false false) := by
  refine returnsInHanded_of_change_sized (C := Try.checked) own started (by kernel_rfl) Try.func4
    (ChangeSpec.witness6 (enc := enc) (C := Try.checked) false ⟨#[], #[.agg #[.int .i64 0, .int .u64 0, .int .u64 0, .bool false, .string ByteArray.empty], .agg #[.int .i64 0, .int .u64 0, .int .u64 0, .bool false, .string ByteArray.empty]], []⟩ 8 (by kernel_rfl) (by kernel_rfl) (by kernel_rfl) (by kernel_rfl)) ?_
  intro W base args ds gs before hval0 hW hcnd hsz0 _
  have hsz : (DataW.weightsEach Try.prog (Try.f4.params.toList ++ Rows.foldOrdersSpec.plain.varTypes Try.prog) (ds ++ gs)).all (· ≤ reachBytes) = true := hsz0
  have hval : ∀ (j : Nat) t v, Try.f4.params[j]? = some t → args[j]? = some v → Value.okWide Try.prog W .any base t v := hval0
  have hW' := hW
  obtain ⟨p, q, hA0, hV, rfl, hfz, hnd⟩ := hW
  have hA : DataW.TrodAll enc Try.prog W 0 (fun _ => true) true Try.f4.params.toList args.toList ds p := hA0
  rw [Try.params4] at hA hval hsz
  obtain ⟨v0, vs0, d0, ds0, p0, q0, hargs, rfl, rfl, h0, r0⟩ := trodAll_cons hA
  obtain ⟨v1, vs1, d1, ds1, p1, q1, rfl, rfl, rfl, h1, r1⟩ := trodAll_cons r0
  obtain ⟨rfl, rfl, rfl⟩ := trodAll_nil r1
  obtain rfl : args = #[v0, v1] := by cases args; simp_all
  obtain ⟨rfl, rfl⟩ := trodVars_none hV
  obtain ⟨cs0, rfl, _⟩ := okWide_struct Try.underlying28 (hval 0 28 v0 rfl rfl)
  have k0 := h0
  have lt0 : ∀ x ∈ p0, x.block < W.heap.size := by obtain ⟨m, hm⟩ := k0; exact DataW.trod_lt m _ _ _ hm
  have sz0 : ∀ n ∈ d0.weights Try.prog 28, n ≤ reachBytes := by
    intro n hn
    have z := List.all_eq_true.1 hsz n (DataW.weights_mem_each (j := 0) (t := 28) (d := d0) rfl rfl n hn)
    simpa using z
  obtain ⟨fuel0, hf0⟩ := h0
  obtain ⟨ln0, pt0⟩ := struct_parts Try.underlying28 hf0 sz0
  obtain ⟨cs0⟩ := cs0
  simp only [Value.cells] at ln0 pt0
  obtain ⟨c0_0, c0_1, c0_2, c0_3, c0_4, rfl⟩ := len5 ln0
  obtain ⟨n0_0, y0_0, t0_0, z0_0⟩ := pt0 0 _ rfl
  obtain ⟨a0_0, e0_0, w0_0⟩ := (Rd_int (P := Try.prog) Try.underlying3) enc W _ _ _ t0_0 z0_0
  obtain rfl : c0_0 = .int .i64 a0_0 := by have z : [c0_0] = [.int .i64 a0_0] := e0_0; exact (List.cons.inj z).1
  obtain ⟨n0_1, y0_1, t0_1, z0_1⟩ := pt0 1 _ rfl
  obtain ⟨ln0_1, pt0_1⟩ := struct_parts Try.underlying26 t0_1 z0_1
  obtain ⟨n0_1_0, y0_1_0, t0_1_0, z0_1_0⟩ := pt0_1 0 _ rfl
  obtain ⟨a0_1_0, e0_1_0, w0_1_0⟩ := (Rd_int (P := Try.prog) Try.underlying24) enc W _ _ _ t0_1_0 z0_1_0
  obtain rfl : c0_1 = .int .u64 a0_1_0 := by have z : [c0_1] = [.int .u64 a0_1_0] := e0_1_0; exact (List.cons.inj z).1
  obtain ⟨n0_1_1, y0_1_1, t0_1_1, z0_1_1⟩ := pt0_1 1 _ rfl
  obtain ⟨a0_1_1, e0_1_1, w0_1_1⟩ := (Rd_int (P := Try.prog) Try.underlying24) enc W _ _ _ t0_1_1 z0_1_1
  obtain rfl : c0_2 = .int .u64 a0_1_1 := by have z : [c0_2] = [.int .u64 a0_1_1] := e0_1_1; exact (List.cons.inj z).1
  obtain ⟨n0_2, y0_2, t0_2, z0_2⟩ := pt0 2 _ rfl
  obtain ⟨a0_2, e0_2, w0_2⟩ := (Rd_bool (P := Try.prog) Try.underlying4) enc W _ _ _ t0_2 z0_2
  obtain rfl : c0_3 = .bool a0_2 := by have z : [c0_3] = [.bool a0_2] := e0_2; exact (List.cons.inj z).1
  obtain ⟨n0_3, y0_3, t0_3, z0_3⟩ := pt0 3 _ rfl
  obtain ⟨a0_3, e0_3, w0_3⟩ := (Rd_string (P := Try.prog) Try.underlying9) enc W _ _ _ t0_3 z0_3
  obtain rfl : c0_4 = .string a0_3 := by have z : [c0_4] = [.string a0_3] := e0_3; exact (List.cons.inj z).1
  obtain ⟨cs1, rfl, _⟩ := okWide_struct Try.underlying28 (hval 1 28 v1 rfl rfl)
  have k1 := h1
  have lt1 : ∀ x ∈ p1, x.block < W.heap.size := by obtain ⟨m, hm⟩ := k1; exact DataW.trod_lt m _ _ _ hm
  have sz1 : ∀ n ∈ d1.weights Try.prog 28, n ≤ reachBytes := by
    intro n hn
    have z := List.all_eq_true.1 hsz n (DataW.weights_mem_each (j := 1) (t := 28) (d := d1) rfl rfl n hn)
    simpa using z
  obtain ⟨fuel1, hf1⟩ := h1
  obtain ⟨ln1, pt1⟩ := struct_parts Try.underlying28 hf1 sz1
  obtain ⟨cs1⟩ := cs1
  simp only [Value.cells] at ln1 pt1
  obtain ⟨c1_0, c1_1, c1_2, c1_3, c1_4, rfl⟩ := len5 ln1
  obtain ⟨n1_0, y1_0, t1_0, z1_0⟩ := pt1 0 _ rfl
  obtain ⟨a1_0, e1_0, w1_0⟩ := (Rd_int (P := Try.prog) Try.underlying3) enc W _ _ _ t1_0 z1_0
  obtain rfl : c1_0 = .int .i64 a1_0 := by have z : [c1_0] = [.int .i64 a1_0] := e1_0; exact (List.cons.inj z).1
  obtain ⟨n1_1, y1_1, t1_1, z1_1⟩ := pt1 1 _ rfl
  obtain ⟨ln1_1, pt1_1⟩ := struct_parts Try.underlying26 t1_1 z1_1
  obtain ⟨n1_1_0, y1_1_0, t1_1_0, z1_1_0⟩ := pt1_1 0 _ rfl
  obtain ⟨a1_1_0, e1_1_0, w1_1_0⟩ := (Rd_int (P := Try.prog) Try.underlying24) enc W _ _ _ t1_1_0 z1_1_0
  obtain rfl : c1_1 = .int .u64 a1_1_0 := by have z : [c1_1] = [.int .u64 a1_1_0] := e1_1_0; exact (List.cons.inj z).1
  obtain ⟨n1_1_1, y1_1_1, t1_1_1, z1_1_1⟩ := pt1_1 1 _ rfl
  obtain ⟨a1_1_1, e1_1_1, w1_1_1⟩ := (Rd_int (P := Try.prog) Try.underlying24) enc W _ _ _ t1_1_1 z1_1_1
  obtain rfl : c1_2 = .int .u64 a1_1_1 := by have z : [c1_2] = [.int .u64 a1_1_1] := e1_1_1; exact (List.cons.inj z).1
  obtain ⟨n1_2, y1_2, t1_2, z1_2⟩ := pt1 2 _ rfl
  obtain ⟨a1_2, e1_2, w1_2⟩ := (Rd_bool (P := Try.prog) Try.underlying4) enc W _ _ _ t1_2 z1_2
  obtain rfl : c1_3 = .bool a1_2 := by have z : [c1_3] = [.bool a1_2] := e1_2; exact (List.cons.inj z).1
  obtain ⟨n1_3, y1_3, t1_3, z1_3⟩ := pt1 3 _ rfl
  obtain ⟨a1_3, e1_3, w1_3⟩ := (Rd_string (P := Try.prog) Try.underlying9) enc W _ _ _ t1_3 z1_3
  obtain rfl : c1_4 = .string a1_3 := by have z : [c1_4] = [.string a1_3] := e1_3; exact (List.cons.inj z).1
  clear hA0 hval0 hsz0 hsz
  refine (lorgnettelaw08_FoldOrders.calls 600 a0_0 a0_1_0 a0_1_1 a0_2 a0_3 a1_0 a1_1_0 a1_1_1 a1_2 a1_3 true W (FoldOrders_pure a0_0 a0_1_0 a0_1_1 a0_2 a0_3 a1_0 a1_1_0 a1_1_1 a1_2 a1_3 w0_0 w0_1_0 w0_1_1 w0_3 w1_0 w1_1_0 w1_1_1 w1_3)).mono fun e W' ⟨he, bel⟩ => ?_
  subst he
  exact ⟨_, rfl, _, _, _, [], _, [], hW', trodAll_mk1 (shut_bool Try.underlying4 _), (trodAll_cons_mk (Below.trod laidOut (by kernel_rfl) (of_decide_eq_true (by kernel_rfl)) k0 bel lt0) (trodAll_cons_mk (Below.trod laidOut (by kernel_rfl) (of_decide_eq_true (by kernel_rfl)) k1 bel lt1) trodAll_mk0)), rfl, bel.frame _, fun h => by cases h⟩
theorem over : Rows.foldOrdersRow.holds Try.pinned (OpenSpec.ofChange Rows.foldOrdersSpec) :=
  OpenClaim.holds_of_wide 4 Try.f4 rfl rfl rfl rfl rfl rfl rfl ⟨rfl, rfl, rfl, rfl, rfl⟩ rfl rfl rfl rfl rfl (by kernel_rfl) Try.func4 (by kernel_rfl)
    (of_decide_eq_true (by kernel_rfl)) (by unfold Func.isWrapper; first | (rw [if_pos (by decide +kernel)]; kernel_rfl) | (rw [if_neg (by decide +kernel)]; exact ⟨rfl, rfl⟩))
    (fun os started H enc _ => lifted os started H enc)
theorem proved : Rows.FoldOrdersSaid := over
#print axioms proved
end Go.Proofs.Ytekndmlcmepekaa.foldOrders
namespace Go.Proofs.Ytekndmlcmepekaa
/-- The row, under a short name, for the claim. -/
theorem foldOrders_holds : Rows.FoldOrdersSaid := foldOrders.proved
end Go.Proofs.Ytekndmlcmepekaa
