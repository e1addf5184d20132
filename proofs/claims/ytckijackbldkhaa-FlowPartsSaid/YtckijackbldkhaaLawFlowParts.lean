/- The law FlowParts: whatever the input, it returns true and leaves its arguments as they were. No condition. -/
import Derived.Test.YtckijackbldkhaaRows
import Derived.Test.YtckijackbldkhaaAC
namespace Go.Proofs.Ytckijackbldkhaa.flowParts
open Go.ChangeShapes Go.WideShapes Go.ChangeAt Go.RowKit
open Go.Proofs.Ytckijackbldkhaa.Sx Go.Proofs.Ytckijackbldkhaa.Ch
set_option linter.unusedVariables false
set_option linter.unusedSimpArgs false
theorem own : ownKnob Try.prog.godebug = none := by kernel_rfl
theorem laidOut : laidOutB Try.prog = true := by kernel_rfl
abbrev tys : List Ty := [(.prod .str (.prod (.int .i64) (.prod (.int .i64) (.prod (.row (.prod .str (.prod (.int .i64) (.prod .bool (.prod (.int .i64) (.prod (.int .i64) (.prod (.int .i64) (.int .i64)))))))) (.prod (.row (.int .i64)) (.prod (.int .i64) (.prod (.row (.prod (.int .i64) (.prod (.int .i64) (.prod (.int .i64) (.prod (.int .i64) (.prod (.int .i64) (.prod (.int .i64) (.prod .str (.prod (.prod (.int .i64) (.prod (.int .i64) (.prod (.int .i64) (.prod (.int .i64) .str)))) (.prod (.row (.int .i64)) (.prod (.int .i64) (.prod (.int .i64) (.prod (.row (.prod (.int .i64) (.prod (.int .i64) (.prod (.int .i64) (.prod (.int .i64) (.prod (.int .i64) (.int .i64))))))) (.prod (.int .i64) (.prod (.prod (.int .i64) (.prod (.int .i64) (.int .i64))) (.prod (.int .i64) (.int .i64))))))))))))))))) (.prod (.int .i64) (.prod (.row (.prod (.int .i64) (.prod (.int .i64) (.prod (.int .i64) (.int .i64))))) (.prod (.row (.prod (.int .i64) (.prod (.int .i64) (.prod (.prod (.int .i64) (.prod (.int .i64) (.int .i64))) (.int .i64))))) (.row (.prod (.prod (.int .i64) (.prod (.int .i64) (.int .i64))) .str))))))))))))]
set_option maxRecDepth 100000 in
theorem lifted (os : Os) (started : os.Started) (H : Type) (enc : TypeId × Value → H) :
    ReturnsInHanded {} Try.checked os 3 .any (Rows.flowPartsSpec.pre6 enc Try.prog Try.f3 Rows.flowPartsRow.domain false) (Rows.flowPartsSpec.post enc Try.prog Try.f3 false true false false) := by
  refine returnsInHanded_of_change_sized (C := Try.checked) own started (by kernel_rfl) Try.func3
    (ChangeSpec.witness6 (enc := enc) (C := Try.checked) false ⟨#[], #[.agg #[.string ByteArray.empty, .int .i64 0, .int .i64 0, .slice none 0 0, .slice none 0 0, .int .i64 0, .slice none 0 0, .int .i64 0, .slice none 0 0, .slice none 0 0, .slice none 0 0]], []⟩ 8 (by kernel_rfl) (by kernel_rfl) (by kernel_rfl) (by kernel_rfl)) ?_
  intro W base args ds gs before hval0 hW hcnd hsz0 _
  have hsz : (DataW.weightsEach Try.prog (Try.f3.params.toList ++ Rows.flowPartsSpec.plain.varTypes Try.prog) (ds ++ gs)).all (· ≤ reachBytes) = true := hsz0
  have hval : ∀ (j : Nat) t v, Try.f3.params[j]? = some t → args[j]? = some v → Value.okWide Try.prog W .any base t v := hval0
  have hW' := hW
  obtain ⟨p, q, hA0, hV, rfl, hfz, hnd⟩ := hW
  have hA : DataW.TrodAll enc Try.prog W 0 (fun _ => true) true Try.f3.params.toList args.toList ds p := hA0
  rw [Try.params3] at hA hval hsz
  obtain ⟨rfl, rfl⟩ := trodVars_none hV
  have hA' := hA
  obtain ⟨v0, vs0, d0, ds0, p0, q0, hargs, rfl, rfl, h0, r0⟩ := trodAll_cons hA
  obtain ⟨rfl, rfl, rfl⟩ := trodAll_nil r0
  obtain rfl : args = #[v0] := by cases args; simp_all
  obtain ⟨ys, hys, wys⟩ := open_all (k := 12) (r := .any) (base := base) (fun _ => none) [29] tys _ _ _ (by kernel_rfl) (fun j t v h1 h2 => hval j t v (by simpa using h1) (by simpa using h2)) hA
    (fun j t d h1 h2 n hn => by
      have z := List.all_eq_true.1 hsz n (DataW.weights_mem_each (j := j) (t := t) (d := d) (by rw [List.getElem?_append_left (by have := (List.getElem?_eq_some_iff.1 h1).1; simpa using this)]; simpa using h1) (by rw [List.append_nil]; exact h2) n hn)
      simpa using z)
  obtain ⟨y0, _⟩ := ys
  obtain ⟨w0, _⟩ := wys
  refine (law_calls (f := 3) (Ts := [29]) (tys := tys) (partsL_law y0) hys).mono fun e W' ⟨he, bel⟩ => ?_
  subst he
  exact ⟨_, rfl, _, _, _, [], _, [], hW', trodAll_mk1 (shut_bool Try.underlying4 _), trodAll_stays laidOut bel _ _ _ _ (by kernel_rfl) hA', rfl, bel.frame _, fun h => by cases h⟩
theorem over : Rows.flowPartsRow.holds Try.pinned (OpenSpec.ofChange Rows.flowPartsSpec) :=
  OpenClaim.holds_of_wide 3 Try.f3 rfl rfl rfl rfl rfl rfl rfl ⟨rfl, rfl, rfl, rfl, rfl⟩ rfl rfl rfl rfl rfl (by kernel_rfl) Try.func3 (by kernel_rfl)
    (of_decide_eq_true (by kernel_rfl)) (by unfold Func.isWrapper; first | (rw [if_pos (by decide +kernel)]; kernel_rfl) | (rw [if_neg (by decide +kernel)]; exact ⟨rfl, rfl⟩))
    (fun os started H enc _ => lifted os started H enc)
theorem proved : Rows.FlowPartsSaid := over
#print axioms proved
end Go.Proofs.Ytckijackbldkhaa.flowParts
namespace Go.Proofs.Ytckijackbldkhaa
/-- The row, under a short name, for the claim. -/
theorem flowParts_holds : Rows.FlowPartsSaid := flowParts.proved
end Go.Proofs.Ytckijackbldkhaa
