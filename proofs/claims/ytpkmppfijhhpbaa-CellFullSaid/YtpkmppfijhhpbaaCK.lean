/- Chapter 15 (cell): the law CellFull over the abstract machine. No condition. -/
import Derived.Test.YtpkmppfijhhpbaaCJV
import Derived.Test.YtpkmppfijhhpbaaCI
namespace Go.Proofs.Ytpkmppfijhhpbaa.Ch
open Go Go.Proofs Go.Proofs.Ytpkmppfijhhpbaa.Sx
set_option linter.unusedVariables false
set_option linter.unusedSimpArgs false

theorem make0_ok : ∀ args h Q, make0_t args h Q → FSpec Try.prog 9 args h Q :=
  tr_ok (he := fun _ => []) noH_ok fun (_, ys, _) y Q h => by
    refine spec_body gok0 Try.func9 rfl noLam_ok ?_
    show body Try.prog (gam []) noLam Try.f9 [.c .nilp, .c (.row tV ys)] [] _
    rw [vc_make0]
    exact h
theorem len0_ok : ∀ args h Q, len0_t args h Q → FSpec Try.prog 15 args h Q :=
  tr_ok (he := fun _ => []) noH_ok fun _ y Q h => by
    refine spec_body gok0 Try.func15 rfl noLam_ok ?_
    show body Try.prog (gam []) noLam Try.f15 [.c .nilp] [] _
    rw [vc_len0]
    exact h
theorem row0_ok : ∀ args h Q, row0_t args h Q → FSpec Try.prog 16 args h Q :=
  tr_ok (he := fun _ => []) noH_ok fun (_, a, n, _) y Q h => by
    refine spec_body gok0 Try.func16 rfl noLam_ok ?_
    show body Try.prog (gam []) noLam Try.f16 [.c .nilp, ti a, ti n] [] _
    rw [vc_row0]
    exact h
theorem gok00 : GOK Try.prog (gam g0) := gam_ok ⟨row0_ok, clone_ok, trivial⟩
theorem get0_ok : ∀ args h Q, get0_t args h Q → FSpec Try.prog 11 args h Q :=
  tr_ok (he := fun _ => []) noH_ok fun (_, a, n, _) y Q h => by
    refine spec_body gok00 Try.func11 rfl noLam_ok ?_
    show body Try.prog (gam g0) noLam Try.f11 [.c .nilp, ti a, ti n] [] _
    rw [vc_get0]
    exact ⟨by omega, h⟩
theorem set0_ok : ∀ args h Q, set0_t args h Q → FSpec Try.prog 14 args h Q :=
  tr_ok (he := fun _ => []) noH_ok fun (_, a, ys, _) y Q h => by
    refine spec_body gok00 Try.func14 rfl noLam_ok ?_
    show body Try.prog (gam g0) noLam Try.f14 [.c .nilp, ti a, .c (.row tV ys)] [] _
    rw [vc_set0]
    exact fun _ => h
theorem gokFull : GOK Try.prog (gam gFull) := gam_ok ⟨awake_ok, new_ok, orNil_ok make0_ok make_ok, orNil_ok get0_ok get_ok, orNil_ok set0_ok set_ok, orNil_ok len0_ok len_ok, trivial⟩
set_option maxRecDepth 100000 in
theorem full_loop (zs : List V) (h1 : 1024 ≤ zs.length) (h2 : zs.length ≤ 65536) (Q : Exit → SS → Prop) (hq : Q .ret (stRes 105 2 (.c (.bool true)))) : W 0 Try.prog (.loop (lp Try.f5 0)) (stF [] zs 0) Q := by
  refine W_loopE (fun y : List V × Nat => stF y.1 zs y.2) (fun y => y.1.length ≤ 65536 ∧ 1024 * y.2 ≤ y.1.length) (fun y => 300 - y.2) [4, 5, 6] [] [2] ?_ ([], 0) ⟨by simp, by simp⟩
  rintro ⟨xs, i⟩ ⟨hx, hi⟩
  dsimp only at hx hi
  refine sx_ok (Λ := noLam) gokFull _ 0 _ _ noLam_ok ?_
  rw [vc_full_l]
  have ei : IntKind.i64.wrap ((i : Int) + 1) = ((i + 1 : Nat) : Int) := by rw [w64 (x := (i : Int) + 1) (by omega) (by omega)]; rfl
  have e1 : IntKind.i64.wrap ((xs.length : Int) + (zs.length : Int)) = ((xs.length + zs.length : Nat) : Int) := by rw [w64 (by omega) (by omega)]; omega
  have e2 : IntKind.i64.wrap ((xs.length : Int) + 1) = (xs.length : Int) + 1 := w64 (by omega) (by omega)
  refine cond_of (fun _ => ?_) (fun h => by simp at h; omega)
  rw [vw_all, ei, e1, e2]
  refine ⟨rfl, by omega, ⟨rfl, hx⟩, fun hl _ => ?_, fun hl _ => ?_⟩
  · dsimp only at hl
    rw [show decide (((xs.length + zs.length : Nat) : Int) > 65536) = true by simp; omega]
    refine ⟨by omega, rfl, ?_⟩
    simp only [beq_self_eq_true, Bool.and_self, cond_true]
    exact hq
  · dsimp only at hl
    rw [show decide (((xs.length + zs.length : Nat) : Int) > 65536) = false by simp; omega]
    simp only [bne_self_eq_false, Bool.or_self, cond_false, List.length_append]
    exact ⟨trivial, (xs ++ zs, i + 1), by simp only [stF, List.length_append], ⟨by rw [List.length_append]; omega, by rw [List.length_append]; dsimp only; omega⟩, by dsimp only; omega⟩
set_option maxRecDepth 100000 in
theorem full_ok (n : Int) : FSpec Try.prog 5 [ti n] [] fun r h' => r = .p (.c (.bool true)) := by
  refine spec_body (Λ := lam [(0, full_l)]) gokFull Try.func5 rfl ?_ ?_
  · show LOK 0 Try.prog (lam [(0, full_l)]) [(0, lp Try.f5 0)]
    exact lokl ⟨lam_ok fun zs Q ⟨a1, a2⟩ a => full_loop zs a1 a2 Q a, trivial⟩
  · show body Try.prog (gam gFull) (lam [(0, full_l)]) Try.f5 [ti n] [] _
    rw [vc_full]
    obtain ⟨k, hk, hk2⟩ : ∃ k : Nat, IntKind.i64.wrap ((IntKind.u64.wrap n).tmod 16384) = (k : Int) ∧ k < 16384 := by
      have h2 : 0 ≤ IntKind.u64.wrap n := by rw [IntKind.wrap_u64]; omega
      have h3 : 0 ≤ (IntKind.u64.wrap n).tmod 16384 := Int.tmod_nonneg _ h2
      have h4 : (IntKind.u64.wrap n).tmod 16384 < 16384 := Int.tmod_lt_of_pos _ (by omega)
      exact ⟨((IntKind.u64.wrap n).tmod 16384).toNat, by rw [w64 (by omega) (by omega)]; omega, by omega⟩
    rw [hk]
    have e1 : IntKind.i64.wrap (1 + (k : Int)) = ((1 + k : Nat) : Int) := by rw [w64 (by omega) (by omega)]; omega
    rw [e1]
    refine ⟨by omega, by omega, by omega, by omega, cond_of (fun hc => ?_) (fun hc => ?_)⟩
    · simp only [decide_eq_true_eq] at hc
      have e2 : IntKind.i64.wrap (65536 - ((1 + k : Nat) : Int)) = ((65535 - k : Nat) : Int) := by rw [w64 (by omega) (by omega)]; omega
      rw [e2]
      refine ⟨by omega, by omega, by omega, List.replicate (65535 - k) ((0 : Int), (0 : Int), (0 : Int), (0 : Int), ({ data := #[] } : ByteArray)), ?_, by rw [List.length_replicate]; omega, rfl⟩
      simp only [Int.toNat_natCast, List.length_replicate]; rfl
    · simp only [decide_eq_false_iff_not] at hc
      refine ⟨List.replicate (1 + k) ((0 : Int), (0 : Int), (0 : Int), (0 : Int), ({ data := #[] } : ByteArray)), ?_, by rw [List.length_replicate]; omega, rfl⟩
      simp only [Int.toNat_natCast, List.length_replicate]; rfl
end Go.Proofs.Ytpkmppfijhhpbaa.Ch
