/- Chapter 7 (scope): scope's small functions, proved. No condition. -/
import Derived.Test.YtlfnpdfgdebhkaaSAV
namespace Go.Proofs.Ytlfnpdfgdebhkaa.Ch
open Go Go.Proofs Go.Proofs.Ytlfnpdfgdebhkaa.Sx
set_option linter.unusedVariables false
set_option linter.unusedSimpArgs false

theorem in_eq (n : Nat) (i : Int) : (!false && decide (i ≥ 1) && decide (i < (n : Int))) = inB n i := by
  unfold inB; simp
theorem inB_iff {n : Nat} {i : Int} : inB n i = true ↔ 1 ≤ i ∧ i < n := by simp [inB]
theorem has_ok : ∀ args h Q, has_t args h Q → FSpec Try.prog 23 args h Q := trH_ok fun ((_, i, _) : Unit × Int × Unit) ((n, m, _), o, l, es, _) Q ⟨⟨hn, hm, ho, hl, h1⟩, h⟩ => by
  dsimp only at hn hm ho hl h1 h; subst hn hm
  refine spec_body gok0 Try.func23 rfl noLam_ok ?_
  show body Try.prog (gam []) noLam Try.f23 [.c (.ptr 0 0), ti i] [.cells 67 [.view tI 1 0 o.length, .view tO 2 0 l.length, .mp 3], .row 3 tI o, .row 40 tO l, .map true tKy false tI es] _
  rw [vc_has, in_eq]; exact h
theorem has0_ok : ∀ args h Q, has0_t args h Q → FSpec Try.prog 23 args h Q := trH_ok fun (_, i, _) _ Q h => by
  refine spec_body gok0 Try.func23 rfl noLam_ok ?_
  show body Try.prog (gam []) noLam Try.f23 [.c .nilp, ti i] [] _
  rw [vc_has0]; exact h
theorem holds_ok : ∀ args h Q, holds_t args h Q → FSpec Try.prog 29 args h Q := trH_ok fun ((_, i, _) : Unit × Int × Unit) ((n, m, _), o, l, es, _) Q ⟨⟨hn, hm, ho, hl, h1⟩, h⟩ => by
  dsimp only at hn hm ho hl h1 h; subst hn hm
  refine spec_body gok0 Try.func29 rfl noLam_ok ?_
  show body Try.prog (gam []) noLam Try.f29 [.c (.ptr 0 0), ti i] [.cells 67 [.view tI 1 0 o.length, .view tO 2 0 l.length, .mp 3], .row 3 tI o, .row 40 tO l, .map true tKy false tI es] _
  rw [vc_holds, in_eq]; exact h
theorem holds0_ok : ∀ args h Q, holds0_t args h Q → FSpec Try.prog 29 args h Q := trH_ok fun (_, i, _) _ Q h => by
  refine spec_body gok0 Try.func29 rfl noLam_ok ?_
  show body Try.prog (gam []) noLam Try.f29 [.c .nilp, ti i] [] _
  rw [vc_holds0]; exact h
theorem kind_ok : ∀ args h Q, kind_t args h Q → FSpec Try.prog 24 args h Q := trH_ok fun ((k, _) : Int × Unit) _ Q h => by
  refine spec_body gok0 Try.func24 rfl noLam_ok ?_
  show body Try.prog (gam []) noLam Try.f24 [ti k] [] _
  rw [vc_kind]; exact h
theorem len_ok : ∀ args h Q, len_t args h Q → FSpec Try.prog 14 args h Q := trH_ok fun _ ((n, m, _), o, l, es, _) Q ⟨⟨hn, hm, ho, hl, h1⟩, h⟩ => by
  dsimp only at hn hm ho hl h1 h; subst hn hm
  refine spec_body gok0 Try.func14 rfl noLam_ok ?_
  show body Try.prog (gam []) noLam Try.f14 [.c (.ptr 0 0)] [.cells 67 [.view tI 1 0 o.length, .view tO 2 0 l.length, .mp 3], .row 3 tI o, .row 40 tO l, .map true tKy false tI es] _
  rw [vc_len]
  intro _
  rw [w64 (by omega) (by omega)]; exact h
theorem len0_ok : ∀ args h Q, len0_t args h Q → FSpec Try.prog 14 args h Q := trH_ok fun _ _ Q h => by
  refine spec_body gok0 Try.func14 rfl noLam_ok ?_
  show body Try.prog (gam []) noLam Try.f14 [.c .nilp] [] _
  rw [vc_len0]; exact h
theorem here_ok : ∀ args h Q, here_t args h Q → FSpec Try.prog 19 args h Q := trH_ok fun ((_, i, nm, _) : Unit × Int × ByteArray × Unit) ((n, m, _), o, l, es, _) Q ⟨⟨hn, hm, ho, hl, h1⟩, h⟩ => by
  dsimp only at hn hm ho hl h1 h; subst hn hm
  refine spec_body (Γ := gam [(23, [], orNil has0_t has_t)]) (gam_ok ⟨orNil_ok has0_ok has_ok, trivial⟩) Try.func19 rfl noLam_ok ?_
  show body Try.prog (gam [(23, [], orNil has0_t has_t)]) noLam Try.f19 [.c (.ptr 0 0), ti i, .c (.str nm)] [.cells 67 [.view tI 1 0 o.length, .view tO 2 0 l.length, .mp 3], .row 3 tI o, .row 40 tO l, .map true tKy false tI es] _
  rw [vc_here]
  refine ⟨⟨rfl, rfl, ho, hl, h1⟩, cond_of (fun hc => ?_) (fun hc => ?_)⟩
  · have hc : inB o.length i = false := by simpa using hc
    unfold hereV at h; rw [hc] at h; exact h
  · have hc : inB o.length i = true := by simpa using hc
    unfold hereV at h; rw [if_pos hc] at h; exact h
theorem here0_ok : ∀ args h Q, here0_t args h Q → FSpec Try.prog 19 args h Q := trH_ok fun ((_, i, nm, _) : Unit × Int × ByteArray × Unit) _ Q h => by
  refine spec_body (Γ := gam [(23, [], orNil has0_t has_t)]) (gam_ok ⟨orNil_ok has0_ok has_ok, trivial⟩) Try.func19 rfl noLam_ok ?_
  show body Try.prog (gam [(23, [], orNil has0_t has_t)]) noLam Try.f19 [.c .nilp, ti i, .c (.str nm)] [] _
  rw [vc_here0]; exact h
theorem gokHas : GOK Try.prog (gam gHas) := gam_ok ⟨orNil_ok has0_ok has_ok, orNil_ok holds0_ok holds_ok, kind_ok, orNil_ok len0_ok len_ok, orNil_ok here0_ok here_ok, trivial⟩
theorem outer_ok : ∀ args h Q, outer_t args h Q → FSpec Try.prog 16 args h Q := trH_ok fun ((_, i, _) : Unit × Int × Unit) ((n, m, _), o, l, es, _) Q ⟨⟨hn, hm, ho, hl, h1⟩, h⟩ => by
  dsimp only at hn hm ho hl h1 h; subst hn hm
  refine spec_body gokHas Try.func16 rfl noLam_ok ?_
  show body Try.prog (gam gHas) noLam Try.f16 [.c (.ptr 0 0), ti i] [.cells 67 [.view tI 1 0 o.length, .view tO 2 0 l.length, .mp 3], .row 3 tI o, .row 40 tO l, .map true tKy false tI es] _
  rw [vc_outer]
  refine ⟨⟨rfl, rfl, ho, hl, h1⟩, cond_of (fun hc => ?_) (fun hc => ?_)⟩
  · have hc : inB o.length i = false := by simpa using hc
    unfold outerV at h; rw [hc] at h; exact h
  · have hc : inB o.length i = true := by simpa using hc
    have hb := inB_iff.1 hc
    unfold outerV at h; rw [if_pos hc] at h
    rw [Nat.zero_add]
    exact ⟨by omega, by omega, by omega, h⟩
theorem outer0_ok : ∀ args h Q, outer0_t args h Q → FSpec Try.prog 16 args h Q := trH_ok fun (_, i, _) _ Q h => by
  refine spec_body gokHas Try.func16 rfl noLam_ok ?_
  show body Try.prog (gam gHas) noLam Try.f16 [.c .nilp, ti i] [] _
  rw [vc_outer0]; exact h
theorem object_ok : ∀ args h Q, object_t args h Q → FSpec Try.prog 15 args h Q := trH_ok fun ((_, i, _) : Unit × Int × Unit) ((n, m, _), o, l, es, _) Q ⟨⟨hn, hm, ho, hl, h1⟩, h⟩ => by
  dsimp only at hn hm ho hl h1 h; subst hn hm
  refine spec_body gokHas Try.func15 rfl noLam_ok ?_
  show body Try.prog (gam gHas) noLam Try.f15 [.c (.ptr 0 0), ti i] [.cells 67 [.view tI 1 0 o.length, .view tO 2 0 l.length, .mp 3], .row 3 tI o, .row 40 tO l, .map true tKy false tI es] _
  rw [vc_object]
  refine ⟨⟨rfl, rfl, ho, hl, h1⟩, cond_of (fun hc => ?_) (fun hc => ?_)⟩
  · have hc : inB l.length i = false := by simpa using hc
    unfold objV at h; rw [hc] at h; exact h
  · have hc : inB l.length i = true := by simpa using hc
    have hb := inB_iff.1 hc
    unfold objV at h; rw [if_pos hc] at h
    have hlt : i.toNat < l.length := by omega
    rw [Nat.zero_add, getD_at hlt]
    rw [getD_at hlt] at h
    exact ⟨by omega, by omega, by omega, h⟩
theorem object0_ok : ∀ args h Q, object0_t args h Q → FSpec Try.prog 15 args h Q := trH_ok fun (_, i, _) _ Q h => by
  refine spec_body gokHas Try.func15 rfl noLam_ok ?_
  show body Try.prog (gam gHas) noLam Try.f15 [.c .nilp, ti i] [] _
  rw [vc_object0]; exact h
theorem open_ok : ∀ args h Q, open_t args h Q → FSpec Try.prog 10 args h Q := trH_ok fun ((_, i, _) : Unit × Int × Unit) ((n, m, _), o, l, es, _) Q ⟨⟨hn, hm, ho, hl, h1⟩, h, h2⟩ => by
  dsimp only at hn hm ho hl h1 h h2; subst hn hm
  refine spec_body gokHas Try.func10 rfl noLam_ok ?_
  show body Try.prog (gam gHas) noLam Try.f10 [.c (.ptr 0 0), ti i] [.cells 67 [.view tI 1 0 o.length, .view tO 2 0 l.length, .mp 3], .row 3 tI o, .row 40 tO l, .map true tKy false tI es] _
  rw [vc_open]
  refine ⟨⟨rfl, rfl, ho, hl, h1⟩, cond_of (fun hc => h (by simpa using hc)) (fun hc _ => cond_of (fun hb => by simp at hb; omega) (fun _ => ?_))⟩
  have h2 := h2 (by simpa using hc)
  rw [vw_all]
  have hln : (o ++ [i]).length = o.length + 1 := by simp
  refine ⟨by simp, by omega, by rw [hln]; omega, fun _ => ?_⟩
  rw [show IntKind.i64.wrap (((o ++ [i]).length : Int) - 1) = (o.length : Int) by rw [hln, w64 (by omega) (by omega)]; omega]
  exact h2
theorem open0_ok : ∀ args h Q, open0_t args h Q → FSpec Try.prog 10 args h Q := trH_ok fun (_, i, _) _ Q h => by
  refine spec_body gokHas Try.func10 rfl noLam_ok ?_
  show body Try.prog (gam gHas) noLam Try.f10 [.c .nilp, ti i] [] _
  rw [vc_open0]; exact h
end Go.Proofs.Ytlfnpdfgdebhkaa.Ch
