/- Chapter 7 (scope): the reference's functions, proved. No condition. -/
import Derived.Test.YtlfnpdfgdebhkaaSHV
namespace Go.Proofs.Ytlfnpdfgdebhkaa.Ch
open Go Go.Proofs Go.Proofs.Ytlfnpdfgdebhkaa.Sx
set_option linter.unusedVariables false
set_option linter.unusedSimpArgs false

theorem rhas_ok : ∀ args h Q, rhas_t args h Q → FSpec Try.prog 30 args h Q := trH_ok fun ((_, i, _) : Unit × Int × Unit) ((n, m, k, _), o, ins, l, _) Q ⟨⟨hn, hm, hk, ho, he, hl, h1⟩, h⟩ => by
  dsimp only at hn hm hk ho he hl h1 h; subst hn hm hk
  refine spec_body gok0 Try.func30 rfl noLam_ok ?_
  show body Try.prog (gam []) noLam Try.f30 [.c (.ptr 0 0), ti i] [.cells 49 [.view tI 1 0 o.length, .view tI 2 0 ins.length, .view tO 3 0 l.length], .row 3 tI o, .row 3 tI ins, .row 40 tO l] _
  rw [vc_rhas]; exact h
theorem find_range_none {p : Nat → Bool} {n : Nat} (h : ∀ i, i < n → p i = false) : firstM p n = none := by
  unfold firstM
  rw [List.find?_eq_none]
  intro i hi
  rw [h i (List.mem_range.1 hi)]; simp
theorem find_range_some {p : Nat → Bool} {n i : Nat} (hi : i < n) (hp : p i = true) (h : ∀ j, j < i → p j = false) : firstM p n = some i := by
  unfold firstM
  rw [List.find?_range_eq_some]
  exact ⟨hp, List.mem_range.2 hi, fun j hj => by rw [h j hj]; rfl⟩
theorem rhere_loop (o ins : List Int) (l : List Ob) (a : Int) (nm : ByteArray) (hok : rfOk o ins l) (Q : Exit → SS → Prop) (h1 : firstM (matB ins l a nm) l.length = none → Q (.exit 0) (stRHX o ins l)) (h2 : ∀ i : Nat, firstM (matB ins l a nm) l.length = some i → Q .ret (stRHR o ins l i)) :
    W 4 Try.prog (.loop (lp Try.f20 0)) (stRH o ins l a nm 1) Q := by
  obtain ⟨ho, he, hl, hl1⟩ := hok
  refine W_loopE (N := 4) (P := Try.prog) (body := lp Try.f20 0) (Q := Q) (fun i : Nat => stRH o ins l a nm i) (fun i => 1 ≤ i ∧ i ≤ l.length ∧ ∀ j, j < i → matB ins l a nm j = false) (fun i => l.length - i) [0, 1, 2, 7] [] [6] (fun i ⟨hi1, hi, hj⟩ => ?_) 1 ⟨by omega, hl1, fun j hj => by obtain rfl : j = 0 := (by omega); rfl⟩
  refine sx_ok (Λ := noLam) gok0 _ 0 _ _ noLam_ok ?_
  rw [vc_rherel]
  intro hm
  refine cond_of (fun hc => ?_) (fun hc => ?_)
  · have hc : i < l.length := by simpa using hc
    have hc' : i < ins.length := by omega
    have ei : IntKind.i64.wrap ((i : Int) + 1) = ((i + 1 : Nat) : Int) := w64n (n := i + 1) (by omega)
    have hmat : matB ins l a nm i = (ins[i] == a && strEq (l[i]).snd.fst nm && !strEq nm ⟨#[95]⟩) := by
      unfold matB
      rw [decide_eq_true hi1, Bool.true_and, getD_at hc', getD_at hc, Bool.and_assoc]
    rw [Int.toNat_natCast, Nat.zero_add, getD_at hc', getD_at hc, ei]
    refine ⟨by omega, by omega, hc', fun _ => ⟨by omega, by omega, trivial⟩, fun _ => ⟨hc, trivial⟩, cond_of (fun hb => ?_) (fun hb => ?_)⟩
    · exact h2 i (find_range_some hc (by rw [hmat]; exact hb) hj)
    · refine ⟨i + 1, rfl, ⟨by omega, hc, fun j hj' => ?_⟩, by omega⟩
      by_cases hji : j = i
      · subst hji; rw [hmat]; exact hb
      · exact hj j (by omega)
  · have hc : ¬ (i < l.length) := by simpa using hc
    exact h1 (find_range_none (fun j hj' => hj j (by omega)))
theorem rhere_ok : ∀ args h Q, rhere_t args h Q → FSpec Try.prog 20 args h Q := trH_ok fun ((_, a, nm, _) : Unit × Int × ByteArray × Unit) ((n, m, k, _), o, ins, l, _) Q ⟨⟨hn, hm, hk, ho, he, hl, h1⟩, h⟩ => by
  dsimp only at hn hm hk ho he hl h1 h; subst hn hm hk
  refine spec_body (Λ := lam [(0, rhere_l)]) gok0 Try.func20 rfl ?_ ?_
  · exact lokl (l := [(0, lp Try.f20 0)]) ⟨lam_ok fun x Q a1 ⟨b1, b2⟩ => rhere_loop x.1 x.2.1 x.2.2.1 x.2.2.2.1 x.2.2.2.2 a1 Q b1 b2, trivial⟩
  show body Try.prog (gam []) (lam [(0, rhere_l)]) Try.f20 [.c (.ptr 0 0), ti a, .c (.str nm)] [.cells 49 [.view tI 1 0 o.length, .view tI 2 0 ins.length, .view tO 3 0 l.length], .row 3 tI o, .row 3 tI ins, .row 40 tO l] _
  rw [vc_rhere]
  unfold rhereV at h
  refine ⟨(o, ins, l, a, nm), rfl, ⟨ho, he, hl, h1⟩, fun hf => ?_, fun i hf => ?_⟩
  · dsimp only at hf ⊢
    rw [hf] at h; exact h
  · dsimp only at hf ⊢
    rw [hf] at h; exact h
theorem gokRef : GOK Try.prog (gam gRef) := gam_ok ⟨rhas_ok, rhere_ok, trivial⟩
theorem ropen_ok : ∀ args h Q, ropen_t args h Q → FSpec Try.prog 26 args h Q := trH_ok fun ((_, i, _) : Unit × Int × Unit) ((n, m, k, _), o, ins, l, _) Q ⟨⟨hn, hm, hk, ho, he, hl, h1⟩, h, h2⟩ => by
  dsimp only at hn hm hk ho he hl h1 h h2; subst hn hm hk
  refine spec_body gokRef Try.func26 rfl noLam_ok ?_
  show body Try.prog (gam gRef) noLam Try.f26 [.c (.ptr 0 0), ti i] [.cells 49 [.view tI 1 0 o.length, .view tI 2 0 ins.length, .view tO 3 0 l.length], .row 3 tI o, .row 3 tI ins, .row 40 tO l] _
  rw [vc_ropen]
  refine ⟨⟨rfl, rfl, rfl, ho, he, hl, h1⟩, cond_of (fun hc => h (by simpa using hc)) (fun hc => ?_)⟩
  have h2 := h2 (by simpa using hc)
  have hln : (o ++ [i]).length = o.length + 1 := by simp
  rw [vw_all]
  refine ⟨by simp, by omega, by rw [hln]; omega, fun _ => ?_⟩
  rw [show IntKind.i64.wrap (((o ++ [i]).length : Int) - 1) = (o.length : Int) by rw [hln, w64 (by omega) (by omega)]; omega]
  exact h2
theorem rput_ok : ∀ args h Q, rput_t args h Q → FSpec Try.prog 27 args h Q := trH_ok fun ((_, i, ob, _) : Unit × Int × Ob × Unit) ((n, m, k, _), o, ins, l, _) Q ⟨⟨hn, hm, hk, ho, he, hl, h1⟩, h, h2⟩ => by
  dsimp only at hn hm hk ho he hl h1 h h2; subst hn hm hk
  refine spec_body gokRef Try.func27 rfl noLam_ok ?_
  show body Try.prog (gam gRef) noLam Try.f27 [.c (.ptr 0 0), ti i, .agg (toCV tO ob)] [.cells 49 [.view tI 1 0 o.length, .view tI 2 0 ins.length, .view tO 3 0 l.length], .row 3 tI o, .row 3 tI ins, .row 40 tO l] _
  rw [vc_rput]
  have hok : (o.length = o.length ∧ ins.length = ins.length ∧ l.length = l.length ∧ o.length ≤ 1000 ∧ ins.length = l.length ∧ l.length < 1000 ∧ 1 ≤ l.length) := ⟨rfl, rfl, rfl, ho, he, hl, h1⟩
  have hkb : (!inB o.length i || decide (ob.fst < 1) || decide (ob.fst > 9) || strEq ob.snd.fst ⟨#[]⟩) = !(inB o.length i && kindB ob.1 && !(strEq ob.2.1 ⟨#[]⟩)) := by
    have h3 : decide (ob.fst < 1) = !decide (1 ≤ ob.1) := by rw [Bool.eq_iff_iff]; simp
    have h4 : decide (ob.fst > 9) = !decide (ob.1 ≤ 9) := by rw [Bool.eq_iff_iff]; simp
    rw [h3, h4]
    unfold kindB
    cases inB o.length i <;> cases decide (1 ≤ ob.1) <;> cases decide (ob.1 ≤ 9) <;> cases strEq ob.2.1 ⟨#[]⟩ <;> rfl
  rw [hkb]
  unfold rputE at h h2
  refine ⟨hok, cond_of (fun hc => ?_) (fun hc => ⟨hok, cond_of (fun hh => ?_) (fun hh => ?_)⟩)⟩
  · rw [Bool.not_eq_true'] at hc
    rw [if_neg (by rw [hc]; simp)] at h
    exact h (by omega)
  · have hc : (inB o.length i && kindB ob.1 && !(strEq ob.2.1 ⟨#[]⟩)) = true := by simpa only [Bool.not_eq_false'] using hc
    rw [if_pos hc, if_pos (by simpa using hh)] at h
    exact h (by omega)
  · have hc : (inB o.length i && kindB ob.1 && !(strEq ob.2.1 ⟨#[]⟩)) = true := by simpa only [Bool.not_eq_false'] using hc
    have hz : rhereV ins l i ob.snd.fst = 0 := by simpa using hh
    have h2 := h2 (by rw [if_pos hc, if_neg (by rw [hz]; simp)])
    rw [vw_all, vw_all]
    have hln : (l ++ [ob]).length = l.length + 1 := by simp
    have hln2 : (ins ++ [i]).length = ins.length + 1 := by simp
    refine ⟨by simp, by omega, by rw [hln]; omega, by simp, by omega, by rw [hln2]; omega, fun _ => ?_⟩
    rw [show IntKind.i64.wrap (((l ++ [ob]).length : Int) - 1) = (l.length : Int) by rw [hln, w64 (by omega) (by omega)]; omega]
    exact h2
theorem rchange_ok : ∀ args h Q, rchange_t args h Q → FSpec Try.prog 28 args h Q := trH_ok fun ((_, i, ob, _) : Unit × Int × Ob × Unit) ((n, m, k, _), o, ins, l, _) Q ⟨⟨hn, hm, hk, ho, he, hl, h1⟩, h, h2⟩ => by
  dsimp only at hn hm hk ho he hl h1 h h2; subst hn hm hk
  refine spec_body gokRef Try.func28 rfl noLam_ok ?_
  show body Try.prog (gam gRef) noLam Try.f28 [.c (.ptr 0 0), ti i, .agg (toCV tO ob)] [.cells 49 [.view tI 1 0 o.length, .view tI 2 0 ins.length, .view tO 3 0 l.length], .row 3 tI o, .row 3 tI ins, .row 40 tO l] _
  rw [vc_rchange]
  have hkb : (decide (i < 1) || decide (i ≥ (l.length : Int)) || decide (ob.fst < 1) || decide (ob.fst > 9)) = !(inB l.length i && kindB ob.1) := by
    have h3 : decide (ob.fst < 1) = !decide (1 ≤ ob.1) := by rw [Bool.eq_iff_iff]; simp
    have h4 : decide (ob.fst > 9) = !decide (ob.1 ≤ 9) := by rw [Bool.eq_iff_iff]; simp
    have h5 : decide (i < 1) = !decide (1 ≤ i) := by rw [Bool.eq_iff_iff]; simp
    have h6 : decide (i ≥ (l.length : Int)) = !decide (i < (l.length : Int)) := by rw [Bool.eq_iff_iff]; simp
    rw [h3, h4, h5, h6]
    unfold kindB inB
    cases decide (1 ≤ i) <;> cases decide (i < (l.length : Int)) <;> cases decide (1 ≤ ob.1) <;> cases decide (ob.1 ≤ 9) <;> rfl
  rw [hkb]
  unfold chgB at h h2
  cases hb : (inB l.length i && kindB ob.1) with
  | false =>
    rw [hb] at h
    have h := h rfl
    exact ⟨fun e => (by cases e), fun e => (by cases e), h⟩
  | true =>
    rw [hb, Bool.true_and] at h h2
    simp only [Bool.and_eq_true] at hb
    have hi := inB_iff.1 hb.1
    have hlt : i.toNat < l.length := by omega
    rw [getD_at hlt] at h h2
    rw [Nat.zero_add, getD_at hlt]
    refine ⟨fun _ => ⟨by omega, by omega, trivial⟩, fun _ => ⟨hlt, trivial⟩, cond_of (fun hs => h (by simpa using hs)) (fun hs => ⟨by omega, by omega, hlt, ?_⟩)⟩
    have h2 := h2 (by simpa using hs)
    unfold rfH at h2
    rw [List.length_set] at h2
    exact h2
end Go.Proofs.Ytlfnpdfgdebhkaa.Ch
