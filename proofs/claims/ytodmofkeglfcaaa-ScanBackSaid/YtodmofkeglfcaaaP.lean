/- Chapter 02 (scan): awake; the laws ScanTokens, ScanTexts. No condition. -/
import Derived.Test.YtodmofkeglfcaaaOV
import Derived.Test.YtodmofkeglfcaaaSxR
namespace Go.Proofs.Ytodmofkeglfcaaa.Ch
open Go Go.Proofs Go.Proofs.Ytodmofkeglfcaaa.Sx
set_option linter.unusedVariables false
set_option linter.unusedSimpArgs false

theorem tokA_ok : ∀ args h Q, tokA_t args h Q → FSpec Try.prog 9 args h Q := trH_ok fun ((f, s, _) : Int × ByteArray × Unit) _ Q h => by
  dsimp only at h
  refine tokens_ok [.c (.int .i64 f), .c (.str s)] [] Q ?_
  have fin : Q (.tup [.c (.row tTok (tokensV f s).1), .agg [.int .i64 (tokensV f s).2.1, .int .i64 (tokensV f s).2.2.1, .int .i64 (tokensV f s).2.2.2.1, .int .i64 (tokensV f s).2.2.2.2]]) [] := by
    cases hb : Nat.beq s.size 6 with
    | true =>
      rw [hb] at h
      obtain ⟨⟨h1, h2⟩, h3⟩ := h
      have h1 : f = 3 := h1
      have e : tokensV 3 awX = ([(2, ⟨#[120]⟩, 3, 1, 1), (5, ⟨#[58, 61]⟩, 3, 1, 3), (3, ⟨#[53]⟩, 3, 1, 6), (5, ⟨#[59]⟩, 3, 1, 7), (1, ⟨#[]⟩, 3, 1, 7)], (0, 0, 0, 0)) := by decide +kernel
      rw [h1, h2, e]
      exact h3
    | false =>
      rw [hb] at h
      obtain ⟨⟨h1, h2⟩, h3⟩ := h
      have h1 : f = 3 := h1
      have e : tokensV 3 awY = ([], (5, 3, 1, 3)) := by decide +kernel
      rw [h1, h2, e]
      exact h3
  exact fin
theorem awake_ok : ∀ args h Q, awake_t args h Q → FSpec Try.prog 8 args h Q := trH_ok fun _ _ Q h => by
  refine spec_body (Γ := gam gAw) (gam_ok ⟨tokA_ok, isword_ok, isop_ok, isname_ok, trivial⟩) Try.func8 rfl noLam_ok ?_
  show body Try.prog (gam gAw) noLam Try.f8 [] [] _
  rw [vc_awake]
  refine ⟨⟨rfl, rfl⟩, ⟨rfl, rfl⟩, fun _ => ?_⟩
  refine ⟨fun _ => ⟨by decide, by decide, trivial⟩, fun _ => ⟨by decide, trivial⟩, fun _ => ⟨by decide, by decide, trivial⟩, fun _ => ⟨by decide, trivial⟩, fun _ => ⟨by decide, by decide, trivial⟩, fun _ => ⟨by decide, trivial⟩, fun _ => ⟨by decide, by decide, trivial⟩, fun _ => ⟨by decide, trivial⟩, fun _ => ⟨by decide, by decide, trivial⟩, fun _ => ⟨by decide, trivial⟩, h⟩
theorem gokLw : GOK Try.prog (gam gLw) := gam_ok ⟨awake_ok, tokens_ok, rtokens_ok, same_ok, isword_ok, rword_ok, isop_ok, rop_ok, isname_ok, rname_ok, quote_ok, rquote_ok, trivial⟩
theorem sameT_refl (p : Bool) (t : Tok) : sameT p t t = true := by
  unfold sameT
  rw [decide_eq_true rfl, (strEq_iff _ _).2 rfl, decide_eq_true rfl, Bool.or_true]; rfl
theorem sameV_refl (p : Bool) : ∀ l : List Tok, sameV p l l = true
  | [] => rfl
  | t :: l => by unfold sameV; rw [sameT_refl, sameV_refl p l]; rfl
theorem tokens_law (f : Int) (s : ByteArray) : FSpec Try.prog 3 [ti f, .c (.str s)] [] fun r h' => r = .p (.c (.bool true)) := by
  refine spec_body gokLw Try.func3 rfl noLam_ok ?_
  show body Try.prog (gam gLw) noLam Try.f3 [ti f, .c (.str s)] [] _
  rw [vc_ltokens]
  intro _
  refine cond_of (fun _ => rfl) (fun hc => ⟨?_, ?_⟩)
  · rw [Bool.and_eq_false_iff] at hc
    rcases hc with hc | hc
    · have := of_decide_eq_false hc; exact .inl (by omega)
    · have := of_decide_eq_false hc; exact .inr (by omega)
  · rw [sameV_refl]
    simp
theorem texts_law (s : ByteArray) : FSpec Try.prog 6 [.c (.str s)] [] fun r h' => r = .p (.c (.bool true)) := by
  refine spec_body gokLw Try.func6 rfl noLam_ok ?_
  show body Try.prog (gam gLw) noLam Try.f6 [.c (.str s)] [] _
  rw [vc_ltexts]
  intro _
  refine cond_of (fun _ => rfl) (fun hc => ?_)
  have hc : s.size ≤ 1000000 := by have := of_decide_eq_false hc; omega
  refine ⟨hc, cond_of (fun _ => ⟨hc, cond_of (fun _ => ⟨hc, cond_of (fun _ => ⟨hc, hc, ?_⟩) (fun h => ?_)⟩) (fun h => ?_)⟩) (fun h => ?_)⟩
  · rw [(strEq_iff _ _).2 rfl]; rfl
  all_goals simp at h
end Go.Proofs.Ytodmofkeglfcaaa.Ch
