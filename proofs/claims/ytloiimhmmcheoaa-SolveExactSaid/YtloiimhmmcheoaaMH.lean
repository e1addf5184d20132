/- Chapter 21 (solve): work, rise, proved. No condition. -/
import Derived.Test.YtloiimhmmcheoaaMGV
namespace Go.Proofs.Ytloiimhmmcheoaa.Ch
open Go Go.Proofs Go.Proofs.Ytloiimhmmcheoaa.Sx
set_option linter.unusedVariables false
set_option linter.unusedSimpArgs false

theorem push_ok : ∀ args h Q, push_t args h Q → FSpec Try.prog 25 args h Q := trH_ok fun ((_, b, _) : Unit × Int × Unit) ((((a, n), m, _), r, I, _) : ((Nat × Nat) × Nat × Unit) × List Int × List Bool × Unit) Q ⟨⟨han, hm, hb0, hb1, hn⟩, h1, h2⟩ => by
  dsimp only at han hm hn h1 h2; subst hm
  have hb0 : (0 : Int) ≤ b := hb0
  have hb1 : b < (I.length : Int) := hb1
  refine spec_body gok0 Try.func25 rfl noLam_ok ?_
  show body Try.prog (gam []) noLam Try.f25 [.c (.ptr 0 0), ti b] (wkB r a n I) _
  rw [vc_push, Nat.zero_add]
  have hl : (vw r a n).length = n := vw_len han
  refine ⟨hb0, hb1, by omega, cond_of (fun hc => ⟨hb0, hb1, by omega, by simp, han, by rw [List.length_append, hl]; simp only [List.length_cons, List.length_nil]; omega, ?_⟩) (fun hc => ?_)⟩
  · rw [List.length_append, hl]
    have := h2 (by simpa using hc)
    unfold wkB at this
    rw [List.length_set] at this
    exact this
  · exact h1 (by simpa using hc)
theorem pop_ok : ∀ args h Q, pop_t args h Q → FSpec Try.prog 27 args h Q := trH_ok fun _ ((((a, n), m, _), r, I, _) : ((Nat × Nat) × Nat × Unit) × List Int × List Bool × Unit) Q ⟨⟨han, hm, hn, hb0, hb1⟩, h⟩ => by
  dsimp only at han hm hn hb0 hb1 h; subst hm
  refine spec_body gok0 Try.func27 rfl noLam_ok ?_
  show body Try.prog (gam []) noLam Try.f27 [.c (.ptr 0 0)] (wkB r a n I) _
  rw [vc_pop, Nat.zero_add, Nat.add_zero]
  have e : hiN n none - 1 = n - 1 := rfl
  rw [e]
  unfold wkB at h
  rw [List.length_set] at h
  refine ⟨by omega, by omega, by omega, by omega, by omega, hb0, hb1, ?_, h⟩
  have hb0 : (0 : Int) ≤ r.getD a 0 := hb0
  have hb1 : r.getD a 0 < (I.length : Int) := hb1
  show (r.getD a 0).toNat < I.length
  omega
theorem joinR_ok : ∀ args h Q, joinR_t args h Q → FSpec Try.prog 23 args h Q := trH_ok fun ((t, (c, xs), (d, ys), _) : Int × Kn × Kn × Unit) _ Q ⟨hl, h⟩ => by
  refine spec_data0 tKn (spec_frz 0 [] (join_ok [ti t, .agg [.bool c, .row tI xs], .agg [.bool d, .row tI ys]] [] _ ?_))
  refine ⟨hl, rfl, _, _, _, _, rfl, rfl, ⟨by show 0 + _ ≤ _; omega, trivial⟩, fun x hx => hx, [.bool (joinV t (c, xs) (d, ys)).1, .row tI (vw (joinV t (c, xs) (d, ys)).2 0 (joinV t (c, xs) (d, ys)).2.length)], ((joinV t (c, xs) (d, ys)).1, vw (joinV t (c, xs) (d, ys)).2 0 (joinV t (c, xs) (d, ys)).2.length), rfl, rfl, ?_⟩
  rw [vw_all]; exact h
theorem gokRise : GOK Try.prog (gam gRise) := gam_ok ⟨joinR_ok, same_ok, push_ok, trivial⟩
theorem rise_ok : ∀ args h Q, rise_t args h Q → FSpec Try.prog 22 args h Q := trH_ok fun ((b, f, _) : Int × Kn × Unit × Unit × Unit × Unit) (((nx, ac, ed, sr, cm, cl, tg, nn, _), (nF, _), F, _, ((a, n), m, _), r, I, _) : (List (List Int) × List (List Ac) × List (List (List Ac)) × List Int × Bool × List Int × Int × Int × Unit) × (Nat × Unit) × List Kn × (Unit × Unit) × ((Nat × Nat) × Nat × Unit) × List Int × List Bool × Unit) Q ⟨⟨⟨hF, han, hm, hI⟩, ⟨hb0, hb1, hn⟩, hs, hf⟩, h⟩ => by
  dsimp only at hF han hm hI hn hs hf h; subst hF hm
  have hb0 : (0 : Int) ≤ b := hb0
  have hb1 : b < (F.length : Int) := hb1
  obtain ⟨k, rfl⟩ : ∃ k : Nat, b = k := ⟨b.toNat, by omega⟩
  have hk : k < F.length := by omega
  rw [Int.toNat_natCast] at h
  refine spec_body gokRise Try.func22 rfl noLam_ok ?_
  show body Try.prog (gam gRise) noLam Try.f22 [ti k, .agg (toCV tKn f), .c (.ptr 0 0), .c (.ptr 1 0), .c (.ptr 3 0)] (riH (nx, ac, ed, sr, (cm, cl), tg, nn) F r a n I) _
  rw [vc_rise, Nat.zero_add, Int.toNat_natCast]
  have hl : (vw r a n).length = n := vw_len han
  have e0 : (tKF.dft : Kn) = (false, []) := rfl
  rw [e0]
  have hg : F.getD k (false, []) ∈ F := by rw [getD_at hk]; exact List.getElem_mem hk
  generalize hG : F.getD k (false, []) = g at hg
  have hlen := hs g hg
  have mem : (0 : Int) ≤ (k : Int) ∧ (k : Int) < (F.length : Int) := ⟨hb0, hb1⟩
  have hkI : (k : Int) < (I.length : Int) := by omega
  dsimp only
  have fin : bif !decide (joinV tg g f = g) then (0 : Int) ≤ (k : Int) ∧ (k : Int) < (F.length : Int) ∧ k < F.length ∧ (a + n ≤ r.length ∧ I.length = I.length ∧ (0 : Int) ≤ (k : Int) ∧ (k : Int) < (I.length : Int) ∧ n ≤ 1000000) ∧
      (I.getD k false = true → Q (SV.tup []) (riH (nx, ac, ed, sr, (cm, cl), tg, nn) (F.set k (joinV tg g f)) r a n I)) ∧ (I.getD k false = false → Q (SV.tup []) (riH (nx, ac, ed, sr, (cm, cl), tg, nn) (F.set k (joinV tg g f)) (vw r a n ++ [(k : Int)]) 0 (n + 1) (I.set k true)))
      else Q (SV.tup []) (riH (nx, ac, ed, sr, (cm, cl), tg, nn) F r a n I) := by
    refine cond_of (fun hc => ⟨hb0, hb1, hk, ⟨han, rfl, hb0, hkI, hn⟩, fun hi => ?_, fun hi => ?_⟩) (fun hc => ?_)
    · have hc : joinV tg g f ≠ g := by simpa using hc
      have e : riseS tg k f ⟨F, vw r a n, I⟩ = ⟨F.set k (joinV tg g f), vw r a n, I⟩ := by
        unfold riseS; dsimp only; rw [hG, if_neg hc, if_pos hi, if_pos hi]
      rw [e] at h
      have := h r a (by dsimp only; rw [hl]; exact han) (by dsimp only; rw [hl])
      dsimp only at this
      rw [hl] at this
      exact this
    · have hc : joinV tg g f ≠ g := by simpa using hc
      have e : riseS tg k f ⟨F, vw r a n, I⟩ = ⟨F.set k (joinV tg g f), vw r a n ++ [(k : Int)], I.set k true⟩ := by
        unfold riseS; dsimp only; rw [hG, if_neg hc, if_neg (by rw [hi]; simp), if_neg (by rw [hi]; simp)]
      rw [e] at h
      have := h (vw r a n ++ [(k : Int)]) 0 (by dsimp only; omega) (by dsimp only; rw [vw_all])
      dsimp only at this
      rw [List.length_append, hl] at this
      exact this
    · have hc : joinV tg g f = g := by simpa using hc
      have e : riseS tg k f ⟨F, vw r a n, I⟩ = ⟨F, vw r a n, I⟩ := by unfold riseS; dsimp only; rw [hG, if_pos hc]
      rw [e] at h
      have := h r a (by dsimp only; rw [hl]; exact han) (by dsimp only; rw [hl])
      dsimp only at this
      rw [hl] at this
      exact this
  have fin' := fin
  unfold riH at fin'
  rw [show (F.set k (joinV tg g f)).length = F.length from List.length_set, show (I.set k true).length = I.length from List.length_set] at fin'
  rw [show (I.set k true).length = I.length from List.length_set]
  exact ⟨hb0, hb1, ⟨hk, ⟨⟨hlen, hf⟩, hb0, hb1, hk, fin'⟩, ⟨hlen, hf⟩, hb0, hb1, hk, fin'⟩, hk, ⟨hlen, hf⟩, hb0, hb1, hk, fin'⟩
end Go.Proofs.Ytloiimhmmcheoaa.Ch
