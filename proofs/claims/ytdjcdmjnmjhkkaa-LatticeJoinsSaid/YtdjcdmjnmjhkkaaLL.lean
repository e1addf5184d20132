/- Chapter 20 (lattice): the law LatticeJoins, proved. No condition. -/
import Derived.Test.YtdjcdmjnmjhkkaaLGV
import Derived.Test.YtdjcdmjnmjhkkaaLHV
import Derived.Test.YtdjcdmjnmjhkkaaLK
namespace Go.Proofs.Ytdjcdmjnmjhkkaa.Ch
open Go Go.Proofs Go.Proofs.Ytdjcdmjnmjhkkaa.Sx
set_option linter.unusedVariables false
set_option linter.unusedSimpArgs false

abbrev tt : Prop := SV.p (PV.c (CV.bool true)) = SV.p (PV.c (CV.bool true))
abbrev ff : Prop := SV.p (PV.c (CV.bool false)) = SV.p (PV.c (CV.bool true))
theorem good_len {t : Int} {k : Nat} (hk : k ≤ 60) {f : Kn} (h : Gd t k f) : f.2.length ≤ 100000 := by
  rcases cases_b f.1 with h1 | h1
  · rw [gd_false h h1]; simp
  · have := (h.1 h1).1; omega
theorem joins_core {t : Int} {k : Nat} (hk : k ≤ 60) (ht : tagB t = true) {a b c : Kn} (ha : Gd t k a) (hb : Gd t k b) (hc : Gd t k c) (q : Bool) (hq : q = true) :
    (a.2.length ≤ 100000 ∧ b.2.length ≤ 100000) ∧ (b.2.length ≤ 100000 ∧ c.2.length ≤ 100000) ∧ (b.2.length ≤ 100000 ∧ a.2.length ≤ 100000) ∧ bif !decide (joinV t a b = joinV t b a) then ff else (a.2.length ≤ 100000 ∧ a.2.length ≤ 100000) ∧ bif false || !q then ff else
    ((joinV t a b).2.length ≤ 100000 ∧ c.2.length ≤ 100000) ∧ (a.2.length ≤ 100000 ∧ (joinV t b c).2.length ≤ 100000) ∧ bif false || !decide (joinV t (joinV t a b) c = joinV t a (joinV t b c)) then ff else bif false || !goodV t k (joinV t a b) then ff else
    (a.2.length ≤ 100000 ∧ (joinV t a b).2.length ≤ 100000) ∧ bif belowV t a (joinV t a b) then (b.2.length ≤ 100000 ∧ (joinV t a b).2.length ≤ 100000) ∧ bif true && belowV t b (joinV t a b) then (([] : List Int).length ≤ 100000 ∧ a.2.length ≤ 100000) ∧ bif true && belowV t (false, []) a then
    0 + (boundV k).toNat ≤ (List.replicate (boundV k).toNat (mostV t)).length ∧ (a.2.length ≤ 100000 ∧ (vw (List.replicate (boundV k).toNat (mostV t)) 0 (boundV k).toNat).length ≤ 100000) ∧ bif true && belowV t a (true, vw (List.replicate (boundV k).toNat (mostV t)) 0 (boundV k).toNat) then
    (a.2.length ≤ 100000 ∧ a.2.length ≤ 100000) ∧ bif true && belowV t a a then (a.2.length ≤ 100000 ∧ b.2.length ≤ 100000) ∧ bif !belowV t a b then
      (a.2.length ≤ 100000 ∧ b.2.length ≤ 100000) ∧ bif !belowV t a b then tt else (b.2.length ≤ 100000 ∧ c.2.length ≤ 100000) ∧ bif false || !belowV t b c then tt else (a.2.length ≤ 100000 ∧ c.2.length ≤ 100000) ∧ SV.p (PV.c (CV.bool (true && (false || belowV t a c)))) = SV.p (PV.c (CV.bool true))
    else (b.2.length ≤ 100000 ∧ a.2.length ≤ 100000) ∧ bif false || !belowV t b a then
      (a.2.length ≤ 100000 ∧ b.2.length ≤ 100000) ∧ bif !belowV t a b then tt else (b.2.length ≤ 100000 ∧ c.2.length ≤ 100000) ∧ bif false || !belowV t b c then tt else (a.2.length ≤ 100000 ∧ c.2.length ≤ 100000) ∧ SV.p (PV.c (CV.bool (true && (false || belowV t a c)))) = SV.p (PV.c (CV.bool true))
    else bif true && (false || decide (a = b)) then
      (a.2.length ≤ 100000 ∧ b.2.length ≤ 100000) ∧ bif !belowV t a b then tt else (b.2.length ≤ 100000 ∧ c.2.length ≤ 100000) ∧ bif false || !belowV t b c then tt else (a.2.length ≤ 100000 ∧ c.2.length ≤ 100000) ∧ SV.p (PV.c (CV.bool (true && (false || belowV t a c)))) = SV.p (PV.c (CV.bool true))
    else ff else ff else ff else ff else ff else ff := by
  have hj := join_good ht ha hb
  have la := good_len hk ha
  have lb := good_len hk hb
  have lc := good_len hk hc
  have lj := good_len hk hj
  have lj' := good_len hk (join_good ht hb hc)
  have eb : boundV k = k := by rw [bound_is]; omega
  have last : (a.2.length ≤ 100000 ∧ b.2.length ≤ 100000) ∧ bif !belowV t a b then tt else (b.2.length ≤ 100000 ∧ c.2.length ≤ 100000) ∧ bif false || !belowV t b c then tt else (a.2.length ≤ 100000 ∧ c.2.length ≤ 100000) ∧ SV.p (PV.c (CV.bool (true && (false || belowV t a c)))) = SV.p (PV.c (CV.bool true)) := by
    refine ⟨⟨la, lb⟩, cond_of (fun _ => rfl) (fun h1 => ⟨⟨lb, lc⟩, cond_of (fun _ => rfl) (fun h2 => ⟨⟨la, lc⟩, ?_⟩)⟩)⟩
    have h1 : belowV t a b = true := by simpa using h1
    have h2 : belowV t b c = true := by simpa using h2
    rw [below_trans ht ha hb hc h1 h2]; rfl
  have e8 : belowV t a (true, List.replicate k (mostV t)) = true := below_top ht ha
  have ev : vw (List.replicate k (mostV t)) 0 k = List.replicate k (mostV t) := by unfold vw; rw [List.drop_zero, List.take_of_length_le (by simp)]
  rw [eb, Int.toNat_natCast, ev, hq, decide_eq_true (join_comm ht ha hb), decide_eq_true (join_assoc ht ha hb hc), good_iff.2 ⟨ht, hj⟩, below_up ht ha hb, below_up' ht ha hb, below_iff.2 (join_f (b := a) (t := t) (a := (false, [])) rfl), e8, below_iff.2 (join_idem ht ha)]
  refine ⟨⟨la, lb⟩, ⟨lb, lc⟩, ⟨lb, la⟩, ⟨la, la⟩, ⟨lj, lc⟩, ⟨la, lj'⟩, ⟨la, lj⟩, ⟨lb, lj⟩, ⟨by simp, la⟩, by simp, ⟨la, by simp; omega⟩, ⟨la, la⟩, ⟨la, lb⟩, cond_of (fun _ => last) (fun h1 => ⟨⟨lb, la⟩, cond_of (fun _ => last) (fun h2 => ?_)⟩)⟩
  have h1 : belowV t a b = true := by simpa using h1
  have h2 : belowV t b a = true := by simpa using h2
  rw [decide_eq_true (below_anti ht ha hb h1 h2)]
  exact last
theorem joins_ok (t : Int) (a b c : Kn) : FSpec Try.prog 3 [ti t, .agg [.bool a.1, .row tI a.2], .agg [.bool b.1, .row tI b.2], .agg [.bool c.1, .row tI c.2]] [] fun r h' => r = .p (.c (.bool true)) := by
  refine spec_body gokJs Try.func3 rfl noLam_ok ?_
  obtain ⟨c0, xs⟩ := a
  obtain ⟨d, ys⟩ := b
  obtain ⟨e, zs⟩ := c
  dsimp only
  cases c0 with
  | false =>
    rw [vc_joinsF]
    intro _ _ _
    have hm : ∃ k : Nat, mx2 (ys.length : Int) (zs.length : Int) = k := ⟨max ys.length zs.length, by unfold mx2; split <;> omega⟩
    obtain ⟨k, hk⟩ := hm
    rw [hk]
    refine cond_of (fun _ => rfl) (fun h60 => cond_of (fun _ => rfl) (fun hga => cond_of (fun _ => rfl) (fun hgb => cond_of (fun _ => rfl) (fun hgc => ?_))))
    have h60 : k ≤ 60 := by
      have : ¬ (60 < (k : Int)) := by simpa using h60
      omega
    have hga := good_iff.1 (show goodV t k (false, xs) = true by simpa using hga)
    have hgb := (good_iff.1 (show goodV t k (d, ys) = true by simpa using hgb)).2
    have hgc := (good_iff.1 (show goodV t k (e, zs) = true by simpa using hgc)).2
    exact joins_core h60 hga.1 hga.2 hgb hgc _ (by rw [join_idem hga.1 hga.2]; simp)
  | true =>
    rw [vc_joinsT]
    intro _
    refine cond_of (fun _ => rfl) (fun h60 => cond_of (fun _ => rfl) (fun hga => cond_of (fun _ => rfl) (fun hgb => cond_of (fun _ => rfl) (fun hgc => ?_))))
    have h60 : xs.length ≤ 60 := by
      have : ¬ (60 < (xs.length : Int)) := by simpa using h60
      omega
    have hga := good_iff.1 (show goodV t xs.length (true, xs) = true by simpa using hga)
    have hgb := (good_iff.1 (show goodV t xs.length (d, ys) = true by simpa using hgb)).2
    have hgc := (good_iff.1 (show goodV t xs.length (e, zs) = true by simpa using hgc)).2
    exact joins_core h60 hga.1 hga.2 hgb hgc _ (by rw [join_idem hga.1 hga.2]; simp)
end Go.Proofs.Ytdjcdmjnmjhkkaa.Ch
