/- Chapter 22 (reach): the order of blocks: over the abstract machine. No condition. -/
import Derived.Test.YtckijackbldkhaaN
namespace Go.Proofs.Ytckijackbldkhaa.Ch
open Go Go.Proofs Go.Proofs.Ytckijackbldkhaa.Sx
set_option linter.unusedVariables false
set_option linter.unusedSimpArgs false

/-- At a loop's ends less is said: of rows that stay where they are. -/
theorem W_wk {P : Program} {c : Code} {s : SS} {Q : Exit → SS → Prop} (h : W 0 P c s (fun e t => Q e t ∨ ∃ t' : SS, t'.hp.length = t.hp.length ∧ (∀ π ρ a w, Sat π ρ t a w → Sat π ρ t' a w) ∧ Q e t')) : W 0 P c s Q := by
  intro π ρ a w S
  refine wp_mono (h π ρ a w S) ?_
  rintro e a2 w2 ⟨π2, ρ2, s2, S2, St2, hq⟩
  rcases hq with hq | ⟨t', h1, h2, h3⟩
  · exact ⟨π2, ρ2, s2, S2, St2, hq⟩
  · exact ⟨π2, ρ2, t', h2 _ _ _ _ S2, ⟨St2.os, St2.tape, St2.output, St2.size, St2.block, fun k g hk => St2.fresh k g (by rw [← h1]; exact hk), St2.pmono, St2.pfresh, fun k it κ hk => absurd hk (Nat.not_lt_zero _)⟩, h3⟩
abbrev Ost := List Bool × List Int × List (Int × Int) × Nat
def dfsOf (y : Ost) : Dfs := (y.1, y.2.1, y.2.2.1.take y.2.2.2)
theorem take_top {xs : List (Int × Int)} {m : Nat} (h : m < xs.length) : xs.take (m + 1) = xs.take m ++ [xs.getD m (0, 0)] := by
  rw [List.take_succ_eq_append_getElem h, getD_at h]
theorem take_set {xs : List (Int × Int)} {m : Nat} {v : Int × Int} (h : m < xs.length) : (xs.set m v).take (m + 1) = xs.take m ++ [v] := by
  rw [List.take_succ_eq_append_getElem (by rw [List.length_set]; exact h), List.getElem_set_self, List.take_set_of_le (Nat.le_refl _)]
theorem or_step (g : Gra) (hB : OkB g.1) (Q : Exit → SS → Prop) (hq : ∀ l : List Int, l.length ≤ 1000000 → orderV g.1 = l.reverse → Q (.exit 0) (⟨83, [(4, .p (.c (.view tF 0 0 l.length)))], [.row 3 tF l]⟩ : SS)) : W 0 Try.prog (.loop (lp Try.f19 0)) (stOr0 g) Q := by
  refine W_ownF 3 tI 4 (W_fits (t := stOr g (dfs0 g.1.length).1 [] [(0, 0)] 1) ?_ (W_wk ?_))
  · exact ⟨⟨rfl, rfl, rfl⟩, ⟨rfl, rfl, rfl, rfl, trivial⟩, rfl⟩
  have hbl := hB.2.1
  refine W_loopE (fun y : Ost => stOr g y.1 y.2.1 y.2.2.1 y.2.2.2) (fun y => y.2.2.2 ≤ y.2.2.1.length ∧ InvO g.1 (dfsOf y) ∧ ∃ f, muO g.1 (dfsOf y) ≤ f ∧ ordRun g.1 f (dfsOf y) = ordRun g.1 (fuelV g.1) (dfs0 g.1.length)) (fun y => muO g.1 (dfsOf y)) [1, 3, 4, 5] [4] [] (fun y ⟨hn, hI, f, hf, hr⟩ => sx_ok (Λ := noLam) gok0 _ 0 _ _ noLam_ok ?_) ((dfs0 g.1.length).1, [], [(0, 0)], 1) ⟨Nat.le_refl _, (dfs0_inv hB).1, fuelV g.1, (dfs0_inv hB).2, rfl⟩
  rw [vc_orderL]
  obtain ⟨s, l, xs, n⟩ := y
  dsimp only at hn ⊢
  refine fun hmx => cond_of (fun hc => ?_) (fun hc => ?_)
  · have hc : (n : Int) > 0 := of_decide_eq_true hc
    obtain ⟨m, rfl⟩ : ∃ m, n = m + 1 := ⟨n - 1, by omega⟩
    have hmx' : m + 1 ≤ 9223372036854775807 := hmx
    have ew : IntKind.i64.wrap (((m + 1 : Nat) : Int) - 1) = (m : Int) := by rw [w64 (by omega) (by omega)]; omega
    rw [ew]
    simp only [Nat.zero_add, Int.toNat_natCast]
    have ex : dfsOf (s, l, xs, m + 1) = (s, l, xs.take m ++ [xs.getD m (0, 0)]) := by unfold dfsOf; simp only; rw [take_top (by omega)]
    rw [ex] at hI hf hr
    have ed : (tWay.dft : Int × Int) = (0, 0) := rfl
    rw [ed]
    have hpl : (xs.take m).length = m := by rw [List.length_take]; omega
    have hvs : ∀ v : Int × Int, vw (xs.set m v) 0 (m + 1) = xs.take m ++ [v] := fun v => by unfold vw; rw [List.drop_zero, take_set (by omega)]
    simp only [hvs]
    generalize hw : xs.getD m ((0 : Int), (0 : Int)) = w at hI hf hr ex ⊢
    have hts : ∀ v : Int × Int, (xs.set m v).take (m + 1) = xs.take m ++ [v] := fun v => take_set (by omega)
    have htm : xs.take m = xs.take m := rfl
    generalize hpre : xs.take m = pre at hI hf hr ex hpl hts ⊢
    have hW := hI.st w (by simp)
    have hlen : l.length + (pre.length + 1) + cntF s = g.1.length := by have := hI.cn; simpa using this
    have hsl : s.length = g.1.length := hI.ls
    have hnx : (List.getD g.1 w.1.toNat tBlk.dft).2.2.1 = nxt g.1 w.1 := rfl
    simp only [hnx]
    have hno := nxt_ok hB hW.1 hW.2.1
    have go : ∀ y : Ost, dfsOf y = ordStep g.1 (s, l, pre ++ [w]) → y.2.2.2 ≤ y.2.2.1.length → InvO g.1 (dfsOf y) → muO g.1 (dfsOf y) < muO g.1 (s, l, pre ++ [w]) → (y.2.2.2 ≤ y.2.2.1.length ∧ InvO g.1 (dfsOf y) ∧ ∃ f, muO g.1 (dfsOf y) ≤ f ∧ ordRun g.1 f (dfsOf y) = ordRun g.1 (fuelV g.1) (dfs0 g.1.length)) ∧ muO g.1 (dfsOf y) < muO g.1 (dfsOf (s, l, xs, m + 1)) := by
      intro y h1 h2 h3 h4
      refine ⟨⟨h2, h3, f - 1, by omega, ?_⟩, by rw [ex]; exact h4⟩
      obtain ⟨f', rfl⟩ : ∃ f', f = f' + 1 := ⟨f - 1, by omega⟩
      rw [← hr, h1]
      show ordRun g.1 f' _ = if (pre ++ [w]).length = 0 then _ else ordRun g.1 f' _
      rw [if_neg (by simp)]
    have hvl : vw l 0 l.length = l := vw_all l
    simp only [hvl]
    refine fun _ => ⟨by omega, by omega, by omega, hW.1, hW.2.1, by omega, by omega, fun _ => cond_of (fun he => ?_) (fun he => ?_)⟩
    · have he : w.2 = ((nxt g.1 w.1).length : Int) := eq_of_beq he
      obtain ⟨i1, i2⟩ := inv_pop hI
      have ed2 : dfsOf (s, l ++ [w.1], xs, m) = (s, l ++ [w.1], pre) := by unfold dfsOf; simp only; rw [hpre]
      refine ⟨by omega, Nat.le_refl _, Nat.le_refl _, by rw [List.length_append]; show (l.length + 1) * 8 ≤ _; omega, fun _ => ⟨by omega, by omega, (s, l ++ [w.1], xs, m), ?_, go _ (by rw [ed2, ord_pop he]) (by show m ≤ xs.length; omega) (by rw [ed2]; exact i1) (by rw [ed2]; exact i2)⟩⟩
      have e9 : hiN (m + 1) (some (m : Int)) - 0 = m := by simp [hiN]
      rw [e9]
      rfl
    · have he : w.2 ≠ ((nxt g.1 w.1).length : Int) := fun e => by rw [e] at he; simp at he
      have hlt : w.2 < ((nxt g.1 w.1).length : Int) := by have := hW.2.2; omega
      have hltn : w.2.toNat < (nxt g.1 w.1).length := by have := hW.2.2; omega
      have hk := hno.2 _ (getD_mem' (d := 0) hltn)
      have etd : (tI.dft : Int) = 0 := rfl
      rw [etd]
      have e5 : IntKind.i64.wrap (w.2 + 1) = w.2 + 1 := by have := hW.2.2; have := hno.1; rw [w64 (by omega) (by omega)]
      rw [e5]
      refine ⟨by omega, hW.2.2.1, hlt, hltn, by omega, by omega, hk.1, by rw [hsl]; exact hk.2, by omega, cond_of (fun hs => ?_) (fun hs => ?_)⟩
      · have hs : s.getD ((nxt g.1 w.1).getD w.2.toNat 0).toNat false = false := by simpa using hs
        obtain ⟨i1, i2⟩ := inv_push hB hI he hs
        have ed2 : dfsOf (s.set ((nxt g.1 w.1).getD w.2.toNat 0).toNat true, l, pre ++ [(w.1, w.2 + 1)] ++ [((nxt g.1 w.1).getD w.2.toNat 0, 0)], (pre ++ [(w.1, w.2 + 1)] ++ [((nxt g.1 w.1).getD w.2.toNat 0, 0)]).length) = (s.set ((nxt g.1 w.1).getD w.2.toNat 0).toNat true, l, pre ++ [(w.1, w.2 + 1)] ++ [((nxt g.1 w.1).getD w.2.toNat 0, 0)]) := by unfold dfsOf; simp only; rw [List.take_length]
        refine ⟨hk.1, by rw [hsl]; exact hk.2, by omega, Nat.le_refl _, by rw [List.length_set]; omega, ?_, _, ?_, go _ (by rw [ed2, ord_push he hs]) (Nat.le_refl _) (by rw [ed2]; exact i1) (by rw [ed2]; exact i2)⟩
        · simp only [List.length_append, List.length_cons, List.length_nil]; omega
        · show (_ : SS) = _
          unfold stOr
          simp only [List.length_set]
          rfl
      · have hs : s.getD ((nxt g.1 w.1).getD w.2.toNat 0).toNat false = true := by simpa using hs
        obtain ⟨i1, i2⟩ := inv_seen hI he
        have ed2 : dfsOf (s, l, xs.set m (w.1, w.2 + 1), m + 1) = (s, l, pre ++ [(w.1, w.2 + 1)]) := by unfold dfsOf; simp only; rw [hts]
        exact ⟨(s, l, xs.set m (w.1, w.2 + 1), m + 1), rfl, go _ (by rw [ed2, ord_seen he hs]) (by show m + 1 ≤ (xs.set m _).length; rw [List.length_set]; exact hn) (by rw [ed2]; exact i1) (by rw [ed2]; exact i2)⟩
  · have hc : ¬ (n : Int) > 0 := of_decide_eq_false hc
    obtain rfl : n = 0 := by omega
    have ex : dfsOf (s, l, xs, 0) = (s, l, []) := by unfold dfsOf; simp
    rw [ex] at hI hr
    have hl := hI.cn
    simp only [List.length_nil] at hl
    have e1 : ordRun g.1 f (s, l, []) = (s, l, []) := by cases f <;> simp [ordRun]
    rw [e1] at hr
    refine .inr ⟨_, ?_, ?_, hq l (by omega) (by unfold orderV; rw [← hr])⟩
    · rfl
    · intro π ρ a w S
      refine ⟨⟨fun k it hk => ?_, S.hs.lt, S.hs.inj, S.hs.apart, S.hs.pers, S.hs.out⟩, fun i v hi => ?_, S.df, S.nt, rfl⟩
      · have h0 := S.hs.items k
        cases k with
        | zero => simp only [List.getElem?_cons_zero, Option.some.injEq] at hk; subst hk; exact (show HBIs π ρ w 0 (.row 3 tI l) from h0 (.row 3 tI l) rfl)
        | succ k => simp at hk
      · have h0 := S.fs 4 _ rfl
        simp only [lk] at hi
        cases h4 : Nat.beq 4 i with
        | false => rw [h4] at hi; cases hi
        | true => rw [h4] at hi; cases hi; rw [← beq_eq h4]; exact h0
theorem order_ok : ∀ args h Q, order_t args h Q → FSpec Try.prog 19 args h Q := trH_ok fun ((g, _) : Gra × Unit) _ Q ⟨hB, h⟩ => by
  dsimp only at hB h
  have hbl : List.length g.1 ≤ 1000 := hB.2.1
  refine spec_conv (FSpec.mono (spec_body (Γ := gam [(33, [true], rev_t)]) (Λ := lam [(0, or_l)]) (gam_ok ⟨rev_ok, trivial⟩) Try.func19 rfl (lokl (l := [(0, lp Try.f19 0)]) ⟨lam_ok (fun g Q h1 h2 => or_step g h1 Q h2), trivial⟩) (Q := fun r h' => ∃ xs : List Int, r = .p (.c (.view tF 0 0 xs.length)) ∧ h' = [.row 3 tF xs] ∧ Q (.p (.c (.view tI 0 0 xs.length))) [.row 3 tI xs]) ?_) ?_)
  · show body Try.prog (gam [(33, [true], rev_t)]) (lam [(0, or_l)]) Try.f19 [.agg (toCV tGra g)] [] _
    rw [vc_order]
    have hn0 := hB.1
    refine fun _ => ⟨by omega, Int.le_refl _, by omega, by decide, by show (0 : Int) < (List.length g.1 : Int); omega, by rw [List.length_replicate]; exact hn0, g, ?_, hB, fun l hl he => ⟨⟨rfl, hl⟩, l.reverse, by rw [List.length_reverse], rfl, by rw [← he]; exact h⟩⟩
    have e : (dfs0 (List.length g.1)).1.length = List.length g.1 := by unfold dfs0; simp
    rw [e]
    rfl
  · rintro r h' ⟨xs, rfl, rfl, hq⟩
    refine ⟨.p (.c (.view tI 0 0 xs.length)), [.row 3 tI xs], fun π ρ v h => h, rfl, fun k it hk => ?_, hq⟩
    cases k with
    | zero => simp only [List.getElem?_cons_zero, Option.some.injEq] at hk; subst hk; exact ⟨_, rfl, fun π ρ w h => h⟩
    | succ k => simp at hk
end Go.Proofs.Ytckijackbldkhaa.Ch
