/- Chapter 11 (code): the builder's methods: proved. No condition. -/
import Derived.Test.YtkpepieepdmjpaaLV
namespace Go.Proofs.Ytkpepieepdmjpaa.Ch
open Go Go.Proofs Go.Proofs.Ytkpepieepdmjpaa.Sx
set_option linter.unusedVariables false
set_option linter.unusedSimpArgs false

theorem new_ok : ∀ args h Q, new_t args h Q → FSpec Try.prog 11 args h Q := trH_ok fun (_ : Unit) _ Q h => by
  refine spec_ownH 47 tStm 0 3 (spec_ownH 3 tI 0 1 (spec_ownH 38 tIns 0 0 (spec_body gok0 Try.func11 rfl noLam_ok ?_)))
  show body Try.prog (gam []) noLam Try.f11 [] [] _
  rw [vc_new]
  exact .inr (.inr (.inr h))
abbrev YB := HS.TL bS
theorem put_ok : ∀ args h Q, put_t args h Q → FSpec Try.prog 17 args h Q := trH_ok fun ((_, x, _) : Unit × Ins × Unit) (((n1, n2, r, n3, st, _), c, l, s, _) : (Nat × Nat × Int × Nat × Int × Unit) × List Ins × List Int × List Stm × Unit) Q ⟨⟨⟨e1, e2, e3⟩, hb, hs⟩, h⟩ => by
  dsimp only [okB, yB] at e1 e2 e3 hb h
  subst e1 e2 e3
  refine spec_body (Γ := gam [(24, [], cloneI_t), (26, [], cloneA_t)]) (gam_ok ⟨cloneI_ok, cloneA_ok, trivial⟩) Try.func17 rfl noLam_ok ?_
  show body Try.prog (gam [(24, [], cloneI_t), (26, [], cloneA_t)]) noLam Try.f17 [.c (.ptr 0 0), .agg (toCV tIns x)] (bH (c, l, r, s, st)) _
  rw [vc_put, vw_all]
  have hc : c.length ≤ 1000 := hb.1
  exact ⟨Nat.le_trans hs.1 (by decide), Nat.le_trans hs.2 (by decide), Nat.le_refl _, by omega, by rw [List.length_append]; show (c.length + 1) * 224 ≤ _; omega, h⟩
theorem place_ok : ∀ args h Q, place_t args h Q → FSpec Try.prog 35 args h Q := trH_ok fun ((_, k, _) : Unit × Int × Unit) (((c, l, r, s, st, _), _) : (List Ins × List Int × Int × List Stm × Int × Unit) × Unit) Q ⟨hb, h⟩ => by
  refine spec_body gok0 Try.func35 rfl noLam_ok ?_
  show body Try.prog (gam []) noLam Try.f35 [.c (.ptr 0 0), ti k] [dC (c, l, r, s, st)] _
  rw [vc_place]
  dsimp only [dB] at h
  have key : ∀ v, placeV l c.length k = v → Q (.p (ti v)) [dC (c, l, r, s, st)] := fun v e => by rw [← e]; exact h
  clear h
  have hx : (decide (k < 0) || decide ((l.length : Int) ≤ k)) = false → 0 ≤ k ∧ k < (l.length : Int) := fun e => by
    rw [Bool.or_eq_false_iff, decide_eq_false_iff_not, decide_eq_false_iff_not] at e
    omega
  have hx2 : 0 ≤ k ∧ k < (l.length : Int) → k.toNat < l.length := fun e => by have h1 := e.1; have h2 := e.2; omega
  refine ⟨fun e => ⟨(hx e).1, (hx e).2, trivial⟩, fun e => ⟨hx2 (hx e), trivial⟩, cond_of (fun e => key _ ?_) (fun e => ?_)⟩
  · have e : (decide (k < 0) || decide ((l.length : Int) ≤ k) || decide ((c.length : Int) ≤ l.getD k.toNat 0)) = true := e
    unfold placeV
    rw [if_pos (by simpa [Bool.or_eq_true, or_assoc] using e)]
  · have e : (decide (k < 0) || decide ((l.length : Int) ≤ k) || decide ((c.length : Int) ≤ l.getD k.toNat 0)) = false := e
    rw [Bool.or_eq_false_iff] at e
    have h1 := hx e.1
    have h2 := of_decide_eq_false e.2
    refine ⟨h1.1, h1.2, hx2 h1, key _ ?_⟩
    unfold placeV
    rw [if_neg (show ¬ (k < 0 ∨ (l.length : Int) ≤ k ∨ (c.length : Int) ≤ l.getD k.toNat 0) from fun h => by
      rcases h with h | h | h
      · omega
      · omega
      · exact h2 h)]
    rfl
theorem reg_ok : ∀ args h Q, reg_t args h Q → FSpec Try.prog 12 args h Q := trH_ok fun ((_, x, _) : Unit × Int × Unit) (((n1, n2, r, n3, st, _), c, l, s, _) : (Nat × Nat × Int × Nat × Int × Unit) × List Ins × List Int × List Stm × Unit) Q ⟨⟨⟨e1, e2, e3⟩, hb⟩, h⟩ => by
  dsimp only [okB, yB] at e1 e2 e3 hb h
  subst e1 e2 e3
  refine spec_body gok0 Try.func12 rfl noLam_ok ?_
  show body Try.prog (gam []) noLam Try.f12 [.c (.ptr 0 0), ti x] (bH (c, l, r, s, st)) _
  rw [vc_reg]
  have e : mn2 (mx2 x 0) 65537 = min (max x 0) 65537 := by unfold mn2 mx2; split <;> split <;> omega
  first | (rw [e]; exact h) | exact h
theorem label_ok : ∀ args h Q, label_t args h Q → FSpec Try.prog 13 args h Q := trH_ok fun (_ : Unit × Unit) (((n1, n2, r, n3, st, _), c, l, s, _) : (Nat × Nat × Int × Nat × Int × Unit) × List Ins × List Int × List Stm × Unit) Q ⟨⟨⟨e1, e2, e3⟩, hb⟩, h⟩ => by
  dsimp only [okB, yB] at e1 e2 e3 hb h
  subst e1 e2 e3
  have hl : l.length ≤ 1000 := hb.2.1
  refine spec_body gok0 Try.func13 rfl noLam_ok ?_
  show body Try.prog (gam []) noLam Try.f13 [.c (.ptr 0 0)] (bH (c, l, r, s, st)) _
  rw [vc_label, vw_all]
  have hn : (l ++ [-1]).length = l.length + 1 := by simp
  have e : IntKind.i64.wrap (((l ++ [-1]).length : Int) - 1) = (l.length : Int) := by rw [hn, show (((l.length + 1 : Nat) : Int) - 1) = (l.length : Int) by omega]; exact w64n (by omega)
  refine ⟨Nat.le_refl _, by omega, by rw [hn]; omega, fun _ => ?_⟩
  rw [e]; exact h
theorem add_ok : ∀ args h Q, add_t args h Q → FSpec Try.prog 14 args h Q := trH_ok fun ((_, x, _) : Unit × Stm × Unit) (((n1, n2, r, n3, st, _), c, l, s, _) : (Nat × Nat × Int × Nat × Int × Unit) × List Ins × List Int × List Stm × Unit) Q ⟨⟨⟨e1, e2, e3⟩, hb⟩, h⟩ => by
  dsimp only [okB, yB] at e1 e2 e3 hb h
  subst e1 e2 e3
  have hl : s.length ≤ 1000 := hb.2.2
  refine spec_body gok0 Try.func14 rfl noLam_ok ?_
  show body Try.prog (gam []) noLam Try.f14 [.c (.ptr 0 0), .agg (toCV tStm x)] (bH (c, l, r, s, st)) _
  rw [vc_add, vw_all]
  have hn : (s ++ [x]).length = s.length + 1 := by simp
  have e : IntKind.i64.wrap (((s ++ [x]).length : Int) - 1) = (s.length : Int) := by rw [hn, show (((s.length + 1 : Nat) : Int) - 1) = (s.length : Int) by omega]; exact w64n (by omega)
  refine ⟨Nat.le_refl _, by omega, by rw [hn]; omega, fun _ => ?_⟩
  rw [e]; exact h
theorem stmt_ok : ∀ args h Q, stmt_t args h Q → FSpec Try.prog 15 args h Q := trH_ok fun ((_, x, _) : Unit × Int × Unit) (((n1, n2, r, n3, st, _), c, l, s, _) : (Nat × Nat × Int × Nat × Int × Unit) × List Ins × List Int × List Stm × Unit) Q ⟨⟨e1, e2, e3⟩, h⟩ => by
  dsimp only [okB, yB] at e1 e2 e3 h
  subst e1 e2 e3
  refine spec_body gok0 Try.func15 rfl noLam_ok ?_
  show body Try.prog (gam []) noLam Try.f15 [.c (.ptr 0 0), ti x] (bH (c, l, r, s, st)) _
  rw [vc_stmt]
  exact h
theorem mark_ok : ∀ args h Q, mark_t args h Q → FSpec Try.prog 16 args h Q := trH_ok fun ((_, x, _) : Unit × Int × Unit) (((n1, n2, r, n3, st, _), c, l, s, _) : (Nat × Nat × Int × Nat × Int × Unit) × List Ins × List Int × List Stm × Unit) Q ⟨⟨⟨e1, e2, e3⟩, hb⟩, h⟩ => by
  dsimp only [okB, yB] at e1 e2 e3 hb h
  subst e1 e2 e3
  refine spec_body gok0 Try.func16 rfl noLam_ok ?_
  show body Try.prog (gam []) noLam Try.f16 [.c (.ptr 0 0), ti x] (bH (c, l, r, s, st)) _
  rw [vc_mark]
  have key : ∀ m, markV l c.length x = m → Q (.tup []) (bH (c, m, r, s, st)) := fun m e => by rw [← e]; exact h
  clear h
  refine cond_of (fun e _ => ?_) (fun e => ?_)
  · have e : (decide (0 ≤ x) && decide (x < (l.length : Int))) = true := e
    rw [Bool.and_eq_true, decide_eq_true_eq, decide_eq_true_eq] at e
    have h1 := e.1
    have h2 := e.2
    have := key (l.set (0 + x.toNat) c.length) (by unfold markV; rw [if_pos e, Nat.zero_add])
    refine ⟨h1, h2, by show 0 + x.toNat < l.length; omega, ?_⟩
    have hl : (l.set (0 + x.toNat) (c.length : Int)).length = l.length := List.length_set
    unfold bH at this
    dsimp only at this
    rw [hl] at this
    exact this
  · have e : (decide (0 ≤ x) && decide (x < (l.length : Int))) = false := e
    refine key l ?_
    unfold markV
    rw [if_neg]
    intro hh
    rw [decide_eq_true hh.1, decide_eq_true hh.2] at e
    exact absurd e (by decide)
/-- The builder is read alone from now on. -/
theorem W_frzB {nt : Nat} {c : Code} {b : Bld} {Q : Exit → SS → Prop} (h : W 4 Try.prog c { nt := nt, fr := [(0, .p (.c (.ptr 0 0)))], hp := gH b } Q) : W 4 Try.prog c { nt := nt, fr := [(0, .p (.c (.ptr 0 0)))], hp := bH b } Q := by
  intro π ρ a w S
  obtain ⟨π', ρ', S', St, hp, hcc⟩ := sat_frz (N := 4) (bs := [1, 2, 3]) S rfl
  obtain ⟨g, vs, e1, e2, e3⟩ := S.hs.items 0 _ rfl
  obtain ⟨k1, _⟩ := St.keep 0 _ (Kd.cells 68) (by decide) rfl rfl
  have cv : ∀ {t : Ty} {k : Nat} {e : TypeId} {xs : List t.T} {v : Value}, (bH b)[k]? = some (.row e t xs) → nth (bH b) k = some (.row e t xs) → k ∈ [1, 2, 3] → DenC π ρ (.view t k 0 xs.length) v → DenC π' ρ' (.row t xs) v := fun {t k e xs v} _ hn hk hd => by
    have hb : brP { nt := nt, fr := [(0, .p (.c (.ptr 0 0)))], hp := bH b } (.c (.view t k 0 xs.length)) = some ([0 + xs.length ≤ xs.length], [k], .c (.row t xs)) := by
      simp only [brP, brC, hn, dif_pos, vw_all]
    have := brP_ok (bs := [1, 2, 3]) S (show DenP π ρ (.c (.view t k 0 xs.length)) v from hd) hb ⟨by omega, trivial⟩ (fun x hx => by rw [List.mem_singleton] at hx; subst hx; exact hk)
    exact hp _ _ this
  have hnew : HBIs π' ρ' w 0 (dC b) := by
    refine ⟨g, vs, by rw [k1]; exact e1, e2, ?_⟩
    generalize vs.toList = vl at e3
    match vl, e3 with
    | [v0, v1, v2, v3, v4], ⟨h0, h1, h2, h3, h4, _⟩ => exact ⟨cv (k := 1) rfl rfl (by simp) h0, cv (k := 2) rfl rfl (by simp) h1, hcc _ _ h2, cv (k := 3) rfl rfl (by simp) h3, hcc _ _ h4, trivial⟩
  have Sn : Sat π' ρ' { nt := nt, fr := [(0, .p (.c (.ptr 0 0)))], hp := gH b } a w := by
    refine ⟨⟨fun k it hk => ?_, fun k hk => S'.hs.lt k hk, fun k k' g hk hk' => S'.hs.inj k k' g hk hk', fun k g hk => S'.hs.apart k g hk, S'.hs.pers, fun k hk => S'.hs.out k hk⟩, S'.fs, S'.df, S'.nt, S'.on⟩
    match k, hk with
    | 0, hk => cases hk; exact hnew
    | 1, hk => cases hk; trivial
    | 2, hk => cases hk; trivial
    | 3, hk => cases hk; trivial
    | k + 4, hk => simp at hk
  refine wp_mono (h π' ρ' a w Sn) ?_
  rintro e a2 w2 ⟨π2, ρ2, s2, S2, St2, hq⟩
  refine ⟨π2, ρ2, s2, S2, Step.trans (h := bH b) (h1 := gH b) ⟨St.os, St.tape, St.output, St.size, St.block, fun k g hk => St.fresh k g hk, St.pmono, St.pfresh, fun k it κ hk hit hκ => ?_⟩ St2, hq⟩
  match k, hit with
  | 0, hit => cases hit; exact ⟨k1, _, rfl, hκ⟩
  | 1, hit => cases hit; cases hκ
  | 2, hit => cases hit; cases hκ
  | 3, hit => cases hit; cases hκ
  | k + 4, hit => simp at hit
end Go.Proofs.Ytkpepieepdmjpaa.Ch
