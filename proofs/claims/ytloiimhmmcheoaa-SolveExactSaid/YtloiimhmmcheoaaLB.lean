/- Chapter 21 (lattice): the contracts of lattice's small functions, proved. No condition. -/
import Derived.Test.YtloiimhmmcheoaaLAV
namespace Go.Proofs.Ytloiimhmmcheoaa.Ch
open Go Go.Proofs Go.Proofs.Ytloiimhmmcheoaa.Sx
set_option linter.unusedVariables false
set_option linter.unusedSimpArgs false

theorem tag_ok : ∀ args h Q, tag_t args h Q → FSpec Try.prog 29 args h Q := trH_ok fun ((t, _) : Int × Unit) _ Q h => by
  refine spec_body gok0 Try.func29 rfl noLam_ok ?_
  show body Try.prog (gam []) noLam Try.f29 [ti t] [] _
  rw [vc_tag]; exact h
theorem most_ok : ∀ args h Q, most_t args h Q → FSpec Try.prog 31 args h Q := trH_ok fun ((t, _) : Int × Unit) _ Q h => by
  refine spec_body gok0 Try.func31 rfl noLam_ok ?_
  show body Try.prog (gam []) noLam Try.f31 [ti t] [] _
  rw [vc_most]
  unfold mostV at h
  refine cond_of (fun hc => ?_) (fun hc => ?_)
  · have hc : t = 2 := by simpa using hc
    rw [if_pos hc] at h; exact h
  · have hc : t ≠ 2 := by simpa using hc
    rw [if_neg hc] at h; exact h
theorem bound_ok : ∀ args h Q, bound_t args h Q → FSpec Try.prog 38 args h Q := trH_ok fun ((t, _) : Int × Unit) _ Q h => by
  refine spec_body gok0 Try.func38 rfl noLam_ok ?_
  show body Try.prog (gam []) noLam Try.f38 [ti t] [] _
  rw [vc_bound]; exact h
theorem flat_ok : ∀ args h Q, flat_t args h Q → FSpec Try.prog 55 args h Q := trH_ok fun ((t, _) : Int × Unit) _ Q h => by
  refine spec_body gok0 Try.func55 rfl noLam_ok ?_
  show body Try.prog (gam []) noLam Try.f55 [ti t] [] _
  rw [vc_flat]; exact h
theorem cell_ok : ∀ args h Q, cell_t args h Q → FSpec Try.prog 45 args h Q := trH_ok fun ((t, a, b, _) : Int × Int × Int × Unit) _ Q h => by
  refine spec_body (Γ := gam [(55, [], flat_t)]) (gam_ok ⟨flat_ok, trivial⟩) Try.func45 rfl noLam_ok ?_
  show body Try.prog (gam [(55, [], flat_t)]) noLam Try.f45 [ti t, ti a, ti b] [] _
  rw [vc_cell]
  dsimp only at h
  unfold cellV at h
  refine cond_of (fun hc => ?_) (fun hc => cond_of (fun ha => ?_) (fun ha => cond_of (fun hb => ?_) (fun hb => cond_of (fun he => ?_) (fun he => cond_of (fun hz => ?_) (fun hz => ?_)))))
  · have hc : t ≠ 1 := by simpa using hc
    rw [if_neg (fun x => hc x.1)] at h; exact h
  · have ha : flatB a = false := by simpa using ha
    rw [if_neg (fun x => by rw [ha] at x; cases x.2.1)] at h; exact h
  · have hb : flatB b = false := by simpa using hb
    rw [if_neg (fun x => by rw [hb] at x; cases x.2.2)] at h; exact h
  all_goals
    have hc : t = 1 := by simpa using hc
    have ha : flatB a = true := by simpa using ha
    have hb : flatB b = true := by simpa using hb
    rw [if_pos ⟨hc, ha, hb⟩] at h
  · have he : a = b ∨ b = 0 := by simpa using he
    rw [if_pos he] at h; exact h
  · have he : ¬ (a = b ∨ b = 0) := by simpa using he
    have hz : a = 0 := by simpa using hz
    rw [if_neg he, if_pos hz] at h; exact h
  · have he : ¬ (a = b ∨ b = 0) := by simpa using he
    have hz : a ≠ 0 := by simpa using hz
    rw [if_neg he, if_neg hz] at h; exact h
theorem bound_is (n : Int) : boundV n = min (max n 0) 65536 := by unfold boundV mn2 mx2; split <;> split <;> omega
theorem height_ok : ∀ args h Q, height_t args h Q → FSpec Try.prog 18 args h Q := trH_ok fun ((t, n, _) : Int × Int × Unit) _ Q h => by
  refine spec_body (Γ := gam [(29, [], tag_t), (38, [], bound_t)]) (gam_ok ⟨tag_ok, bound_ok, trivial⟩) Try.func18 rfl noLam_ok ?_
  show body Try.prog (gam [(29, [], tag_t), (38, [], bound_t)]) noLam Try.f18 [ti t, ti n] [] _
  rw [vc_height]
  dsimp only at h
  unfold heightV at h
  have hb := bound_is n
  refine cond_of (fun hc => ?_) (fun hc => cond_of (fun ha => ?_) (fun ha => cond_of (fun he => ?_) (fun he => ?_)))
  · have hc : n < 0 := by simpa using hc
    rw [if_pos (.inl hc)] at h; exact h
  · have ha : tagB t = false := by simpa using ha
    rw [if_pos (.inr ha)] at h; exact h
  all_goals
    have hc : ¬ (n < 0) := by simpa using hc
    have ha : tagB t = true := by simpa using ha
    rw [if_neg (fun x => by rcases x with x | x; exact hc x; rw [ha] at x; cases x)] at h
  · have he : t = 1 := by simpa using he
    rw [if_pos he] at h
    rw [w64 (x := 2 * boundV n) (by omega) (by omega), w64 (by omega) (by omega)]; exact h
  · have he : t ≠ 1 := by simpa using he
    rw [if_neg he] at h
    rw [w64 (by omega) (by omega)]; exact h
theorem sclone_ok : ∀ args h Q, sclone_t args h Q → FSpec Try.prog 48 args h Q := trH_ok fun ((xs, _) : List Int × Unit) _ Q ⟨h0, h1⟩ => by
  dsimp only at h0 h1
  refine spec_ownR 3 tI 0 (spec_body gok0 Try.func48 rfl noLam_ok ?_)
  show body Try.prog (gam []) noLam Try.f48 [.c (.row tI xs)] [] _
  rw [vc_sclone]
  intro b hb
  cases b with
  | true => rw [hb rfl] at h1; exact .inr h1
  | false => exact ⟨Nat.le_refl _, by omega, .inl h1⟩
theorem clone_ok : ∀ args h Q, clone_t args h Q → FSpec Try.prog 44 args h Q := trH_ok fun (((c, xs), _) : Kn × Unit) _ Q h => by
  refine spec_body (Γ := gam [(48, [], sclone_t)]) (gam_ok ⟨sclone_ok, trivial⟩) Try.func44 rfl noLam_ok ?_
  show body Try.prog (gam [(48, [], sclone_t)]) noLam Try.f44 [.agg [.bool c, .row tI xs]] [] _
  rw [vc_clone]; exact h
theorem bad_ok : ∀ args h Q, bad_t args h Q → FSpec Try.prog 30 args h Q := trH_ok fun ((c, _) : Int × Unit × Unit) (((t, _), _) : (Int × Unit) × Unit) Q h => by
  refine spec_body (Γ := gam [(31, [], most_t)]) (gam_ok ⟨most_ok, trivial⟩) Try.func30 rfl noLam_ok ?_
  show body Try.prog (gam [(31, [], most_t)]) noLam Try.f30 [ti c, .c (.ptr 0 0)] (boxH t) _
  rw [vc_bad]
  dsimp only at h
  unfold badB at h
  refine cond_of (fun hc => ?_) (fun hc => ?_)
  · rw [hc, Bool.true_or] at h; exact h
  · rw [hc] at h; exact h
theorem gokBad : GOK Try.prog (gam [(30, [], bad_t)]) := gam_ok ⟨bad_ok, trivial⟩
theorem find_loop (ks : List Int) (t : Int) (hm : ks.length ≤ maxI) (Q : Exit → SS → Prop) (h1 : ks.any (badB t) = false → Q (.exit 0) (stFind0 t)) (h2 : ∀ r : Nat, ks.any (badB t) = true → r ≤ maxI → Q .ret (stFind1 t r)) :
    W 1 Try.prog (.loop (lp Try.f39 0)) (stFind ks t 0) Q := by
  refine W_loopE (stFind ks t) (fun i => i ≤ ks.length ∧ (ks.take i).any (badB t) = false) (fun i => ks.length - i) [0, 1, 7, 8] [] [4] ?_ 0 ⟨Nat.zero_le _, by simp⟩
  rintro i ⟨hi, ht⟩
  refine sx_ok (Λ := noLam) gokBad _ 0 _ _ noLam_ok ?_
  rw [vc_find_l]
  simp only [maxI] at hm
  refine cond_of (fun hc => ?_) (fun hc => ?_)
  · have hc : i < ks.length := by simpa using hc
    have ei : IntKind.i64.wrap ((i : Int) + 1) = ((i + 1 : Nat) : Int) := w64n (n := i + 1) (by omega)
    rw [ei]
    rw [Int.toNat_natCast, getD_at hc]
    refine ⟨by omega, by omega, hc, cond_of (fun hb => ?_) (fun hb => ?_)⟩
    · exact h2 i (List.any_eq_true.2 ⟨_, List.getElem_mem hc, hb⟩) (by simp only [maxI]; omega)
    · exact ⟨i + 1, rfl, ⟨hc, by rw [List.take_succ_eq_append_getElem hc, List.any_append, ht]; simp [hb]⟩, by omega⟩
  · have hc : ¬ (i < ks.length) := by simpa using hc
    rw [List.take_of_length_le (by omega)] at ht
    exact h1 ht
theorem index_ok : ∀ args h Q, index_t args h Q → FSpec Try.prog 39 args h Q := trH_ok fun ((ks, _) : List Int × (Unit × Unit) × Unit) (((t, _), _) : (Int × Unit) × Unit) Q h => by
  refine spec_body (Λ := lam [(0, find_l)]) gokBad Try.func39 rfl ?_ ?_
  · exact lokl (l := [(0, lp Try.f39 0)]) ⟨lam_ok fun x Q hm ⟨a1, a2⟩ => find_loop x.1 x.2 hm Q a1 a2, trivial⟩
  · show body Try.prog (gam [(30, [], bad_t)]) (lam [(0, find_l)]) Try.f39 [.c (.row tI ks), .clo 30 [.ptr 0 0]] (boxH t) _
    rw [vc_find]
    exact fun hm => ⟨(ks, t), rfl, hm, fun hf => h (-1) (by rw [hf]; rfl), fun r ht _ => h r (by rw [ht]; simp)⟩
theorem contains_ok : ∀ args h Q, contains_t args h Q → FSpec Try.prog 19 args h Q := trH_ok fun ((ks, _) : List Int × (Unit × Unit) × Unit) (((t, _), _) : (Int × Unit) × Unit) Q h => by
  refine spec_body (Γ := gam [(39, [], index_t)]) (gam_ok ⟨index_ok, trivial⟩) Try.func19 rfl noLam_ok ?_
  show body Try.prog (gam [(39, [], index_t)]) noLam Try.f19 [.c (.row tI ks), .clo 30 [.ptr 0 0]] (boxH t) _
  rw [vc_contains]
  intro r hr
  rw [show decide (r ≥ 0) = ks.any (badB t) from hr.symm]
  exact h
theorem good_ok : ∀ args h Q, good_t args h Q → FSpec Try.prog 12 args h Q := trH_ok fun ((t, n, (c, xs), _) : Int × Int × Kn × Unit) _ Q h => by
  refine spec_body (Γ := gam [(29, [], tag_t), (19, [], contains_t)]) (gam_ok ⟨tag_ok, contains_ok, trivial⟩) Try.func12 rfl noLam_ok ?_
  show body Try.prog (gam [(29, [], tag_t), (19, [], contains_t)]) noLam Try.f12 [ti t, ti n, .agg [.bool c, .row tI xs]] [] _
  rw [vc_good]
  dsimp only at h
  unfold goodV at h
  refine cond_of (fun ht => ?_) (fun ht => cond_of (fun hc => fun _ => ?_) (fun hc => fun _ => cond_of (fun hn => ?_) (fun hn => ?_)))
  · have ht : tagB t = false := by simpa using ht
    rw [ht] at h; exact h
  all_goals
    have ht : tagB t = true := by simpa using ht
    rw [ht, Bool.true_and] at h
  · have hc : c = false := by simpa using hc
    subst hc
    have e : ((xs.length : Int) == 0) = xs.isEmpty := by cases xs <;> simp; omega
    rw [e]; exact h
  all_goals
    have hc : c = true := by simpa using hc
    subst hc
  · have hn : (xs.length : Int) = n := by simpa using hn
    dsimp only [cond_true] at h
    rw [decide_eq_true hn] at h
    exact h
  · have hn : (xs.length : Int) ≠ n := by simpa using hn
    dsimp only [cond_true] at h
    rw [decide_eq_false hn] at h
    exact h
theorem eq_loop (xs ys : List Int) (hl : xs.length = ys.length) (hm : xs.length ≤ maxI) (Q : Exit → SS → Prop) (h1 : xs = ys → Q (.exit 0) (⟨26, [], []⟩ : SS)) (h2 : xs ≠ ys → Q .ret (⟨26, [(4, .p (tb false))], []⟩ : SS)) :
    W 0 Try.prog (.loop (lp Try.f46 0)) (stEq xs ys 0) Q := by
  refine W_loopE (stEq xs ys) (fun i => i ≤ xs.length ∧ xs.take i = ys.take i) (fun i => xs.length - i) [0, 1, 12, 13] [] [4] ?_ 0 ⟨Nat.zero_le _, by simp⟩
  rintro i ⟨hi, ht⟩
  refine sx_ok (Λ := noLam) gok0 _ 0 _ _ noLam_ok ?_
  rw [vc_eq_l]
  simp only [maxI] at hm
  refine cond_of (fun hc => ?_) (fun hc => ?_)
  · have hc : i < xs.length := by simpa using hc
    have hd : i < ys.length := by omega
    have ei : IntKind.i64.wrap ((i : Int) + 1) = ((i + 1 : Nat) : Int) := w64n (n := i + 1) (by omega)
    rw [ei, Int.toNat_natCast, getD_at hc, getD_at hd]
    refine ⟨by omega, by omega, hc, by omega, by omega, hd, cond_of (fun hb => ?_) (fun hb => ?_)⟩
    · have hb : xs[i] ≠ ys[i] := by simpa using hb
      exact h2 (fun e => hb (by subst e; rfl))
    · have hb : xs[i] = ys[i] := by simpa using hb
      exact ⟨i + 1, rfl, ⟨hc, by rw [List.take_succ_eq_append_getElem hc, List.take_succ_eq_append_getElem hd, ht, hb]⟩, by omega⟩
  · have hc : ¬ (i < xs.length) := by simpa using hc
    rw [List.take_of_length_le (by omega), List.take_of_length_le (by omega)] at ht
    exact h1 ht
theorem equal_ok : ∀ args h Q, equal_t args h Q → FSpec Try.prog 46 args h Q := trH_ok fun ((xs, ys, _) : List Int × List Int × Unit) _ Q h => by
  refine spec_body (Λ := lam [(0, eq_l)]) gok0 Try.func46 rfl ?_ ?_
  · exact lokl (l := [(0, lp Try.f46 0)]) ⟨lam_ok fun x Q ⟨hl, hm⟩ ⟨a1, a2⟩ => eq_loop x.1 x.2 hl hm Q a1 a2, trivial⟩
  · show body Try.prog (gam []) (lam [(0, eq_l)]) Try.f46 [.c (.row tI xs), .c (.row tI ys)] [] _
    rw [vc_eq]
    dsimp only at h
    intro hm hm'
    refine cond_of (fun hc => ?_) (fun hc => fun _ => ?_)
    · have hc : xs.length ≠ ys.length := fun e => by rw [e] at hc; simp at hc
      rw [decide_eq_false (fun e => hc (by rw [e]))] at h; exact h
    · have hc : xs.length = ys.length := by
        have : (xs.length : Int) = ys.length := by simpa using hc
        omega
      exact ⟨(xs, ys), rfl, ⟨hc, hm⟩, fun e => by rw [decide_eq_true e] at h; exact h, fun e => by rw [decide_eq_false e] at h; exact h⟩
theorem same_ok : ∀ args h Q, same_t args h Q → FSpec Try.prog 24 args h Q := trH_ok fun (((c, xs), (d, ys), _) : Kn × Kn × Unit) _ Q h => by
  refine spec_body (Γ := gam [(46, [], equal_t)]) (gam_ok ⟨equal_ok, trivial⟩) Try.func24 rfl noLam_ok ?_
  show body Try.prog (gam [(46, [], equal_t)]) noLam Try.f24 [.agg [.bool c, .row tI xs], .agg [.bool d, .row tI ys]] [] _
  rw [vc_same]
  dsimp only at h
  refine cond_of (fun hc => ?_) (fun hc => ?_)
  · have hc : c = d := by simpa using hc
    have e : decide (((c, xs) : Kn) = (d, ys)) = (true && decide (xs = ys)) := by subst hc; simp
    rw [e] at h; exact h
  · have hc : c ≠ d := by simpa using hc
    have e : decide (((c, xs) : Kn) = (d, ys)) = false := by simp [hc]
    rw [e] at h; exact h
end Go.Proofs.Ytloiimhmmcheoaa.Ch
