/- Chapter 11 (code): whether a func's code can be: proved. No condition. -/
import Derived.Test.YtckijackbldkhaaG
namespace Go.Proofs.Ytckijackbldkhaa.Ch
open Go Go.Proofs Go.Proofs.Ytckijackbldkhaa.Sx
set_option linter.unusedVariables false
set_option linter.unusedSimpArgs false

theorem badR_ok : ∀ args h Q, badR_t args h Q → FSpec Try.prog 27 args h Q := trH_ok fun ((c, _) : Int × Unit × Unit) ((y, _) : PB × Unit) Q h => by
  refine spec_body gok0 Try.func27 rfl noLam_ok ?_
  show body Try.prog (gam []) noLam Try.f27 [ti c, .c (.ptr 0 0)] (boxP y) _
  rw [vc_badR]
  exact h
theorem badW_ok : ∀ args h Q, badW_t args h Q → FSpec Try.prog 28 args h Q := trH_ok fun ((c, _) : Int × Unit × Unit) ((y, _) : PB × Unit) Q h => by
  refine spec_body gok0 Try.func28 rfl noLam_ok ?_
  show body Try.prog (gam []) noLam Try.f28 [ti c, .c (.ptr 0 0)] (boxP y) _
  rw [vc_badW]
  exact h
theorem gokBR : GOK Try.prog (gam [(27, [], badR_t)]) := gam_ok ⟨badR_ok, trivial⟩
theorem gokBW : GOK Try.prog (gam [(28, [], badW_t)]) := gam_ok ⟨badW_ok, trivial⟩
theorem fdR_loop (ks : List Int) (y : PB) (hm : ks.length ≤ maxI) (Q : Exit → SS → Prop) (h1 : ks.any (badR y) = false → Q (.exit 0) (stFd0 y)) (h2 : ∀ r : Nat, ks.any (badR y) = true → Q .ret (stFd1 y r)) :
    W 1 Try.prog (.loop (lp Try.f44 0)) (stFd 27 ks y 0) Q := by
  refine W_all (stFd 27 ks y) ks.length (fun i => badR y (ks.getD i 0) = false) [0, 1, 7, 8] [] [4] (fun i hi ho K hK => ?_)
  refine sx_ok (Λ := noLam) gokBR _ 0 _ _ noLam_ok ?_
  rw [vc_fdRL]
  simp only [maxI] at hm
  refine cond_of (fun hc => ?_) (fun hc => ?_)
  · have hc : i < ks.length := by simpa using hc
    have ei : IntKind.i64.wrap ((i : Int) + 1) = ((i + 1 : Nat) : Int) := w64n (n := i + 1) (by omega)
    rw [ei, Int.toNat_natCast]
    refine ⟨by omega, by omega, hc, cond_of (fun hb => ?_) (fun hb => hK hc hb)⟩
    exact h2 i (List.any_eq_true.2 ⟨_, List.getElem_mem hc, by rw [getD_at hc] at hb; exact hb⟩)
  · have hc : ¬ (i < ks.length) := by simpa using hc
    refine h1 ?_
    rw [List.any_eq_false]
    intro b hb
    obtain ⟨j, hj, rfl⟩ := List.getElem_of_mem hb
    have := ho j (by omega)
    rw [getD_at hj] at this
    rw [this]; decide
theorem fdW_loop (ks : List Int) (y : PB) (hm : ks.length ≤ maxI) (Q : Exit → SS → Prop) (h1 : ks.any (badW y) = false → Q (.exit 0) (stFd0 y)) (h2 : ∀ r : Nat, ks.any (badW y) = true → Q .ret (stFd1 y r)) :
    W 1 Try.prog (.loop (lp Try.f44 0)) (stFd 28 ks y 0) Q := by
  refine W_all (stFd 28 ks y) ks.length (fun i => badW y (ks.getD i 0) = false) [0, 1, 7, 8] [] [4] (fun i hi ho K hK => ?_)
  refine sx_ok (Λ := noLam) gokBW _ 0 _ _ noLam_ok ?_
  rw [vc_fdWL]
  simp only [maxI] at hm
  refine cond_of (fun hc => ?_) (fun hc => ?_)
  · have hc : i < ks.length := by simpa using hc
    have ei : IntKind.i64.wrap ((i : Int) + 1) = ((i + 1 : Nat) : Int) := w64n (n := i + 1) (by omega)
    rw [ei, Int.toNat_natCast]
    refine ⟨by omega, by omega, hc, cond_of (fun hb => ?_) (fun hb => hK hc hb)⟩
    exact h2 i (List.any_eq_true.2 ⟨_, List.getElem_mem hc, by rw [getD_at hc] at hb; exact hb⟩)
  · have hc : ¬ (i < ks.length) := by simpa using hc
    refine h1 ?_
    rw [List.any_eq_false]
    intro b hb
    obtain ⟨j, hj, rfl⟩ := List.getElem_of_mem hb
    have := ho j (by omega)
    rw [getD_at hj] at this
    rw [this]; decide
theorem idxR_ok : ∀ args h Q, idxR_t args h Q → FSpec Try.prog 44 args h Q := trH_ok fun ((ks, _) : List Int × (Unit × Unit) × Unit) ((y, _) : PB × Unit) Q h => by
  refine spec_body (Λ := lam [(0, fdR_l)]) gokBR Try.func44 rfl (lokl (l := [(0, lp Try.f44 0)]) ⟨lam_ok fun x Q hm ⟨a1, a2⟩ => fdR_loop x.1 x.2 hm Q a1 a2, trivial⟩) ?_
  show body Try.prog (gam [(27, [], badR_t)]) (lam [(0, fdR_l)]) Try.f44 [.c (.row tI ks), .clo 27 [.ptr 0 0]] (boxP y) _
  rw [vc_fdR]
  exact fun hm => ⟨(ks, y), rfl, hm, fun hf => h (-1) (by rw [hf]; rfl), fun r ht => h r (by rw [ht]; simp)⟩
theorem idxW_ok : ∀ args h Q, idxW_t args h Q → FSpec Try.prog 44 args h Q := trH_ok fun ((ks, _) : List Int × (Unit × Unit) × Unit) ((y, _) : PB × Unit) Q h => by
  refine spec_body (Λ := lam [(0, fdW_l)]) gokBW Try.func44 rfl (lokl (l := [(0, lp Try.f44 0)]) ⟨lam_ok fun x Q hm ⟨a1, a2⟩ => fdW_loop x.1 x.2 hm Q a1 a2, trivial⟩) ?_
  show body Try.prog (gam [(28, [], badW_t)]) (lam [(0, fdW_l)]) Try.f44 [.c (.row tI ks), .clo 28 [.ptr 0 0]] (boxP y) _
  rw [vc_fdW]
  exact fun hm => ⟨(ks, y), rfl, hm, fun hf => h (-1) (by rw [hf]; rfl), fun r ht => h r (by rw [ht]; simp)⟩
theorem conR_ok : ∀ args h Q, conR_t args h Q → FSpec Try.prog 29 args h Q := trH_ok fun ((ks, _) : List Int × (Unit × Unit) × Unit) ((y, _) : PB × Unit) Q h => by
  refine spec_body (Γ := gam [(44, [], idxR_t)]) (gam_ok ⟨idxR_ok, trivial⟩) Try.func29 rfl noLam_ok ?_
  show body Try.prog (gam [(44, [], idxR_t)]) noLam Try.f29 [.c (.row tI ks), .clo 27 [.ptr 0 0]] (boxP y) _
  rw [vc_conR]
  intro r hr
  rw [show decide (r ≥ 0) = ks.any (badR y) from hr.symm]
  exact h
theorem conW_ok : ∀ args h Q, conW_t args h Q → FSpec Try.prog 29 args h Q := trH_ok fun ((ks, _) : List Int × (Unit × Unit) × Unit) ((y, _) : PB × Unit) Q h => by
  refine spec_body (Γ := gam [(44, [], idxW_t)]) (gam_ok ⟨idxW_ok, trivial⟩) Try.func29 rfl noLam_ok ?_
  show body Try.prog (gam [(44, [], idxW_t)]) noLam Try.f29 [.c (.row tI ks), .clo 28 [.ptr 0 0]] (boxP y) _
  rw [vc_conW]
  intro r hr
  rw [show decide (r ≥ 0) = ks.any (badW y) from hr.symm]
  exact h
theorem con_ok : ∀ args h Q, con_t args h Q → FSpec Try.prog 29 args h Q := orClo_ok conR_ok conW_ok
/-! ### arms -/
theorem gokFa : GOK Try.prog (gam [(42, [], isarmC_t)]) := gam_ok ⟨isarmC_ok, trivial⟩
theorem fa_loop (l : List Arm) (Q : Exit → SS → Prop) (hl : l.length ≤ 1000000) (h1 : l.any (fun a : Arm => !isArmV a) = false → Q (.exit 0) (⟨19, [], []⟩ : SS)) (h2 : ∀ r : Nat, l.any (fun a : Arm => !isArmV a) = true → Q .ret (⟨19, [(4, .p (ti r))], []⟩ : SS)) : W 0 Try.prog (.loop (lp Try.f63 0)) (stFa l 0) Q := by
  refine W_all (stFa l) l.length (fun i => (!isArmV (l.getD i tArm.dft)) = false) [0, 1, 7, 8] [] [4] (fun i hi ho K hK => ?_)
  refine sx_ok (Λ := noLam) gokFa _ 0 _ _ noLam_ok ?_
  rw [vc_faL]
  refine cond_of (fun hc => ?_) (fun hc => ?_)
  · have hc : i < l.length := by simpa using hc
    have ei : IntKind.i64.wrap ((i : Int) + 1) = ((i + 1 : Nat) : Int) := w64n (n := i + 1) (by omega)
    rw [ei, Int.toNat_natCast]
    refine ⟨by omega, by omega, hc, cond_of (fun hb => ?_) (fun hb => hK hc hb)⟩
    exact h2 i (List.any_eq_true.2 ⟨_, List.getElem_mem hc, by rw [getD_at hc] at hb; exact hb⟩)
  · have hc : ¬ (i < l.length) := by simpa using hc
    refine h1 ?_
    rw [List.any_eq_false]
    intro b hb
    obtain ⟨j, hj, rfl⟩ := List.getElem_of_mem hb
    have := ho j (by omega)
    rw [getD_at hj] at this
    rw [this]; decide
theorem idxA_ok : ∀ args h Q, idxA_t args h Q → FSpec Try.prog 63 args h Q := by
  intro args h Q hh
  unfold idxA_t at hh
  split at hh
  · rename_i a g
    cases hg : Nat.beq g 42 with
    | false => rw [hg] at hh; exact hh.elim
    | true =>
      rw [hg] at hh
      obtain rfl := Nat.eq_of_beq_eq_true hg
      simp only [cond_true] at hh
      split at hh
      · rename_i l hd
        obtain ⟨hl, hq⟩ := hh
        refine spec_le (b := [.c (.row tArm l), .c (.func 42)]) ⟨AS.dec_ok (.row tArm) a l hd, fun _ _ _ h => h, trivial⟩ ?_
        refine spec_body (Λ := lam [(0, fa_l)]) gokFa Try.func63 rfl (lokl (l := [(0, lp Try.f63 0)]) ⟨lam_ok fun l Q hl ⟨a1, a2⟩ => fa_loop l Q hl a1 a2, trivial⟩) ?_
        show body Try.prog (gam [(42, [], isarmC_t)]) (lam [(0, fa_l)]) Try.f63 [.c (.row tArm l), .c (.func 42)] [] _
        rw [vc_fa]
        exact fun _ => ⟨l, rfl, hl, fun hf => hq (-1) (by rw [hf]; rfl), fun r ht => hq r (by rw [ht]; simp)⟩
      · exact hh.elim
  · exact hh.elim
theorem conA_ok : ∀ args h Q, conA_t args h Q → FSpec Try.prog 41 args h Q := by
  intro args h Q hh
  unfold conA_t at hh
  split at hh
  · rename_i a g
    cases hg : Nat.beq g 42 with
    | false => rw [hg] at hh; exact hh.elim
    | true =>
      rw [hg] at hh
      obtain rfl := Nat.eq_of_beq_eq_true hg
      simp only [cond_true] at hh
      split at hh
      · rename_i l hd
        obtain ⟨hl, hq⟩ := hh
        refine spec_le (b := [.c (.row tArm l), .c (.func 42)]) ⟨AS.dec_ok (.row tArm) a l hd, fun _ _ _ h => h, trivial⟩ ?_
        refine spec_body (Γ := gam [(63, [], idxA_t)]) (gam_ok ⟨idxA_ok, trivial⟩) Try.func41 rfl noLam_ok ?_
        show body Try.prog (gam [(63, [], idxA_t)]) noLam Try.f41 [.c (.row tArm l), .c (.func 42)] [] _
        rw [vc_conA]
        refine ⟨hl, fun r hr => ?_⟩
        rw [show decide (r ≥ 0) = l.any (fun a : Arm => !isArmV a) from hr.symm]
        exact hq
      · exact hh.elim
  · exact hh.elim
theorem nums_ok : ∀ args h Q, nums_t args h Q → FSpec Try.prog 26 args h Q := trH_ok fun ((p, x, _) : Pro × Ins × Unit) _ Q ⟨hl, h⟩ => by
  refine spec_body (Γ := gam [(40, [], isvar_t), (15, [], cnt_t), (41, [], conA_t)]) (gam_ok ⟨isvar_ok, cnt_ok, conA_ok, trivial⟩) Try.func26 rfl noLam_ok ?_
  show body Try.prog (gam [(40, [], isvar_t), (15, [], cnt_t), (41, [], conA_t)]) noLam Try.f26 [.agg (toCV tPro p), .agg (toCV tIns x)] [] _
  rw [vc_nums]
  dsimp only at hl h
  have key : ∀ b, numsV p x = b → Q (.p (tb b)) [] := fun b e => by rw [← e]; exact h
  clear h
  repeat' (first | refine cond_of (fun hk => ?_) (fun _ => ?_))
  all_goals first
    | exact key _ (by unfold numsV Ins.op; rw [eq_of_beq hk]; rfl)
    | exact ⟨Nat.le_refl _, by simp, key _ (by unfold numsV Ins.op; rw [eq_of_beq hk]; rfl)⟩
    | exact ⟨Nat.le_refl _, by simp [vw], key _ (by unfold numsV Ins.op; rw [eq_of_beq hk]; rfl)⟩
    | exact ⟨Nat.le_trans hl.2 (by decide), key _ (by unfold numsV Ins.op; rw [eq_of_beq hk]; rfl)⟩
    | skip
  refine key _ ?_
  unfold numsV inL Ins.op
  simp_all
theorem ig_aux (A B C D N R W X : Bool) (P : Prop) (Q : Bool → Prop) (hP : P) (h : Q (!(A || (B || (C || (D || !N)))) && (!R && (!W && !X)))) : bif A || B || C || D then Q false else P ∧ bif false || !N then Q false else P ∧ bif !R then P ∧ bif true && !W then P ∧ Q (true && !X) else Q false else Q false := by
  cases A <;> cases B <;> cases C <;> cases D <;> cases N <;> cases R <;> cases W <;> cases X <;> simp_all
theorem isgood_ok : ∀ args h Q, isgood_t args h Q → FSpec Try.prog 17 args h Q := trH_ok fun ((p, x, pc, _) : Pro × Ins × Int × Unit) _ Q ⟨hl, h⟩ => by
  refine spec_body (Γ := gam gIG) (gam_ok ⟨nums_ok, reads_ok, writes_ok, next_ok, con_ok, trivial⟩) Try.func17 rfl noLam_ok ?_
  show body Try.prog (gam gIG) noLam Try.f17 [.agg (toCV tPro p), .agg (toCV tIns x), ti pc] [] _
  rw [vc_isgood]
  dsimp only at hl h
  exact ig_aux _ _ _ _ _ _ _ _ _ (fun b => Q (.p (tb b)) []) hl h
theorem gokIg : GOK Try.prog (gam [(17, [], isgood_t)]) := gam_ok ⟨isgood_ok, trivial⟩
theorem go_loop (p : Pro) (Q : Exit → SS → Prop) (hs : smallP p) (h1 : (∀ k, k < p.code.length → isGoodV p (p.code.getD k tIns.dft) k = true) → Q (.exit 0) (⟨60, [], []⟩ : SS)) (h2 : (¬ ∀ k, k < p.code.length → isGoodV p (p.code.getD k tIns.dft) k = true) → Q .ret (⟨60, [(2, .p (tb false))], []⟩ : SS)) : W 0 Try.prog (.loop (lp Try.f7 0)) (stGo p 0) Q := by
  refine W_all (stGo p) p.code.length (fun i => isGoodV p (p.code.getD i tIns.dft) i = true) [1, 47, 48, 49] [] [2] (fun i hi ho K hK => ?_)
  refine sx_ok (Λ := noLam) gokIg _ 0 _ _ noLam_ok ?_
  rw [vc_goodL]
  have hs1 := hs.1
  refine cond_of (fun hc => ?_) (fun hc => ?_)
  · have hc : i < p.code.length := by have := of_decide_eq_true hc; exact Int.ofNat_lt.1 this
    have ei : IntKind.i64.wrap ((i : Int) + 1) = ((i + 1 : Nat) : Int) := w64n (n := i + 1) (by omega)
    rw [ei, Int.toNat_natCast]
    refine ⟨by omega, Int.ofNat_lt.2 hc, hc, ?_, cond_of (fun hb => ?_) (fun hb => hK hc (by have hb : (!isGoodV p (p.code.getD i tIns.dft) i) = false := hb; rw [Bool.not_eq_false'] at hb; exact hb))⟩
    · have : p.code.getD i tIns.dft ∈ p.code := by rw [getD_at hc]; exact List.getElem_mem _
      exact hs.2 _ this
    · refine h2 fun hh => ?_
      have := hh i hc
      have hb : (!isGoodV p (p.code.getD i tIns.dft) i) = true := hb
      rw [this] at hb; exact absurd hb (by decide)
  · have hc : ¬ (i < p.code.length) := by intro h; exact of_decide_eq_false hc (Int.ofNat_lt.2 h)
    exact h1 fun k hk => ho k (by omega)
end Go.Proofs.Ytckijackbldkhaa.Ch
