/- Chapter 22 (reach): the law ReachLess. No condition. -/
import Derived.Test.YtodlfjohaohfbaaY
namespace Go.Proofs.Ytodlfjohaohfbaa.Ch
open Go Go.Proofs Go.Proofs.Ytodlfjohaohfbaa.Sx
set_option linter.unusedVariables false
set_option linter.unusedSimpArgs false

theorem gq_step (p : Pro) (x : Ins) (i : Nat) (Q : Exit → SS → Prop) (ha : x.arms.length ≤ 20) (h1 : Q (.exit 2) (stGp p i)) (h2 : Q .ret (⟨75, [(2, .p (tb true))], []⟩ : SS)) : W 0 Try.prog (.loop (lpIn (lp Try.f6 0) 0 0)) (stGq p x i 0) Q := by
  refine W_all (stGq p x i) x.arms.length (fun _ => True) [1, 3, 4, 5] [1, 3] [2] (fun j hj _ K hK => sx_ok (Λ := noLam) gok0 _ 2 _ _ noLam_ok ?_)
  rw [vc_greatI]
  have el : List.length x.2.2.2.2.2.2.2.2.2.2.2.1 = x.arms.length := rfl
  simp only [el]
  refine fun _ => cond_of (fun hc => ?_) (fun hc => h1)
  have hc : j < x.arms.length := by have := of_decide_eq_true hc; omega
  have ei : IntKind.i64.wrap ((j : Int) + 1) = ((j + 1 : Nat) : Int) := w64n (n := j + 1) (by omega)
  rw [ei]
  exact ⟨by omega, by omega, hc, cond_of (fun _ => h2) (fun _ => hK hc trivial)⟩
theorem gp_step (p : Pro) (Q : Exit → SS → Prop) (hl : p.code.length ≤ 40) (h1 : (∀ i ∈ p.code, smallI i) → Q (.exit 0) (⟨75, [], []⟩ : SS)) (h2 : Q .ret (⟨75, [(2, .p (tb true))], []⟩ : SS)) : W 0 Try.prog (.loop (lp Try.f6 0)) (stGp p 0) Q := by
  refine W_all (stGp p) p.code.length (fun i => smallI (p.code.getD i tIns.dft)) [1, 3] [] [2] (fun i hi ho K hK =>
    sx_ok (Λ := lam [(2, gq_l)]) gok0 _ 0 _ _ (lokl (l := [(2, lpIn (lp Try.f6 0) 0 0)]) ⟨lam_ok (fun x Q h1 ⟨h2, h3⟩ => gq_step x.1 x.2.1 x.2.2 Q h1 h2 h3), trivial⟩) ?_)
  rw [vc_greatL]
  have el : List.length p.2.2.2.2.2.2.1 = p.code.length := rfl
  simp only [el, Int.toNat_natCast]
  refine fun _ => cond_of (fun hc => ?_) (fun hc => ?_)
  · have hc : i < p.code.length := by have := of_decide_eq_true hc; omega
    have ei : IntKind.i64.wrap ((i : Int) + 1) = ((i + 1 : Nat) : Int) := w64n (n := i + 1) (by omega)
    refine ⟨by omega, by omega, hc, fun _ => cond_of (fun _ => h2) (fun hb => ?_)⟩
    simp only [Bool.or_eq_false_iff, decide_eq_false_iff_not] at hb
    have hs : smallI (p.code.getD i tIns.dft) := by
      have h3 := hb.1.1.1.1
      have h4 := hb.1.1.1.2
      refine ⟨?_, ?_⟩
      · have : ¬ (((p.code.getD i tIns.dft).args.length : Nat) : Int) > 20 := h3
        omega
      · have : ¬ (((p.code.getD i tIns.dft).arms.length : Nat) : Int) > 20 := h4
        omega
    refine ⟨(p, p.code.getD i tIns.dft, i), rfl, hs.2, ?_, h2⟩
    dsimp only
    rw [ei]
    exact hK hc hs
  · have hc : ¬ i < p.code.length := by have := of_decide_eq_false hc; omega
    refine h1 fun x hx => ?_
    obtain ⟨j, hj, rfl⟩ := mem_getD (d := tIns.dft) hx
    exact ho j (by omega)
theorem great_ok : ∀ args h Q, great_t args h Q → FSpec Try.prog 6 args h Q := trH_ok fun ((p, _) : Pro × Unit) _ Q h => by
  refine spec_body (Λ := lam [(0, gp_l)]) gok0 Try.func6 rfl (lokl (l := [(0, lp Try.f6 0)]) ⟨lam_ok (fun p Q a ⟨b, c⟩ => gp_step p Q a b c), trivial⟩) ?_
  show body Try.prog (gam []) (lam [(0, gp_l)]) Try.f6 [.agg (toCV tPro p)] [] _
  rw [vc_great]
  dsimp only at h
  refine fun _ => cond_of (fun _ => h true (fun e => by cases e)) (fun hb => ⟨p, rfl, ?_, fun hs => h false fun _ => ⟨?_, hs⟩, h true (fun e => by cases e)⟩)
  all_goals
    simp only [Bool.or_eq_false_iff, decide_eq_false_iff_not] at hb
    have h3 : ¬ (((p.code.length : Nat) : Int) > 40) := hb.1.1
    omega
/-! ### Stmts -/
theorem hasStep_len (p : Pro) (h : List Bool) (k : Nat) : (hasStep p h k).length = h.length := by unfold hasStep; split <;> simp
theorem comStep_len (p : Pro) (r h : List Bool) (k : Nat) : (comStep p r h k).length = h.length := by unfold comStep; split <;> simp
theorem hasV_len (p : Pro) : ∀ n, (hasV p n).length = p.stms.length
  | 0 => by unfold hasV; simp
  | n + 1 => by unfold hasV; rw [range_fold, hasStep_len]; exact hasV_len p n
theorem comV_len (p : Pro) (r : List Bool) : ∀ n, (comV p r n).length = p.stms.length
  | 0 => by unfold comV; simp
  | n + 1 => by unfold comV; rw [range_fold, comStep_len]; exact comV_len p r n
theorem sa_step (p : Pro) (r : List Bool) (Q : Exit → SS → Prop) (hp : smallP p) (hq : Q (.exit 0) (⟨89, [(5, .p (.c (.view .bool 0 0 (hasV p p.code.length).length))), (6, .p (.c (.view .bool 1 0 (comV p r p.code.length).length)))], [.row 4 .bool (hasV p p.code.length), .row 4 .bool (comV p r p.code.length)]⟩ : SS)) :
    W 0 Try.prog (.loop (lp Try.f13 0)) (stSa p r (List.replicate p.stms.length false) (List.replicate p.stms.length false) 0) Q := by
  have hcl := hp.1
  refine W_all (fun k => stSa p r (hasV p k) (comV p r k) k) p.code.length (fun _ => True) [1, 2, 5, 6, 20, 21, 22] [5, 6] [] (fun k hk _ K hK => sx_ok (Λ := noLam) gok0 _ 0 _ _ noLam_ok ?_)
  rw [vc_stmtsA]
  refine cond_of (fun hc => ?_) (fun hc => ?_)
  · have hc : k < p.code.length := by have := of_decide_eq_true hc; omega
    have ei : IntKind.i64.wrap ((k : Int) + 1) = ((k + 1 : Nat) : Int) := w64n (n := k + 1) (by omega)
    have hKK := hK hc trivial
    have e1 : hasV p (k + 1) = hasStep p (hasV p k) k := by unfold hasV; exact range_fold
    have e2 : comV p r (k + 1) = comStep p r (comV p r k) k := by unfold comV; exact range_fold
    rw [e1, e2] at hKK
    have l1 := hasV_len p k
    have l2 := comV_len p r k
    generalize hasV p k = h at hKK l1 ⊢
    generalize comV p r k = c at hKK l2 ⊢
    have ec : List.getD p.2.2.2.2.2.2.1 k tIns.dft = p.code.getD k tIns.dft := rfl
    have es : List.length p.2.2.2.2.2.2.2.2.1 = p.stms.length := rfl
    simp only [ei, Nat.zero_add, Int.toNat_natCast, ec, es]
    unfold hasStep comStep okS at hKK
    generalize p.code.getD k tIns.dft = x at hKK ⊢
    have i1 : x.2.2.2.2.2.2.2.2.2.2.2.2.1 = x.stmt := rfl
    have i2 : x.1 = x.op := rfl
    simp only [i1, i2]
    refine ⟨by omega, by show (k : Int) < (p.code.length : Int); omega, hc, cond_of (fun hb => ?_) (fun hb => ?_)⟩
    · have hb : (decide (x.stmt < 0) || decide ((p.stms.length : Int) ≤ x.stmt) || x.op == 40 || x.op == 41) = true := hb
      rw [hb] at hKK
      exact hKK
    · have hb : (decide (x.stmt < 0) || decide ((p.stms.length : Int) ≤ x.stmt) || x.op == 40 || x.op == 41) = false := hb
      rw [hb] at hKK
      simp only [Bool.or_eq_false_iff, decide_eq_false_iff_not] at hb
      have hs : 0 ≤ x.stmt ∧ x.stmt < (p.stms.length : Int) := by omega
      have g1 : x.stmt < (h.length : Int) := by omega
      have g2 : x.stmt.toNat < h.length := by omega
      have g3 : x.stmt < (c.length : Int) := by omega
      have g4 : x.stmt.toNat < c.length := by omega
      refine ⟨hs.1, g1, g2, fun _ => ⟨fun e => ?_, fun e => ⟨by have := of_decide_eq_true e; omega, trivial⟩, cond_of (fun hr => ?_) (fun hr => ?_)⟩⟩
      · have := of_decide_eq_true e; exact ⟨by omega, this, trivial⟩
      · have hr : (decide ((k : Int) < (r.length : Int)) && r.getD k false) = true := hr
        have hr' : (decide (k < r.length) && r.getD k false) = true := by
          simp only [Bool.and_eq_true, decide_eq_true_eq] at hr ⊢
          exact ⟨by omega, hr.2⟩
        rw [hr'] at hKK
        simp only [Bool.not_false, Bool.true_and, if_pos] at hKK
        unfold stSa at hKK
        rw [List.length_set, List.length_set] at hKK
        exact ⟨hs.1, g3, g4, hKK⟩
      · have hr : (decide ((k : Int) < (r.length : Int)) && r.getD k false) = false := hr
        have hr' : (decide (k < r.length) && r.getD k false) = false := by
          cases h0 : (decide (k < r.length) && r.getD k false) with
          | false => rfl
          | true =>
            simp only [Bool.and_eq_true, decide_eq_true_eq] at h0
            rw [h0.2, decide_eq_true (by omega)] at hr
            cases hr
        rw [hr'] at hKK
        unfold stSa at hKK
        simp only [Bool.not_false, if_pos, Bool.and_false, Bool.false_eq_true, if_false, List.length_set] at hKK
        exact hKK
  · have hc : ¬ k < p.code.length := by have := of_decide_eq_false hc; omega
    obtain rfl : k = p.code.length := by omega
    exact hq
theorem outV_next (h c : List Bool) (n : Nat) : outV h c (n + 1) = if (h.getD n false && !c.getD n false) = true then outV h c n ++ [(n : Int)] else outV h c n := by
  unfold outV
  rw [List.range_succ, List.filter_append, List.map_append]
  have ef : ∀ b : Bool, (h.getD n false && !c.getD n false) = b → List.filter (fun s => h.getD s false && !c.getD s false) [n] = if b = true then [n] else [] := fun b e => by
    rw [List.filter_cons, List.filter_nil]
    simp only [e]
  rw [ef _ rfl]
  split
  · rfl
  · exact List.append_nil _
theorem outV_len (h c : List Bool) : ∀ n, (outV h c n).length ≤ n
  | 0 => by unfold outV; simp
  | n + 1 => by
    rw [outV_next]
    have := outV_len h c n
    split
    · rw [List.length_append]; show _ + 1 ≤ _; omega
    · omega
theorem sb_step (h c : List Bool) (Q : Exit → SS → Prop) (hl : c.length = h.length) (hm : h.length ≤ 1000) (hq : Q (.exit 2) (⟨89, [(9, .p (.c (.view tI 0 0 (outV h c h.length).length)))], [.row 3 tI (outV h c h.length)]⟩ : SS)) :
    W 0 Try.prog (.loop (lp Try.f13 1)) (stSb0 h c) Q := by
  refine W_ownF 3 tI 9 (W_fits (t := stSb h c (outV h c 0) 0) ⟨⟨rfl, rfl, rfl⟩, ⟨rfl, rfl, rfl, rfl, rfl, trivial⟩, rfl⟩ ?_)
  refine W_all (fun k => stSb h c (outV h c k) k) h.length (fun _ => True) [5, 6, 9, 68, 69] [9] [] (fun k hk _ K hK => sx_ok (Λ := noLam) gok0 _ 2 _ _ noLam_ok ?_)
  rw [vc_stmtsB]
  refine cond_of (fun hc => ?_) (fun hc => ?_)
  · have hc : k < h.length := by have := of_decide_eq_true hc; omega
    have ei : IntKind.i64.wrap ((k : Int) + 1) = ((k + 1 : Nat) : Int) := w64n (n := k + 1) (by omega)
    have hKK := hK hc trivial
    rw [outV_next] at hKK
    have hol := outV_len h c k
    simp only [ei, Nat.zero_add, Int.toNat_natCast, vw_all]
    generalize outV h c k = o at hKK hol ⊢
    refine ⟨by omega, by omega, hc, fun _ => ⟨by omega, by omega, trivial⟩, fun _ => ⟨by omega, trivial⟩, cond_of (fun hb => ?_) (fun hb => ?_)⟩
    · have hb : (h.getD k false && !c.getD k false) = true := hb
      rw [if_pos hb] at hKK
      exact ⟨Nat.le_refl _, Nat.le_refl _, by rw [List.length_append]; show (_ + 1) * 8 ≤ _; omega, hKK⟩
    · have hb : (h.getD k false && !c.getD k false) = false := hb
      rw [if_neg (by rw [hb]; decide)] at hKK
      exact hKK
  · have hc : ¬ k < h.length := by have := of_decide_eq_false hc; omega
    obtain rfl : k = h.length := by omega
    exact hq
theorem stmts_ok : ∀ args h Q, stmts_t args h Q → FSpec Try.prog 13 args h Q := trH_ok fun ((p, r, _) : Pro × List Bool × Unit) _ Q ⟨⟨hp, hs⟩, h⟩ => by
  refine spec_row 3 tI rfl (spec_body (Λ := lam [(0, sa_l), (2, sb_l)]) gok0 Try.func13 rfl (lokl (l := [(0, lp Try.f13 0), (2, lp Try.f13 1)]) ⟨lam_ok (fun x Q a b => sa_step x.1 x.2 Q a b), lam_ok (fun x Q ⟨a, b⟩ c => sb_step x.1 x.2 Q a b c), trivial⟩) ?_)
  show body Try.prog (gam []) (lam [(0, sa_l), (2, sb_l)]) Try.f13 [.agg (toCV tPro p), .c (.row .bool r)] [] _
  rw [vc_stmts]
  dsimp only at hp hs h
  have es : List.length p.2.2.2.2.2.2.2.2.1 = p.stms.length := rfl
  simp only [es, Int.toNat_natCast]
  have l1 := hasV_len p p.code.length
  have l2 := comV_len p r p.code.length
  refine fun _ => ⟨by omega, Int.le_refl _, by show (1 : Int) * _ ≤ _; omega, fun _ => ⟨by omega, Int.le_refl _, by show (1 : Int) * _ ≤ _; omega, fun _ => ⟨(p, r), ?_, hp, ?_⟩⟩⟩
  · show (_ : SS) = _
    simp only [List.length_replicate]
    rfl
  · refine fun _ => ⟨(hasV p p.code.length, comV p r p.code.length), rfl, ⟨by rw [l1, l2], by rw [l1]; exact hs⟩, outV (hasV p p.code.length) (comV p r p.code.length) (hasV p p.code.length).length, .inr (.inr ⟨3, rfl, rfl⟩), ?_⟩
    rw [l1]
    exact h
/-! ### awake -/
theorem ofA_ok : ∀ args h Q, ofA_t args h Q → FSpec Try.prog 8 args h Q := trH_ok fun ((p, _) : Pro × Unit) _ Q ⟨e, h⟩ => by
  dsimp only at e h
  subst e
  exact of2_ok _ _ _ (show of2_t [.agg (toCV tPro pA)] [] Q from ⟨smallA, h _ rfl⟩)
theorem codeA_ok : ∀ args h Q, codeA_t args h Q → FSpec Try.prog 7 args h Q := trH_ok fun ((p, g, n, _) : Pro × Gra × List Bool × Unit) _ Q ⟨⟨e1, e2, e3⟩, h⟩ => by
  dsimp only at e1 e2 e3 h
  have e3 : n = [] := e3
  subst e1 e2 e3
  refine code_ok _ _ _ (show code_t [.agg (toCV tPro pA), .agg (toCV tGra (ofW pA)), .c (.row .bool [])] [] Q from ⟨.inr ⟨smallA, goodA, ?_⟩, ?_⟩)
  · show GraOk pA (ofW pA)
    unfold ofW
    rw [goodA, if_pos rfl]
    exact of_gra goodA
  · show Q (.p (.c (.row .bool (codeV pA (ofW pA) [])))) []
    rw [codeA]; exact h
theorem stmtsA_ok : ∀ args h Q, stmtsA_t args h Q → FSpec Try.prog 13 args h Q := trH_ok fun ((p, r, _) : Pro × List Bool × Unit) _ Q ⟨⟨e1, e2⟩, h⟩ => by
  dsimp only at e1 e2 h
  subst e1 e2
  refine stmts_ok _ _ _ (show stmts_t [.agg (toCV tPro pA), .c (.row .bool [true, true, false, true])] [] Q from ⟨⟨smallA, by decide⟩, ?_⟩)
  show Q (.p (.c (.row tI (stmtsV pA [true, true, false, true])))) []
  rw [stmtsA]; exact h
theorem awake_ok : ∀ args h Q, awake_t args h Q → FSpec Try.prog 5 args h Q := trH_ok fun (_ : Unit) _ Q h => by
  refine spec_body (Γ := gam [(8, [], ofA_t), (7, [], codeA_t), (13, [], stmtsA_t)]) (gam_ok ⟨ofA_ok, codeA_ok, stmtsA_ok, trivial⟩) Try.func5 rfl noLam_ok ?_
  show body Try.prog (gam [(8, [], ofA_t), (7, [], codeA_t), (13, [], stmtsA_t)]) noLam Try.f5 [] [] _
  rw [vc_awake]
  exact ⟨by decide, by decide, by decide, by decide, by decide, rfl, fun g hg => ⟨⟨rfl, hg, rfl⟩, fun _ => ⟨⟨rfl, rfl⟩, by decide, by decide, by decide, fun _ => ⟨by decide, by decide, trivial⟩, fun _ => ⟨by decide, trivial⟩, fun _ => ⟨by decide, by decide, trivial⟩, fun _ => ⟨by decide, trivial⟩, fun _ => ⟨by decide, by decide, trivial⟩, fun _ => ⟨by decide, trivial⟩, fun _ => ⟨by decide, by decide, trivial⟩, fun _ => ⟨by decide, trivial⟩, h⟩⟩⟩
/-! ### the law -/
theorem bothV_next (a b : List Bool) (n : Nat) : bothV a b (n + 1) = bothV a b n ++ [(decide (n < a.length) && a.getD n false) || (decide (n < b.length) && b.getD n false)] := by
  unfold bothV
  rw [List.range_succ, List.map_append]; rfl
theorem la_step (p : Pro) (a b : List Bool) (Q : Exit → SS → Prop) (ha : a.length ≤ 100) (hb : b.length ≤ 100) (hq : Q (.exit 0) (⟨106, [(7, .p (.c (.row .bool (bothV a b (max a.length b.length))))), (1, .p (.c (.row .bool a))), (3, .p (.c (.ptr 0 0)))], [.cells 29 (toCV tPro p), .gone]⟩ : SS)) :
    W 0 Try.prog (.loop (lp Try.f4 0)) (stLa p a b [] 0) Q := by
  refine W_frzE 7 (W_all (fun k => stLa p a b (bothV a b k) k) (max a.length b.length) (fun _ => True) [1, 2, 3, 7, 8] [1, 3, 7] [] (fun k hk _ K hK => sx_ok (Λ := noLam) gok0 _ 0 _ _ noLam_ok ?_))
  rw [vc_lessA]
  have hbl : (bothV a b k).length = k := by unfold bothV; simp
  have em : mx2 (a.length : Int) (b.length : Int) = ((max a.length b.length : Nat) : Int) := by unfold mx2; split <;> omega
  have d1 : ∀ n : Nat, decide ((k : Int) < (n : Int)) = decide (k < n) := fun n => by
    by_cases h : k < n
    · rw [decide_eq_true h, decide_eq_true (by omega)]
    · rw [decide_eq_false h, decide_eq_false (by omega)]
  simp only [em]
  refine fun _ _ => cond_of (fun hc => ?_) (fun hc => ?_)
  · have hc : k < max a.length b.length := by have := of_decide_eq_true hc; omega
    have ei : IntKind.i64.wrap ((k : Int) + 1) = ((k + 1 : Nat) : Int) := w64n (n := k + 1) (by omega)
    have hKK := hK hc trivial
    rw [bothV_next] at hKK
    simp only [ei, Nat.zero_add, Int.toNat_natCast, vw_all, d1]
    exact fun _ => ⟨fun e => by have := of_decide_eq_true e; exact ⟨by omega, by omega, trivial⟩, fun e => ⟨of_decide_eq_true e, trivial⟩, fun e => by have := of_decide_eq_true e.1; exact ⟨by omega, by omega, trivial⟩, fun e => ⟨of_decide_eq_true e.1, trivial⟩, Nat.le_refl _, Nat.le_refl _, by rw [List.length_append, hbl]; show (k + 1) * 1 ≤ _; omega, hKK⟩
  · have hc : ¬ k < max a.length b.length := by have := of_decide_eq_false hc; omega
    obtain rfl : k = max a.length b.length := by omega
    generalize bothV a b (max a.length b.length) = B at hq ⊢
    refine .inr ⟨.c (.view .bool 1 0 B.length), [0 + B.length ≤ B.length], [1], .c (.row .bool (vw B 0 B.length)), rfl, rfl, ⟨by omega, trivial⟩, rfl, ?_⟩
    rw [vw_all]
    exact hq
theorem gokLb : GOK Try.prog (gam [(15, [], comes_t)]) := gam_ok ⟨comes_ok, trivial⟩
theorem lb_step (p : Pro) (a b : List Bool) (Q : Exit → SS → Prop) (hp : smallP p) (hl : a.length ≤ 1000) (he : b.length = a.length) (hab : ∀ pc, pc < a.length → (b.getD pc false = true → a.getD pc false = true) ∧ (a.getD pc false = true → comesV p 0 (pc : Int) = true)) (hq : Q (.exit 2) (⟨106, [], []⟩ : SS)) :
    W 0 Try.prog (.loop (lp Try.f4 1)) (stLb p a b 0) Q := by
  refine W_all (stLb p a b) a.length (fun _ => True) [3, 10, 11, 12] [] [6] (fun k hk _ K hK => sx_ok (Λ := noLam) gokLb _ 2 _ _ noLam_ok ?_)
  rw [vc_lessB]
  refine fun _ => cond_of (fun hc => ?_) (fun hc => ?_)
  · have hc : k < a.length := by have := of_decide_eq_true hc; omega
    have ei : IntKind.i64.wrap ((k : Int) + 1) = ((k + 1 : Nat) : Int) := w64n (n := k + 1) (by omega)
    have hKK := hK hc trivial
    obtain ⟨h1, h2⟩ := hab k hc
    simp only [ei, Int.toNat_natCast]
    have hno : (b.getD k false && !a.getD k false) = false := by
      cases hb : b.getD k false with
      | false => rfl
      | true => rw [h1 hb]; rfl
    refine ⟨by omega, by omega, by omega, fun _ => ⟨by omega, by omega, trivial⟩, fun _ => ⟨hc, trivial⟩, fun _ => ⟨by omega, by omega, trivial⟩, fun _ => ⟨hc, trivial⟩, cond_of (fun e => ?_) (fun _ => cond_of (fun e => ⟨hp, cond_of (fun e2 => ?_) (fun _ => hKK)⟩) (fun _ => hKK))⟩
    · rw [hno] at e; cases e
    · rw [h2 e] at e2; cases e2
  · exact hq
theorem gokLess : GOK Try.prog (gam [(5, [], awake_t), (6, [], great_t), (8, [], of2_t), (7, [], code_t)]) := gam_ok ⟨awake_ok, great_ok, of2_ok, code_ok, trivial⟩
theorem less_ok : ∀ args h Q, less_t args h Q → FSpec Try.prog 4 args h Q := trH_ok fun ((p, a, b, _) : Pro × List Bool × List Bool × Unit) _ Q h => by
  refine spec_body (Λ := lam [(0, la_l), (2, lb_l)]) gokLess Try.func4 rfl (lokl (l := [(0, lp Try.f4 0), (2, lp Try.f4 1)]) ⟨lam_ok (fun x Q ⟨h1, h2⟩ h3 => la_step x.1 x.2.1 x.2.2 Q h1 h2 h3), lam_ok (fun x Q ⟨h1, h2, h3, h4⟩ h5 => lb_step x.1 x.2.1 x.2.2 Q h1 h2 h3 h4 h5), trivial⟩) ?_
  show body Try.prog (gam [(5, [], awake_t), (6, [], great_t), (8, [], of2_t), (7, [], code_t)]) (lam [(0, la_l), (2, lb_l)]) Try.f4 [.agg (toCV tPro p), .c (.row .bool a), .c (.row .bool b)] [] _
  rw [vc_less]
  refine fun gb hgb => cond_of (fun _ => h) (fun hc => ?_)
  have hc : (gb || decide ((a.length : Int) > 100) || decide ((b.length : Int) > 100)) = false := hc
  simp only [Bool.or_eq_false_iff, decide_eq_false_iff_not] at hc
  obtain ⟨⟨hg0, ha⟩, hb⟩ := hc
  have hsm := hgb hg0
  have hp : smallP p := ⟨by have := hsm.1; omega, hsm.2⟩
  have hcl := hp.1
  have hpre : (ofW p).2.1 = [] ∨ smallP p ∧ goodV p = true ∧ GraOk p (ofW p) := by
    unfold ofW
    cases hg : goodV p with
    | false => rw [if_neg (by decide)]; exact .inl rfl
    | true => rw [if_pos rfl]; exact .inr ⟨hp, rfl, of_gra hg⟩
  have hlen : ∀ c, (codeV p (ofW p) c).length = (ofW p).2.1.length := fun c => by unfold codeV; rw [rch_len]
  have hgl : (ofW p).2.1.length ≤ 1000 := by
    rcases hpre with e | ⟨_, _, e⟩
    · rw [e]; exact Nat.zero_le _
    · rw [e.1]; exact hcl
  refine ⟨(p, a, b), rfl, ⟨by show a.length ≤ 100; omega, by show b.length ≤ 100; omega⟩, hp, hpre, hpre, fun _ _ => cond_of (fun e => ?_) (fun _ => ⟨(p, codeV p (ofW p) a, codeV p (ofW p) (bothV a b (max a.length b.length))), rfl, ⟨hp, by show (codeV p (ofW p) a).length ≤ 1000; rw [hlen]; exact hgl, by show (codeV p (ofW p) (bothV a b (max a.length b.length))).length = (codeV p (ofW p) a).length; rw [hlen, hlen], ?_⟩, h⟩)⟩
  · exfalso
    have e : ((((codeV p (ofW p) a).length : Nat) : Int) != (((codeV p (ofW p) (bothV a b (max a.length b.length))).length : Nat) : Int)) = true := e
    rw [hlen, hlen] at e
    simp at e
  · dsimp only
    cases hg : goodV p with
    | false =>
      have eo : ofW p = ([], [], []) := by unfold ofW; rw [hg, if_neg (by decide)]
      intro pc hpc
      rw [hlen, eo] at hpc
      exact absurd hpc (Nat.not_lt_zero _)
    | true =>
      have eo : ofW p = ofV p := by unfold ofW; rw [hg, if_pos rfl]
      rw [eo]
      exact less_all hp hg
theorem less_law (p : Pro) (a b : List Bool) : FSpec Try.prog 4 [.agg (toCV tPro p), .c (.row .bool a), .c (.row .bool b)] [] (fun r h' => r = .p (.c (.bool true))) := less_ok _ _ _ (show less_t [.agg (toCV tPro p), .c (.row .bool a), .c (.row .bool b)] [] (fun r h' => r = .p (.c (.bool true))) from rfl)
end Go.Proofs.Ytodlfjohaohfbaa.Ch
