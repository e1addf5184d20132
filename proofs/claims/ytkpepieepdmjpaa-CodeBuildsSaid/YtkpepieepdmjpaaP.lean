/- Chapter 11 (code): places in the place of labels; the builder's end: proved. No condition. -/
import Derived.Test.YtkpepieepdmjpaaO
namespace Go.Proofs.Ytkpepieepdmjpaa.Ch
open Go Go.Proofs Go.Proofs.Ytkpepieepdmjpaa.Sx
set_option linter.unusedVariables false
set_option linter.unusedSimpArgs false

theorem gokPl : GOK Try.prog (gam [(35, [], place_t)]) := gam_ok ⟨place_ok, trivial⟩
def doneA (f : Arm → Arm) (l : List Arm) (i : Nat) : List Arm := (l.take i).map f ++ l.drop i
theorem done_len (f : Arm → Arm) (l : List Arm) (i : Nat) (h : i ≤ l.length) : (doneA f l i).length = l.length := by unfold doneA; simp; omega
theorem done_at (f : Arm → Arm) (l : List Arm) (i : Nat) (h : i < l.length) (d : Arm) : (doneA f l i).getD i d = l.getD i d := by
  unfold doneA
  rw [List.getD_eq_getElem?_getD, List.getD_eq_getElem?_getD, List.getElem?_append_right (by simp; omega)]
  simp only [List.length_map, List.length_take, List.getElem?_drop]
  rw [show i + (i - min i l.length) = i by omega]
theorem done_set (f : Arm → Arm) (l : List Arm) (i : Nat) (h : i < l.length) (d : Arm) : (doneA f l i).set i (f (l.getD i d)) = doneA f l (i + 1) := by
  unfold doneA
  have hl : ((l.take i).map f).length = i := by simp; omega
  rw [List.set_append_right _ _ (by omega), hl, Nat.sub_self, List.drop_eq_getElem_cons h, List.set_cons_zero, List.take_succ_eq_append_getElem h, List.map_append, List.append_assoc, getD_at h]
  rfl
theorem rs_step (b : Bld) (x : Ins) (av : List Arm) (Q : Exit → SS → Prop) (hb : smallB b) (hl : av.length ≤ 20)
    (hq : Q (.exit 1) (⟨59, [(3, .p (.c (.ptr 1 0))), (4, .p (.c (.ptr 3 0))), (6, .p (tb ((rArmsV b.2.1 b.1.length av).all fun a => decide (0 ≤ a.to))))], [dC b, .cells 38 (armCV x 2 av.length), .row 51 tArm (rArmsV b.2.1 b.1.length av), .cells 38 zCV]⟩ : SS)) : W 1 Try.prog (.loop (lp Try.f27 0)) (stRs b x av true 0) Q := by
  have h0 : stRs b x av true 0 = stRs b x (doneA (fun a => a.setTo (placeV b.2.1 b.1.length a.to)) av 0) (((av.take 0).map (fun a => a.setTo (placeV b.2.1 b.1.length a.to))).all fun a => decide (0 ≤ a.to)) 0 := rfl
  rw [h0]
  generalize hf : (fun a : Arm => a.setTo (placeV b.2.1 b.1.length a.to)) = f
  have hfv : ∀ a : Arm, f a = a.setTo (placeV b.2.1 b.1.length a.to) := fun a => by rw [← hf]
  refine W_all (fun i => stRs b x (doneA f av i) (((av.take i).map f).all fun a => decide (0 ≤ a.to)) i) av.length (fun _ => True) [0, 3, 4, 6, 29, 30] [3, 4, 6] [] (fun i hi ho K hK => ?_)
  refine sx_ok (Λ := noLam) gokPl _ 1 _ _ noLam_ok ?_
  rw [vc_resL, done_len f av i hi]
  refine cond_of (fun hc => ?_) (fun hc => ?_)
  · have hc : i < av.length := by have := of_decide_eq_true hc; omega
    have ei : IntKind.i64.wrap ((i : Int) + 1) = ((i + 1 : Nat) : Int) := w64n (n := i + 1) (by omega)
    rw [ei, Int.toNat_natCast, Nat.zero_add]
    have e0 := done_at f av i hc tArm.dft
    have e1 := done_set f av i hc tArm.dft
    have eA : ∀ a : Arm, ((a.1, a.2.1, a.2.2.1, a.2.2.2.1, a.2.2.2.2.1, placeV (dB ((b.1, b.2.1, b.2.2.1, b.2.2.2.1, b.2.2.2.2, ()), ())).2.1 (dB ((b.1, b.2.1, b.2.2.1, b.2.2.2.1, b.2.2.2.2, ()), ())).1.length a.2.2.2.2.2) : Arm) = f a := fun a => by rw [hfv]; rfl
    have e0 : List.getD (doneA f av i) i tArm.dft = av.getD i tArm.dft := e0
    rw [eA, e0, e1]
    have hd : (doneA f av (i + 1)).getD i tArm.dft = f (av.getD i tArm.dft) := by
      rw [← e1, List.getD_eq_getElem?_getD, List.getElem?_set_self (by rw [done_len f av i hi]; exact hc)]; rfl
    have hd : List.getD (doneA f av (i + 1)) i tArm.dft = f (av.getD i tArm.dft) := hd
    rw [hd]
    have hln := done_len f av (i + 1) hc
    have eok : ((((av.take i).map f).all fun a => decide (0 ≤ a.to)) && decide ((f (av.getD i tArm.dft)).to ≥ 0)) = (((av.take (i + 1)).map f).all fun a => decide (0 ≤ a.to)) := by
      rw [List.take_succ_eq_append_getElem hc, List.map_append, List.all_append, getD_at hc]
      simp
    have hK := hK hc trivial
    simp only [stRs, armCV] at hK
    rw [hln, ← eok] at hK
    exact ⟨by omega, by omega, hc, hb, by omega, by omega, hc, fun _ => ⟨by omega, by omega, trivial⟩, fun _ => ⟨by rw [hln]; exact hc, trivial⟩, hK⟩
  · have hc : ¬ i < av.length := by have := of_decide_eq_false hc; omega
    obtain rfl : i = av.length := by omega
    have e1 : doneA f av av.length = rArmsV b.2.1 b.1.length av := by unfold doneA rArmsV; rw [List.take_length, List.drop_length, List.append_nil, hf]
    have e2 : (av.take av.length).map f = rArmsV b.2.1 b.1.length av := by unfold rArmsV; rw [List.take_length, hf]
    rw [e1, e2]
    exact hq
theorem cloneAO_ok : ∀ args h Q, cloneAO_t args h Q → FSpec Try.prog 26 args h Q := trH_ok fun ((l, _) : List Arm × Unit) _ Q ⟨hl, h⟩ => by
  refine spec_ownR 51 tArm 0 (spec_body gok0 Try.func26 rfl noLam_ok ?_)
  show body Try.prog (gam []) noLam Try.f26 [.c (.row tArm l)] [] _
  rw [vc_cloneA]
  dsimp only at hl h
  intro b hb
  cases b with
  | true =>
    have := hb rfl
    subst this
    exact .inr h
  | false => exact ⟨Nat.le_refl _, by omega, .inl h⟩
theorem res_ok : ∀ args h Q, res_t args h Q → FSpec Try.prog 27 args h Q := trH_ok fun ((_, x, _) : Unit × Ins × Unit) (((c, l, r, s, st, _), _) : (List Ins × List Int × Int × List Stm × Int × Unit) × Unit) Q ⟨⟨hb, hs⟩, h1, h2⟩ => by
  dsimp only at h1 h2 hs
  refine spec_frzL 1 [] (spec_body (Γ := gam [(35, [], place_t), (26, [], cloneAO_t)]) (Λ := lam [(1, rs_l)]) (gam_ok ⟨place_ok, cloneAO_ok, trivial⟩) Try.func27 rfl (lokl (l := [(1, lp Try.f27 0)]) ⟨lam_ok (fun z Q ⟨a1, a2⟩ hq => rs_step z.1 z.2.1 z.2.2 Q a1 a2 hq), trivial⟩) ?_)
  show body Try.prog (gam [(35, [], place_t), (26, [], cloneAO_t)]) (lam [(1, rs_l)]) Try.f27 [.c (.ptr 0 0), .agg (toCV tIns x)] [dC (c, l, r, s, st)] _
  rw [vc_res]
  have key : ∀ v, x.1 ≠ 37 → resV l c.length x = v → Q (.tup [.agg (toCV tIns v.1), tb v.2]) [dC (c, l, r, s, st)] := fun v hk e => by rw [← e]; exact h1 hk
  have key2 : ∀ v, x.1 = 37 → resV l c.length x = v → Q (.tup [.agg (toCV tIns v.1), tb v.2]) [dC (c, l, r, s, st), .gone] := fun v hk e => by rw [← e]; exact h2 hk
  clear h1 h2
  refine cond_of (fun hk => ?_) (fun g1 => cond_of (fun hk => ?_) (fun g2 => cond_of (fun hk => ?_) (fun g3 => ?_)))
  · have hk : x.1 = 19 := eq_of_beq hk
    exact ⟨hb, .inl (key (x.setTo (placeV l c.length x.to), decide (0 ≤ placeV l c.length x.to)) (by rw [hk]; decide) (by unfold resV Ins.op; rw [if_pos (.inl hk)]))⟩
  · have hk : x.1 = 20 := eq_of_beq hk
    exact ⟨hb, .inl (key (x.setTo (placeV l c.length x.to), decide (0 ≤ placeV l c.length x.to)) (by rw [hk]; decide) (by unfold resV Ins.op; rw [if_pos (.inr hk)]))⟩
  · have hk : x.1 = 37 := eq_of_beq hk
    have hv : vw (rArmsV l c.length x.arms) 0 x.arms.length = rArmsV l c.length x.arms := by
      have e : (rArmsV l c.length x.arms).length = x.arms.length := by unfold rArmsV; rw [List.length_map]
      have := vw_all (rArmsV l c.length x.arms)
      rw [e] at this
      exact this
    refine ⟨Nat.le_trans hs.2 (by decide), fun _ => ⟨((c, l, r, s, st), x, x.arms), rfl, ⟨hb, hs.2⟩, .inr ⟨rfl, _, [0 + x.arms.length ≤ (rArmsV l c.length x.arms).length], [1], [.agg (toCV tIns (x.setA (vw (rArmsV l c.length x.arms) 0 x.arms.length))), tb ((rArmsV l c.length x.arms).all fun a => decide (0 ≤ a.to))], rfl, rfl, ⟨?_, trivial⟩, fun _ h => h, ?_⟩⟩⟩
    · unfold rArmsV; rw [List.length_map]; omega
    · show Q (.tup [.agg (toCV tIns (x.setA (vw (rArmsV l c.length x.arms) 0 x.arms.length))), tb ((rArmsV l c.length x.arms).all fun a => decide (0 ≤ a.to))]) [dC (c, l, r, s, st), .gone]
      rw [hv]
      exact key2 (x.setA (rArmsV l c.length x.arms), (rArmsV l c.length x.arms).all fun a => decide (0 ≤ a.to)) hk (by unfold resV Ins.op; rw [if_neg (by rw [hk]; decide), if_pos hk])
  · have n1 : x.1 ≠ 19 := fun e => by rw [e] at g1; exact absurd g1 (by decide)
    have n2 : x.1 ≠ 20 := fun e => by rw [e] at g2; exact absurd g2 (by decide)
    have n3 : x.1 ≠ 37 := fun e => by rw [e] at g3; exact absurd g3 (by decide)
    exact .inl (key (x, true) n3 (by unfold resV Ins.op; rw [if_neg (by rintro (h | h); exact n1 h; exact n2 h), if_neg n3]))
theorem gokRs : GOK Try.prog (gam [(27, [], res_t)]) := gam_ok ⟨res_ok, trivial⟩
theorem fi_step (b : Bld) (Q : Exit → SS → Prop) (hb : smallB b) (hs : ∀ x ∈ b.1, smallI x)
    (h1 : resA b.2.1 b.1.length b.1 = true → Q (.exit 0) (⟨76, [(0, .p (.c (.ptr 0 0))), (7, .p (.c (.view tIns 4 0 (resL b.2.1 b.1.length b.1).length)))], [dC b, .gone, .gone, .gone, .row 38 tIns (resL b.2.1 b.1.length b.1)]⟩ : SS))
    (h2 : resA b.2.1 b.1.length b.1 = false → Q .ret (⟨76, [(2, .p (.c .nils)), (3, .p (ti 0)), (4, .p (.c .nils)), (5, .p (ti 15))], gH b⟩ : SS)) : W 4 Try.prog (.loop (lp Try.f18 0)) (stFi0 b) Q := by
  refine W_ownF 38 tIns 7 ?_
  show W 4 Try.prog (.loop (lp Try.f18 0)) (stFi b ((b.1.take 0).map fun x => (resV b.2.1 b.1.length x).1) 0) Q
  have hb1 := hb.1
  refine W_all (fun i => stFi b ((b.1.take i).map fun x => (resV b.2.1 b.1.length x).1) i) b.1.length (fun i => (resV b.2.1 b.1.length (b.1.getD i tIns.dft)).2 = true) [0, 7, 34, 35, 36] [0, 7] [2, 3, 4, 5] (fun i hi ho K hK => ?_)
  refine sx_ok (Λ := noLam) gokRs _ 0 _ _ noLam_ok ?_
  rw [vc_finL]
  simp only [vw_all]
  refine cond_of (fun hc => ?_) (fun hc => ?_)
  · have hc : i < b.1.length := by have := of_decide_eq_true hc; omega
    have ei : IntKind.i64.wrap ((i : Int) + 1) = ((i + 1 : Nat) : Int) := w64n (n := i + 1) (by omega)
    rw [ei, Int.toNat_natCast]
    have hm : b.1.getD i tIns.dft ∈ b.1 := by rw [getD_at hc]; exact List.getElem_mem _
    have hsm := hs _ hm
    have hK := hK hc
    have he : (b.1.take (i + 1)).map (fun x => (resV b.2.1 b.1.length x).1) = (b.1.take i).map (fun x => (resV b.2.1 b.1.length x).1) ++ [(resV b.2.1 b.1.length (b.1.getD i tIns.dft)).1] := by
      rw [List.take_succ_eq_append_getElem hc, List.map_append, getD_at hc]; rfl
    rw [he] at hK
    have hout : ((b.1.take i).map (fun x => (resV b.2.1 b.1.length x).1)).length = i := by simp; omega
    have bad : (resV b.2.1 b.1.length (b.1.getD i tIns.dft)).2 = false → resA b.2.1 b.1.length b.1 = false := fun e => by
      unfold resA
      rw [List.all_eq_false]
      exact ⟨_, hm, by rw [e]; decide⟩
    have lenO : ∀ y : Ins, (((b.1.take i).map fun x => (resV b.2.1 b.1.length x).1) ++ [y]).length * 224 ≤ 140737488355328 := fun y => by
      rw [List.length_append, hout]; show (i + 1) * 224 ≤ _; omega
    refine ⟨by omega, by omega, hc, ⟨hb, hsm⟩, fun _ => cond_of (fun e => ?_) (fun e => ⟨Nat.le_refl _, by omega, lenO _, ?_⟩), fun _ => cond_of (fun e => ?_) (fun e => ⟨Nat.le_refl _, by omega, lenO _, ?_⟩)⟩
    all_goals first
      | (have e : (!(resV b.2.1 b.1.length (b.1.getD i tIns.dft)).2) = true := e
         rw [Bool.not_eq_true'] at e
         exact h2 (bad e))
      | (have e : (!(resV b.2.1 b.1.length (b.1.getD i tIns.dft)).2) = false := e
         rw [Bool.not_eq_false'] at e
         exact hK e)
  · have hc : ¬ i < b.1.length := by have := of_decide_eq_false hc; omega
    obtain rfl : i = b.1.length := by omega
    rw [List.take_length]
    refine h1 ?_
    unfold resA
    rw [List.all_eq_true]
    intro y hy
    obtain ⟨j, hj, rfl⟩ := List.getElem_of_mem hy
    have := ho j (by omega)
    rw [getD_at hj] at this
    exact this
theorem fin_ok : ∀ args h Q, fin_t args h Q → FSpec Try.prog 18 args h Q := trH_ok fun (_ : Unit × Unit) (((n1, n2, r, n3, st, _), c, l, s, _) : (Nat × Nat × Int × Nat × Int × Unit) × List Ins × List Int × List Stm × Unit) Q ⟨⟨⟨e1, e2, e3⟩, hb, hs⟩, h1, h2⟩ => by
  dsimp only [okB, yB] at e1 e2 e3 hb hs h1 h2
  subst e1 e2 e3
  have hc1 : c.length ≤ 1000 := hb.1
  have hs1 : s.length ≤ 1000 := hb.2.2
  refine spec_ofW (c := codeOf Try.f18) Try.func18 rfl rfl ?_
  show W 4 Try.prog (codeOf Try.f18) { nt := 76, fr := [(0, .p (.c (.ptr 0 0)))], hp := bH (c, l, r, s, st) } _
  refine W_frzB (sx_ok (Λ := lam [(0, fi_l)]) (Γ := gam [(19, [], ends_t), (28, [], cloneS_t)]) (gam_ok ⟨ends_ok, cloneS_ok, trivial⟩) _ 0 _ _ (lokl (l := [(0, lp Try.f18 0)]) ⟨lam_ok (fun b Q ⟨a1, a2⟩ ⟨b1, b2⟩ => fi_step b Q a1 a2 b1 b2), trivial⟩) ?_)
  show sx Try.prog (gam [(19, [], ends_t), (28, [], cloneS_t)]) (lam [(0, fi_l)]) (codeOf Try.f18) 0 { nt := 76, fr := [(0, .p (.c (.ptr 0 0)))], hp := gH (c, l, r, s, st) } (retQ Try.prog Try.f18.results.toList 4 Q)
  rw [vc_fin]
  intro _
  have key : ∀ k : Int, finE (c, l, r, s, st) = k → k ≠ 0 → Q (.tup [.c .nils, ti 0, .c .nils, ti k]) (gH (c, l, r, s, st)) := fun k e hk => by rw [← e]; exact h2 (by rw [e]; exact hk)
  have hw : (c.length : Int) ≠ 0 → IntKind.i64.wrap ((c.length : Int) - 1) = ((c.length - 1 : Nat) : Int) := fun h => by rw [show (c.length : Int) - 1 = ((c.length - 1 : Nat) : Int) by omega]; exact w64n (by omega)
  have hne : ((c.length : Int) == 0) = false → (c.length : Int) ≠ 0 := fun e h => by rw [h] at e; exact absurd e (by decide)
  refine ⟨fun e => ?_, fun e => ?_, cond_of (fun e => ?_) (fun e => ?_)⟩
  · have := hw (hne e)
    have h0 := hne e
    show 0 ≤ IntKind.i64.wrap ((c.length : Int) - 1) ∧ IntKind.i64.wrap ((c.length : Int) - 1) < (c.length : Int) ∧ True
    rw [this]
    exact ⟨by omega, by omega, trivial⟩
  · have := hw (hne e)
    have h0 := hne e
    show (IntKind.i64.wrap ((c.length : Int) - 1)).toNat < c.length ∧ True
    rw [this]
    exact ⟨by omega, trivial⟩
  · have e : (c.length : Int) = 0 := eq_of_beq e
    exact key 15 (by unfold finE; rw [if_pos (.inl (by show c.length = 0; omega))]) (by decide)
  · have h0 := hne e
    have elast : List.getD c (IntKind.i64.wrap ((c.length : Int) - 1)).toNat tIns.dft = c.getD (c.length - 1) tIns.dft := by rw [hw h0]; rfl
    show bif false || !endsV (List.getD c (IntKind.i64.wrap ((c.length : Int) - 1)).toNat tIns.dft) then _ else _
    rw [elast]
    refine cond_of (fun e2 => ?_) (fun e2 _ => ⟨(c, l, r, s, st), rfl, ⟨hb, hs⟩, fun e3 => ?_, fun e3 => ?_⟩)
    · have e2 : endsV (c.getD (c.length - 1) tIns.dft) = false := by simpa using e2
      exact key 15 (by unfold finE; rw [if_pos (.inr (.inl e2))]) (by decide)
    · have e2 : endsV (c.getD (c.length - 1) tIns.dft) = true := by simpa using e2
      have hn : ¬ (c.length = 0 ∨ endsV (c.getD (c.length - 1) tIns.dft) = false ∨ resA l c.length c = false) := by
        rintro (h | h | h)
        · omega
        · rw [e2] at h; cases h
        · have e3 : resA l c.length c = true := e3
          rw [e3] at h; cases h
      refine cond_of (fun e4 => ?_) (fun e4 => ⟨Nat.le_trans hs1 (by decide), h1 ?_⟩)
      · have e4 : (decide (65536 < r) || decide (65536 < (c.length : Int))) = true := e4
        rw [Bool.or_eq_true, decide_eq_true_eq, decide_eq_true_eq] at e4
        exact key 3 (by unfold finE; rw [if_neg hn, if_pos e4]) (by decide)
      · have e4 : (decide (65536 < r) || decide (65536 < (c.length : Int))) = false := e4
        rw [Bool.or_eq_false_iff, decide_eq_false_iff_not, decide_eq_false_iff_not] at e4
        unfold finE
        rw [if_neg hn, if_neg]
        rintro (h | h)
        · exact e4.1 h
        · exact e4.2 h
    · exact key 15 (by unfold finE; rw [if_pos (.inr (.inr e3))]) (by decide)
end Go.Proofs.Ytkpepieepdmjpaa.Ch
