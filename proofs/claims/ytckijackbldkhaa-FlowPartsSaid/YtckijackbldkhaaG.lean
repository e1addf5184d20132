/- Chapter 11 (code): where it goes on, numbers, whether a func's code can be: proved. No condition. -/
import Derived.Test.YtckijackbldkhaaFV
import Derived.Test.YtckijackbldkhaaFBV
namespace Go.Proofs.Ytckijackbldkhaa.Ch
open Go Go.Proofs Go.Proofs.Ytckijackbldkhaa.Sx
set_option linter.unusedVariables false
set_option linter.unusedSimpArgs false

theorem spec_rowF {P : Program} {f : FuncId} {args : List PV} {Q : SV → List HB → Prop} (e : TypeId) (t : Ty) (ht : isFixB t = false) (hs : FSpec P f args [] fun r h' => ∃ xs : List t.T, ((r = .p (.c .nils) ∧ xs = [] ∧ h' = []) ∨ ∃ (e : TypeId) (ys : List t.T) (n : Nat), r = .p (.c (.view (.fix t) 0 0 n)) ∧ h' = [.row e (.fix t) ys] ∧ n ≤ ys.length ∧ vw ys 0 n = xs) ∧ Q (.p (.c (.row t xs))) []) : FSpec P f args [] Q := by
  refine spec_drop (spec_frzD 0 [] (spec_ownR e t 0 (spec_conv (hs.mono fun r h' ⟨xs, hx, hq⟩ => ?_))))
  have fr : ∀ (e2 : TypeId) (ys : List t.T) (n : Nat), n ≤ ys.length → vw ys 0 n = xs → (noCells [HB.row e2 t ys] [0] = true ∧ ∃ p ob bs' p', SV.p (.c (.view t 0 0 n)) = .p p ∧ brP ⟨0, [], [HB.row e2 t ys]⟩ p = some (ob, bs', p') ∧ allP ob ∧ (∀ x, x ∈ bs' → x ∈ [0]) ∧ norefS (.p (renP (keepN [0]) p')) = true ∧ Q (.p (renP (keepN [0]) p')) []) := fun e2 ys n hn hv => by
    have hc : noCells [HB.row e2 t ys] [0] = true := by
      cases t <;> first | rfl | cases ht
    refine ⟨hc, .c (.view t 0 0 n), ?_⟩
    have hb : ∃ ob, brP ⟨0, [], [HB.row e2 t ys]⟩ (.c (.view t 0 0 n)) = some (ob, [0], .c (.row t xs)) ∧ allP ob := by
      refine ⟨[0 + n ≤ ys.length], ?_, ⟨by omega, trivial⟩⟩
      simp only [brP, brC, nth, dif_pos, hv]
    obtain ⟨ob, h1, h2⟩ := hb
    exact ⟨ob, [0], .c (.row t xs), rfl, h1, h2, fun x hx => hx, rfl, hq⟩
  rcases hx with ⟨rfl, rfl, rfl⟩ | ⟨e2, ys, n, rfl, rfl, hn, hv⟩
  · exact ⟨_, _, fun _ _ _ h => h, rfl, fun k it h => ⟨it, h, fun _ _ _ h => h⟩, .inr (.inr (fr e [] 0 (Nat.le_refl _) rfl))⟩
  · refine ⟨.p (.c (.view t 0 0 n)), [.row e2 t ys], fun _ _ _ h => h, rfl, fun k it hk => ?_, .inl (.inr (fr e2 ys n hn hv))⟩
    cases k with
    | zero => simp only [List.getElem?_cons_zero, Option.some.injEq] at hk; subst hk; exact ⟨_, rfl, fun π ρ w h => h⟩
    | succ k => simp at hk
theorem inPl_all {xs ys : List Int} {n : Nat} (h : n = xs.length) : inPl xs 0 n ys = ys := by unfold inPl; simp [h]
theorem vw_at {xs : List Int} {n : Nat} (h : n = xs.length) : vw xs 0 n = xs := by rw [h]; exact vw_all xs
theorem nx_step (l : List Arm) (Q : Exit → SS → Prop) (hl : l.length ≤ 20) (hq : Q (.exit 1) (⟨47, [(5, .p (.c (.view tI 0 0 (l.map Arm.to).length)))], [.row 3 tI (l.map Arm.to)]⟩ : SS)) : W 0 Try.prog (.loop (lp Try.f9 0)) (stNx1 l) Q := by
  refine W_ownF 3 tI 5 ?_
  show W 0 Try.prog (.loop (lp Try.f9 0)) (stNx tIns.dft 0 l ((l.take 0).map Arm.to) 0) Q
  refine W_all (fun i => stNx tIns.dft 0 l ((l.take i).map Arm.to) i) l.length (fun _ => True) [5, 31, 32, 33] [5] [] (fun i hi ho K hK => ?_)
  refine sx_ok (Λ := noLam) gok0 _ 1 _ _ noLam_ok ?_
  rw [vc_nextL, vw_all]
  refine cond_of (fun hc => ?_) (fun hc => ?_)
  · have hc : i < l.length := by have := of_decide_eq_true hc; omega
    have ei : IntKind.i64.wrap ((i : Int) + 1) = ((i + 1 : Nat) : Int) := w64n (n := i + 1) (by omega)
    have hs : (l.take i).map Arm.to ++ [(l.getD i tArm.dft).to] = (l.take (i + 1)).map Arm.to := by
      rw [List.take_add_one, List.getElem?_eq_getElem hc, List.map_append]
      simp [List.getD_eq_getElem?_getD, List.getElem?_eq_getElem hc]
    have hK := hK hc trivial
    rw [ei]
    rw [← hs] at hK
    refine ⟨by omega, by omega, by omega, Nat.le_refl _, by omega, ?_, hK⟩
    rw [List.length_append, List.length_map, List.length_take]
    show (_ + 1) * 8 ≤ _
    omega
  · have hc : ¬ i < l.length := by have := of_decide_eq_false hc; omega
    obtain rfl : i = l.length := by omega
    rw [List.take_length]
    exact hq
theorem gokNx : GOK Try.prog (gam [(20, [true], sortF_t), (21, [true], compF_t)]) := gam_ok ⟨sortF_ok, compF_ok, trivial⟩
theorem sort_len (l : List Int) : (sortV l).length = l.length := by unfold sortV; rw [List.length_mergeSort]
theorem comp_len (l : List Int) : (compV l).length ≤ l.length := Lib.compact_length_le l
theorem next_ok : ∀ args h Q, next_t args h Q → FSpec Try.prog 9 args h Q := trH_ok fun ((x, pc, _) : Ins × Int × Unit) _ Q ⟨hl, h⟩ => by
  dsimp only at hl h
  have key : ∀ xs, nextV x pc = xs → Q (.p (.c (.row tI xs))) [] := fun xs e => by rw [← e]; exact h
  clear h
  refine spec_rowF 3 tI rfl (spec_ofW (c := codeOf Try.f9) Try.func9 rfl rfl ?_)
  refine sxCut_ok (Γ := gam []) (Λ := lam [(1, nx_l)]) gok0 3 _ 0 _ (cq 0 [5] fun t => W 0 Try.prog (cutC 3 (codeOf Try.f9)) t _) _ (lokl (l := [(1, lp Try.f9 0)]) ⟨lam_ok (fun l Q hl hq => nx_step l Q hl hq), trivial⟩) (fun s hs => W_cqS hs) ?_
  show sx Try.prog (gam []) (lam [(1, nx_l)]) (hdC 0 (codeOf Try.f9)) 0 { nt := 47, fr := argsF 0 [.agg (toCV tIns x), ti pc], hp := [] } (thenQ (fun s1 => sx Try.prog (gam []) (lam [(1, nx_l)]) (hdC 1 (codeOf Try.f9)) 0 s1 (thenQ (fun s2 => sx Try.prog (gam []) (lam [(1, nx_l)]) (hdC 2 (codeOf Try.f9)) 0 s2 (thenQ (cq 0 [5] _) (retQ Try.prog Try.f9.results.toList 0 _))) (retQ Try.prog Try.f9.results.toList 0 _))) (retQ Try.prog Try.f9.results.toList 0 _))
  rw [vc_nextA]
  have rest : ∀ out : List Int, out.length ≤ 20 → nextV x pc = compV (sortV out) → ∀ R, R = (fun (r : SV) (h' : List HB) => ∃ xs : List Int, ((r = .p (.c .nils) ∧ xs = [] ∧ h' = []) ∨ ∃ (e : TypeId) (ys : List Int) (n : Nat), r = .p (.c (.view tF 0 0 n)) ∧ h' = [.row e tF ys] ∧ n ≤ ys.length ∧ vw ys 0 n = xs) ∧ Q (.p (.c (.row tI xs))) []) → W 0 Try.prog (cutC 3 (codeOf Try.f9)) (stNV out) (retQ Try.prog Try.f9.results.toList 0 R) := fun out ho he R hR => by
    refine W_nf (sx_ok (Λ := noLam) gokNx _ 0 _ _ noLam_ok ?_)
    rw [vc_nextB]
    have e1 : inPl out 0 out.length (sortV (vw out 0 out.length)) = sortV out := by rw [vw_at rfl]; exact inPl_all rfl
    rw [e1]
    have e2 : vw (sortV out) 0 out.length = sortV out := vw_at (sort_len out).symm
    rw [e2]
    have h1 := sort_len out
    have h2 := comp_len (sortV out)
    have e3 : ∀ ys, inPl (sortV out) 0 out.length ys = ys := fun ys => inPl_all h1.symm
    rw [e3, hR]
    refine ⟨⟨by omega, by omega⟩, ⟨by omega, by omega⟩, compV (sortV out), .inr ⟨3, _, _, rfl, rfl, ?_, ?_⟩, key _ he⟩
    · rw [List.length_append]; omega
    · show List.take _ (List.drop 0 _) = _
      rw [List.drop_zero, List.take_append_of_le_length (Nat.le_refl _), List.take_length]
  have h0 : ∀ k : Int, x.1 = k → inL [23, 26] k = true → nextV x pc = [] := fun k e h => by unfold nextV Ins.op; rw [e, if_pos h]
  have h1 : ∀ k : Int, x.1 = k → inL [23, 26] k = false → nextV x pc = compV (sortV (nextR x pc)) := fun k e h => by unfold nextV Ins.op; rw [e, if_neg (by rw [h]; decide)]
  refine cond_of (fun hk => ?_) (fun g1 => cond_of (fun hk => ?_) (fun g2 => cond_of (fun hk => ?_) (fun g3 => cond_of (fun hk => ?_) (fun g4 => cond_of (fun hk => ?_) (fun g5 => ?_)))))
  · exact ⟨[], .inl ⟨rfl, rfl, rfl⟩, key _ (h0 _ (eq_of_beq hk) (by decide))⟩
  · exact ⟨[], .inl ⟨rfl, rfl, rfl⟩, key _ (h0 _ (eq_of_beq hk) (by decide))⟩
  · exact rest [x.to] (by simp) (by rw [h1 _ (eq_of_beq hk) (by decide)]; congr 2; unfold nextR Ins.op; rw [eq_of_beq hk]; rfl) _ rfl
  · exact rest [x.to, _] (by simp) (by rw [h1 _ (eq_of_beq hk) (by decide)]; congr 2; unfold nextR Ins.op; rw [eq_of_beq hk]; rfl) _ rfl
  · exact fun _ => ⟨x.arms, rfl, hl.2, rest (x.arms.map Arm.to) (by rw [List.length_map]; exact hl.2) (by rw [h1 _ (eq_of_beq hk) (by decide)]; congr 2; unfold nextR Ins.op; rw [eq_of_beq hk]; rfl) _ rfl⟩
  · refine rest [_] (by simp) ?_ _ rfl
    have n1 : x.1 ≠ 23 := fun e => by rw [e] at g1; exact absurd g1 (by decide)
    have n2 : x.1 ≠ 26 := fun e => by rw [e] at g2; exact absurd g2 (by decide)
    have n3 : x.1 ≠ 19 := fun e => by rw [e] at g3; exact absurd g3 (by decide)
    have n4 : x.1 ≠ 20 := fun e => by rw [e] at g4; exact absurd g4 (by decide)
    have n5 : x.1 ≠ 37 := fun e => by rw [e] at g5; exact absurd g5 (by decide)
    have e : nextR x pc = [IntKind.i64.wrap (pc + 1)] := by unfold nextR Ins.op; rw [if_neg n3, if_neg n4, if_neg n5]
    unfold nextV Ins.op
    rw [e, if_neg (by unfold inL; simp [n1, n2])]
theorem isvar_ok : ∀ args h Q, isvar_t args h Q → FSpec Try.prog 40 args h Q := trH_ok fun ((p, x, _) : Pro × Ins × Unit) _ Q h => by
  refine spec_body gok0 Try.func40 rfl noLam_ok ?_
  show body Try.prog (gam []) noLam Try.f40 [.agg (toCV tPro p), .agg (toCV tIns x)] [] _
  rw [vc_isvar]
  dsimp only at h
  have key : ∀ b, isVarV p x = b → Q (.p (tb b)) [] := fun b e => by rw [← e]; exact h
  clear h
  refine cond_of (fun h1 => ?_) (fun h1 => ?_)
  · refine key _ ?_
    unfold isVarV Ins.n Pro.vars
    rw [if_pos (by simpa using h1)]
  · have hn : ¬ (x.n < 0 ∨ (p.vars.length : Int) ≤ x.n) := by
      intro hh
      have h1 : (decide (x.n < 0) || decide ((p.vars.length : Int) ≤ x.n)) = false := h1
      rw [Bool.or_eq_false_iff] at h1
      rcases hh with hh | hh
      · exact of_decide_eq_false h1.1 hh
      · exact of_decide_eq_false h1.2 hh
    have h3 : 0 ≤ x.n ∧ x.n < (p.vars.length : Int) := by omega
    refine ⟨h3.1, h3.2, by have h5 := h3.1; have h6 := h3.2; show x.n.toNat < p.vars.length; omega, ?_⟩
    have e : isVarV p x = if inL [3, 4] x.op then !heapV p x.n else if inL [6, 8] x.op then heapV p x.n else true := by unfold isVarV; rw [if_neg hn]
    repeat' (first | refine cond_of (fun hk => ?_) (fun _ => ?_))
    all_goals first
      | exact key _ (by rw [e]; unfold Ins.op; rw [eq_of_beq hk]; rfl)
      | skip
    refine key _ ?_
    rw [e]
    unfold inL Ins.op
    simp_all
theorem isarm_ok : ∀ args h Q, isarm_t args h Q → FSpec Try.prog 43 args h Q := trH_ok fun ((a, _) : Arm × Unit) _ Q h => by
  refine spec_body (Γ := gam [(15, [], cnt_t)]) (gam_ok ⟨cnt_ok, trivial⟩) Try.func43 rfl noLam_ok ?_
  show body Try.prog (gam [(15, [], cnt_t)]) noLam Try.f43 [.agg (toCV tArm a)] [] _
  rw [vc_isarm]
  dsimp only at h
  unfold isArmV at h
  rw [← Bool.and_assoc] at h
  refine cond_of (fun h1 => ⟨Nat.le_refl _, by simp, ?_⟩) (fun h1 => ?_)
  · have h1 : (decide (1 ≤ a.1) && decide (a.1 ≤ 3)) = true := h1
    rw [h1] at h; exact h
  · have h1 : (decide (1 ≤ a.1) && decide (a.1 ≤ 3)) = false := h1
    rw [h1] at h; exact h
theorem isarmC_ok : ∀ args h Q, isarmC_t args h Q → FSpec Try.prog 42 args h Q := trH_ok fun ((a, _) : Arm × Unit) _ Q h => by
  refine spec_body (Γ := gam [(43, [], isarm_t)]) (gam_ok ⟨isarm_ok, trivial⟩) Try.func42 rfl noLam_ok ?_
  show body Try.prog (gam [(43, [], isarm_t)]) noLam Try.f42 [.agg (toCV tArm a)] [] _
  rw [vc_isarmC]
  exact h
end Go.Proofs.Ytckijackbldkhaa.Ch
