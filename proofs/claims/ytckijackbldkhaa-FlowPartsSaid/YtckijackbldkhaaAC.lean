/- Chapter 19 (flow): the law FlowParts: great, awake and the law. No condition. -/
import Derived.Test.YtckijackbldkhaaAB
namespace Go.Proofs.Ytckijackbldkhaa.Ch
open Go Go.Proofs Go.Proofs.Ytckijackbldkhaa.Sx
set_option linter.unusedVariables false
set_option linter.unusedSimpArgs false

theorem gq_step (p : Pro) (x : Ins) (i : Nat) (Q : Exit → SS → Prop) (ha : x.arms.length ≤ 20) (h1 : Q (.exit 2) (stGp p i)) (h2 : Q .ret (⟨68, [(2, .p (tb true))], []⟩ : SS)) : W 0 Try.prog (.loop (lpIn (lp Try.f6 0) 0 0)) (stGq p x i 0) Q := by
  refine W_all (stGq p x i) x.arms.length (fun _ => True) [1, 3, 4, 5] [1, 3] [2] (fun j hj _ K hK => sx_ok (Λ := noLam) gok0 _ 2 _ _ noLam_ok ?_)
  rw [vc_greatI]
  have el : List.length x.2.2.2.2.2.2.2.2.2.2.2.1 = x.arms.length := rfl
  simp only [el]
  refine fun _ => cond_of (fun hc => ?_) (fun hc => h1)
  have hc : j < x.arms.length := by have := of_decide_eq_true hc; omega
  have ei : IntKind.i64.wrap ((j : Int) + 1) = ((j + 1 : Nat) : Int) := w64n (n := j + 1) (by omega)
  rw [ei]
  exact ⟨by omega, by omega, hc, cond_of (fun _ => h2) (fun _ => hK hc trivial)⟩
theorem gp_step (p : Pro) (Q : Exit → SS → Prop) (hl : p.code.length ≤ 60) (h1 : (∀ i ∈ p.code, smallI i) → Q (.exit 0) (⟨68, [], []⟩ : SS)) (h2 : Q .ret (⟨68, [(2, .p (tb true))], []⟩ : SS)) : W 0 Try.prog (.loop (lp Try.f6 0)) (stGp p 0) Q := by
  refine W_all (stGp p) p.code.length (fun i => smallI (p.code.getD i tIns.dft)) [1, 3] [] [2] (fun i hi ho K hK =>
    sx_ok (Λ := lam [(2, gq_l)]) gok0 _ 0 _ _ (lokl (l := [(2, lpIn (lp Try.f6 0) 0 0)]) ⟨lam_ok (fun x Q h1 ⟨h2, h3⟩ => gq_step x.1 x.2.1 x.2.2 Q h1 h2 h3), trivial⟩) ?_)
  rw [vc_greatL]
  have el : List.length p.2.2.2.2.2.2.1 = p.code.length := rfl
  simp only [el, Int.toNat_natCast]
  refine fun _ => cond_of (fun hc => ?_) (fun hc => ?_)
  · have hc : i < p.code.length := by have := of_decide_eq_true hc; omega
    have ei : IntKind.i64.wrap ((i : Int) + 1) = ((i + 1 : Nat) : Int) := w64n (n := i + 1) (by omega)
    refine ⟨by omega, by omega, hc, fun _ => cond_of (fun _ => h2) (fun hb => ?_)⟩
    simp only [Bool.or_eq_false_iff, decide_eq_false_iff_not] at hb
    have hs : smallI (p.code.getD i tIns.dft) := by
      have h3 := hb.1.1.1
      have h4 := hb.1.1.2
      refine ⟨?_, ?_⟩
      · have : ¬ (((p.code.getD i tIns.dft).args.length : Nat) : Int) > 20 := h3
        omega
      · have : ¬ (((p.code.getD i tIns.dft).arms.length : Nat) : Int) > 20 := h4
        omega
    refine ⟨(p, p.code.getD i tIns.dft, i), rfl, hs.2, ?_, h2⟩
    dsimp only
    rw [ei]
    exact hK hc hs
  · have hc : ¬ i < p.code.length := by have := of_decide_eq_false hc; omega
    refine h1 fun x hx => ?_
    obtain ⟨j, hj, rfl⟩ := mem_getD (d := tIns.dft) hx
    exact ho j (by omega)
theorem great_ok : ∀ args h Q, great_t args h Q → FSpec Try.prog 6 args h Q := trH_ok fun ((p, _) : Pro × Unit) _ Q h => by
  refine spec_body (Λ := lam [(0, gp_l)]) gok0 Try.func6 rfl (lokl (l := [(0, lp Try.f6 0)]) ⟨lam_ok (fun p Q a ⟨b, c⟩ => gp_step p Q a b c), trivial⟩) ?_
  show body Try.prog (gam []) (lam [(0, gp_l)]) Try.f6 [.agg (toCV tPro p)] [] _
  rw [vc_great]
  dsimp only at h
  refine fun _ => cond_of (fun _ => h true (fun e => by cases e)) (fun hb => ⟨p, rfl, ?_, fun hs => h false fun _ => ⟨?_, hs⟩, h true (fun e => by cases e)⟩)
  all_goals
    simp only [Bool.or_eq_false_iff, decide_eq_false_iff_not] at hb
    have h3 : ¬ (((p.code.length : Nat) : Int) > 60) := hb.1.1
    omega

/-! ### the func of awake -/
theorem smallA : smallP pA := ⟨by decide, fun i hi => by
  simp only [pA, Pro.code, List.mem_cons, List.not_mem_nil, or_false] at hi
  rcases hi with rfl | rfl | rfl | rfl <;> exact ⟨by decide, by decide⟩⟩
theorem nA0 : nextV (pA.code.getD 0 tIns.dft) 0 = [1] := by
  have e1 : inL [23, 26] (pA.code.getD 0 tIns.dft).op = false := by decide
  have e2 : nextR (pA.code.getD 0 tIns.dft) 0 = [1] := by decide
  unfold nextV; rw [e1, e2, if_neg (by decide)]; unfold sortV; simp [List.mergeSort]; rfl
theorem nA1 : nextV (pA.code.getD 1 tIns.dft) 1 = [2, 3] := by
  have e1 : inL [23, 26] (pA.code.getD 1 tIns.dft).op = false := by decide
  have e2 : nextR (pA.code.getD 1 tIns.dft) 1 = [3, 2] := by decide
  have e3 : sortV [3, 2] = [2, 3] := by unfold sortV; simp [List.mergeSort, List.MergeSort.Internal.splitInTwo, List.merge]
  unfold nextV; rw [e1, e2, e3, if_neg (by decide)]; rfl
theorem nA2 : nextV (pA.code.getD 2 tIns.dft) 2 = [0] := by
  have e1 : inL [23, 26] (pA.code.getD 2 tIns.dft).op = false := by decide
  have e2 : nextR (pA.code.getD 2 tIns.dft) 2 = [0] := by decide
  unfold nextV; rw [e1, e2, if_neg (by decide)]; unfold sortV; simp [List.mergeSort]; rfl
theorem nA3 : nextV (pA.code.getD 3 tIns.dft) 3 = [] := by
  have e1 : inL [23, 26] (pA.code.getD 3 tIns.dft).op = true := by decide
  unfold nextV; rw [e1, if_pos rfl]
theorem nextA : ∀ k, k < 4 → ∀ x, x ∈ nextV (pA.code.getD k tIns.dft) k ↔ (k = 0 ∧ x = 1) ∨ (k = 1 ∧ (x = 3 ∨ x = 2)) ∨ (k = 2 ∧ x = 0) := by
  intro k hk x
  match k, hk with
  | 0, _ => rw [show ((0 : Nat) : Int) = 0 from rfl, nA0]; simp
  | 1, _ => rw [show ((1 : Nat) : Int) = 1 from rfl, nA1]; simp; omega
  | 2, _ => rw [show ((2 : Nat) : Int) = 2 from rfl, nA2]; simp
  | 3, _ => rw [show ((3 : Nat) : Int) = 3 from rfl, nA3]; simp
theorem goodA : goodV pA = true := by
  have h1 : (!(decide (pA.2.2.1 < 0) || (decide ((pA.vars.length : Int) < pA.2.2.1) || (!cntV [pA.regs] || (decide (pA.caps < 0) || (pA.code.isEmpty || !endsV (lastI pA))))))) = true := by decide
  unfold goodV
  rw [h1, Bool.true_and, List.all_eq_true]
  intro k hk
  have hk : k < 4 := List.mem_range.1 hk
  unfold isGoodV
  have hn : (nextV (pA.code.getD k tIns.dft) k).any (badW (encP pA)) = false := by
    rw [List.any_eq_false]
    intro x hx
    have hx := (nextA k hk x).1 hx
    have : x = 0 ∨ x = 1 ∨ x = 2 ∨ x = 3 := by omega
    rcases this with rfl | rfl | rfl | rfl <;> decide
  rw [hn]
  match k, hk with
  | 0, _ => decide
  | 1, _ => decide
  | 2, _ => decide
  | 3, _ => decide

theorem begA : begV pA = [true, false, true, true, true] := by
  have s0 : ∀ O, begStep pA O 0 = O := fun O => by unfold begStep; rw [if_neg (by decide)]
  have s1 : ∀ O, begStep pA O 1 = [2, 3].foldl setT (O.set 2 true) := fun O => by unfold begStep; rw [if_pos (by decide), show ((1 : Nat) : Int) = 1 from rfl, nA1]
  have s2 : ∀ O, begStep pA O 2 = [0].foldl setT (O.set 3 true) := fun O => by unfold begStep; rw [if_pos (by decide), show ((2 : Nat) : Int) = 2 from rfl, nA2]
  have s3 : ∀ O, begStep pA O 3 = [].foldl setT (O.set 4 true) := fun O => by unfold begStep; rw [if_pos (by decide), show ((3 : Nat) : Int) = 3 from rfl, nA3]
  unfold begV
  rw [show List.range pA.code.length = [0, 1, 2, 3] from rfl]
  simp only [List.foldl_cons, List.foldl_nil, s0, s1, s2, s3]
  rfl
def b1A : List Blk × List Int := ([(0, 2, [], [], ()), (2, 3, [], [], ()), (3, 4, [], [], ())], [0, 0, 1, 2])
theorem b1A_eq : b1V pA pA.code.length = b1A := by
  unfold b1V
  rw [begA]
  rfl
def b2A : List Blk := [(0, 2, [1, 2], [1], ()), (2, 3, [0], [0], ()), (3, 4, [], [0], ())]
theorem b2A_eq : b2V pA 3 = b2A := by
  unfold b2V
  rw [b1A_eq]
  have s0 : b2Step pA b1A.2 b1A.1 0 = [(0, 2, [1, 2], [], ()), (2, 3, [], [0], ()), (3, 4, [], [0], ())] := by
    unfold b2Step
    rw [show ((b1A.1.getD 0 tBlk.dft).2.1 - 1 : Int) = 1 from rfl, show (1 : Int).toNat = 1 from rfl, nA1]
    rfl
  have s1 : b2Step pA b1A.2 [(0, 2, [1, 2], [], ()), (2, 3, [], [0], ()), (3, 4, [], [0], ())] 1 = b2A := by
    unfold b2Step
    rw [show ((List.getD (α := Blk) [(0, 2, [1, 2], [], ()), (2, 3, [], [0], ()), (3, 4, [], [0], ())] 1 tBlk.dft).2.1 - 1 : Int) = 2 from rfl, show (2 : Int).toNat = 2 from rfl, nA2]
    rfl
  have s2 : b2Step pA b1A.2 b2A 2 = b2A := by
    unfold b2Step
    rw [show ((b2A.getD 2 tBlk.dft).2.1 - 1 : Int) = 3 from rfl, show (3 : Int).toNat = 3 from rfl, nA3]
    rfl
  rw [show List.range 3 = [0, 1, 2] from rfl]
  simp only [List.foldl_cons, List.foldl_nil]
  rw [s0, s1, s2]
theorem ordA : orderV b2A = [0, 2, 1] := by rfl
theorem ofA : ofV pA = (b2A, [0, 0, 1, 2], [0, 2, 1]) := by
  unfold ofV
  rw [b1A_eq, show b1A.1.length = 3 from rfl, b2A_eq, ordA]; rfl
theorem comesA1 : comesV pA 0 3 = true := by
  classical
  unfold comesV
  rw [if_pos ⟨by decide, by decide, by decide, by decide, goodA⟩]
  have h1 : Rch (nextC pA) 0 1 := .step .base (k := 1) (by show (1 : Int) ∈ nextV (pA.code.getD 0 tIns.dft) 0; rw [nA0]; decide)
  have h3 : Rch (nextC pA) 0 3 := .step h1 (k := 3) (by show (3 : Int) ∈ nextV (pA.code.getD 1 tIns.dft) 1; rw [nA1]; decide)
  exact decide_eq_true h3
theorem comesA2 : comesV pA 3 0 = false := by
  classical
  unfold comesV
  rw [if_pos ⟨by decide, by decide, by decide, by decide, goodA⟩]
  have h : ∀ pc, Rch (nextC pA) 3 pc → pc = 3 := by
    intro pc hp
    induction hp with
    | base => rfl
    | step _ hk ih =>
      subst ih
      have hk : _ ∈ nextV (pA.code.getD 3 tIns.dft) 3 := hk
      rw [nA3] at hk
      exact absurd hk (by simp)
  exact decide_eq_false fun hp => absurd (h _ hp) (by decide)
theorem ofA_ok : ∀ args h Q, ofA_t args h Q → FSpec Try.prog 8 args h Q := trH_ok fun ((p, _) : Pro × Unit) _ Q ⟨e, h⟩ => by
  dsimp only at e h
  subst e
  refine ofG_ok _ _ _ ?_
  show ofG_t [.agg (toCV tPro pA)] [] Q
  exact ⟨⟨smallA, goodA⟩, fun g hg => h g hg⟩
theorem comesA_ok : ∀ args h Q, comesA_t args h Q → FSpec Try.prog 10 args h Q := trH_ok fun ((p, a, b, _) : Pro × Int × Int × Unit) _ Q ⟨e, h⟩ => by
  dsimp only at e h
  subst e
  refine comes_ok _ _ _ ?_
  show comes_t [.agg (toCV tPro pA), ti a, ti b] [] Q
  exact ⟨smallA, h _ rfl⟩
theorem awake_ok : ∀ args h Q, awake_t args h Q → FSpec Try.prog 5 args h Q := trH_ok fun (_ : Unit) _ Q h => by
  refine spec_body (Γ := gam [(8, [], ofA_t), (10, [], comesA_t)]) (gam_ok ⟨ofA_ok, comesA_ok, trivial⟩) Try.func5 rfl noLam_ok ?_
  show body Try.prog (gam [(8, [], ofA_t), (10, [], comesA_t)]) noLam Try.f5 [] [] _
  rw [vc_awake]
  refine ⟨Nat.le_refl _, rfl, fun g hg => ?_⟩
  rw [ofA] at hg
  subst hg
  refine fun _ => ?_
  show (0 : Int) ≤ 0 ∧ _
  refine ⟨by decide, by decide, by decide, fun _ => ⟨by decide, by decide, trivial⟩, fun _ => ⟨by decide, trivial⟩, fun _ => ⟨by decide, by decide, trivial⟩, fun _ => ⟨by decide, trivial⟩, fun _ => ⟨by decide, by decide, trivial⟩, fun _ => ⟨by decide, trivial⟩, ?_⟩
  show isA _ ∧ _
  refine ⟨rfl, fun b hb => ?_⟩
  rw [comesA1] at hb
  subst hb
  show isA _ ∧ _
  refine ⟨rfl, fun b hb => ?_⟩
  rw [comesA2] at hb
  subst hb
  exact h
/-! ### the law -/
theorem gokLaw : GOK Try.prog (gam [(5, [], awake_t), (6, [], great_t), (7, [], good_t), (8, [], ofG_t)]) := gam_ok ⟨awake_ok, great_ok, good_ok, ofG_ok, trivial⟩
theorem partsL_ok : ∀ args h Q, partsL_t args h Q → FSpec Try.prog 3 args h Q := trH_ok fun ((p, _) : Pro × Unit) _ Q h => by
  refine spec_body (Λ := lam [(0, lA), (8, lE), (12, lG)]) gokLaw Try.func3 rfl (lokl (l := [(0, lp Try.f3 0), (8, lp Try.f3 1), (12, lp Try.f3 2)]) ⟨lam_ok (fun x Q h1 h2 => A_step x.1 x.2 h1 Q h2), lam_ok (fun x Q h1 h2 => E_step x.1 x.2 h1 Q h2), lam_ok (fun x Q h1 h2 => G_step x.1 x.2 h1 Q h2), trivial⟩) ?_
  show body Try.prog (gam [(5, [], awake_t), (6, [], great_t), (7, [], good_t), (8, [], ofG_t)]) (lam [(0, lA), (8, lE), (12, lG)]) Try.f3 [.agg (toCV tPro p)] [] _
  rw [vc_law]
  refine fun gb hgb => cond_of (fun _ => h) (fun hc => ?_)
  have hc : gb = false := hc
  have hsm := hgb hc
  have hp : smallP p := ⟨by have := hsm.1; omega, hsm.2⟩
  refine ⟨hp, cond_of (fun _ => h) (fun hg => ⟨⟨hp, ?_⟩, fun g hgv => ?_⟩)⟩
  · simpa using hg
  have hg : goodV p = true := by simpa using hg
  have hG : HG p g := ⟨hp, hg, hgv, hsm.1⟩
  have F := fg_of hG
  have O := og_of hG
  have hOp := O.pos
  have hn := F.pos.2
  have ho : List.getD g.2.2 0 tI.dft = (0 : Int) := O.o0
  refine ⟨(p, g), rfl, hG, fun _ => ⟨fun _ => ⟨Int.le_refl _, by show (0 : Int) < ((List.length g.2.2 : Nat) : Int); omega, trivial⟩, fun _ => ⟨hOp, trivial⟩, cond_of (fun e => ?_) (fun _ => ?_)⟩⟩
  · exfalso
    simp only [Bool.or_eq_true, bne_iff_ne, beq_iff_eq] at e
    rcases e with (e | e) | e
    · exact e rfl
    · have e : ((List.length g.2.2 : Nat) : Int) = 0 := e
      omega
    · exact e ho
  · refine fun _ => ⟨by omega, Int.le_refl _, by show ((1 : Nat) : Int) * ((List.length g.1 : Nat) : Int) ≤ _; omega, (p, g), ?_, hG, (p, g), rfl, hG, h⟩
    dsimp only
    rw [Int.toNat_natCast, List.length_replicate]
    rfl
theorem partsL_law (p : Pro) : FSpec Try.prog 3 [.agg (toCV tPro p)] [] (fun r h' => r = .p (.c (.bool true))) := partsL_ok _ _ _ (show partsL_t [.agg (toCV tPro p)] [] (fun r h' => r = .p (.c (.bool true))) from rfl)
end Go.Proofs.Ytckijackbldkhaa.Ch
