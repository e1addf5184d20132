/- Chapter 22 (reach): where a func's code may go on stays within it; begins. No condition. -/
import Derived.Test.YtckijackbldkhaaMV
namespace Go.Proofs.Ytckijackbldkhaa.Ch
open Go Go.Proofs Go.Proofs.Ytckijackbldkhaa.Sx
set_option linter.unusedVariables false
set_option linter.unusedSimpArgs false

theorem getD_mem' {α : Type} {l : List α} {i : Nat} {d : α} (h : i < l.length) : l.getD i d ∈ l := by rw [getD_at h]; exact List.getElem_mem _
theorem sml_at {p : Pro} (h : smallP p) {k : Nat} (hk : k < p.code.length) : smallI (p.code.getD k tIns.dft) := h.2 _ (getD_mem' hk)
theorem next_inR {p : Pro} (h : goodV p = true) {k : Nat} (hk : k < p.code.length) : inR p.code.length (nextV (p.code.getD k tIns.dft) k) := by
  unfold goodV at h
  rw [Bool.and_eq_true] at h
  have h1 := List.all_eq_true.1 h.2 k (List.mem_range.2 hk)
  unfold isGoodV at h1
  simp only [Bool.and_eq_true, Bool.not_eq_true', List.any_eq_false] at h1
  intro c hc
  have h2 := h1.2.2.2 c hc
  unfold badW at h2
  simp only [Bool.not_eq_true, Bool.or_eq_false_iff, decide_eq_false_iff_not] at h2
  refine ⟨by omega, ?_⟩
  have : c < ((encP p).2.2.2.2.2.2.1.length : Int) := by omega
  exact this
theorem next_len (i : Ins) (pc : Int) (h : smallI i) : (nextV i pc).length ≤ 21 := by
  unfold nextV
  split
  · simp
  · have h1 := comp_len (sortV (nextR i pc))
    have h2 := sort_len (nextR i pc)
    have h3 : (nextR i pc).length ≤ 21 := by
      unfold nextR
      split
      · simp
      · split
        · simp
        · split
          · rw [List.length_map]; exact Nat.le_trans h.2 (by decide)
          · simp
    omega
theorem good_pos {p : Pro} (h : goodV p = true) : 0 < p.code.length := by
  unfold goodV at h
  simp only [Bool.and_eq_true, Bool.not_eq_true', Bool.or_eq_false_iff] at h
  have := h.1.2.2.2.2.1
  cases hc : p.code with
  | nil => rw [hc] at this; cases this
  | cons a b => simp
theorem setT_len : ∀ (l : List Int) (o : List Bool), (l.foldl setT o).length = o.length
  | [], o => rfl
  | k :: l, o => by rw [List.foldl_cons, setT_len l]; unfold setT; rw [List.length_set]
theorem take_fold {α β : Type} {f : β → α → β} {l : List α} {b : β} {j : Nat} {d : α} (h : j < l.length) : (l.take (j + 1)).foldl f b = f ((l.take j).foldl f b) (l.getD j d) := by
  rw [List.take_succ_eq_append_getElem h, List.foldl_append, getD_at h]; rfl
theorem range_fold {β : Type} {f : β → Nat → β} {b : β} {j : Nat} : (List.range (j + 1)).foldl f b = f ((List.range j).foldl f b) j := by
  rw [List.range_succ, List.foldl_append]; rfl
theorem parts_ok : ∀ args h Q, parts_t args h Q → FSpec Try.prog 32 args h Q := trH_ok fun ((x, _) : Ins × Unit) _ Q h => by
  refine spec_body (Γ := gam [(16, [], ends_t)]) (gam_ok ⟨ends_ok, trivial⟩) Try.func32 rfl noLam_ok ?_
  show body Try.prog (gam [(16, [], ends_t)]) noLam Try.f32 [.agg (toCV tIns x)] [] _
  rw [vc_parts]
  dsimp only at h
  unfold partsV at h
  cases he : endsV x with
  | true => rw [he] at h; exact h
  | false => rw [he] at h; exact h
theorem bi_step (c : List Ins) (out : List Bool) (i : Nat) (l : List Int) (Q : Exit → SS → Prop) (hl : inR out.length l) (hm : l.length ≤ 1000000) (hq : Q (.exit 2) (stBe2 c (l.foldl setT out) i)) :
    W 0 Try.prog (.loop (lpIn (lp Try.f18 0) 0 0)) (stBi c out i l 0) Q := by
  refine W_all (fun j => stBi c ((l.take j).foldl setT out) i l j) l.length (fun _ => True) [3, 16, 17, 18, 32, 33, 34] [3, 16, 17, 18] [] (fun j hj _ K hK => sx_ok (Λ := noLam) gok0 _ 2 _ _ noLam_ok ?_)
  rw [vc_beginsI]
  have hlen := setT_len (l.take j) out
  refine cond_of (fun hc => ?_) (fun hc => ?_)
  · have hc : j < l.length := by have := of_decide_eq_true hc; omega
    have h := hl (l.getD j 0) (getD_mem' hc)
    have ei : IntKind.i64.wrap ((j : Int) + 1) = ((j + 1 : Nat) : Int) := w64n (n := j + 1) (by omega)
    have hk := hK hc trivial
    rw [take_fold (d := 0) hc] at hk
    generalize (l.take j).foldl setT out = O at hk hlen ⊢
    unfold stBi setT at hk
    rw [List.length_set] at hk
    rw [ei, Nat.zero_add]
    exact ⟨by omega, by omega, hc, h.1, by rw [hlen]; exact h.2, by rw [hlen]; show (l.getD j 0).toNat < _; omega, hk⟩
  · have hc : ¬ j < l.length := by have := of_decide_eq_false hc; omega
    obtain rfl : j = l.length := by omega
    rw [List.take_length]
    exact hq
theorem begStep_len (p : Pro) (o : List Bool) (k : Nat) : (begStep p o k).length = o.length := by
  unfold begStep
  split
  · rw [setT_len, List.length_set]
  · rfl
theorem begs_len (p : Pro) : ∀ (k : Nat) (o : List Bool), ((List.range k).foldl (begStep p) o).length = o.length
  | 0, o => rfl
  | k + 1, o => by rw [range_fold, begStep_len, begs_len p k]
theorem beg_len (p : Pro) : (begV p).length = p.code.length + 1 := by unfold begV; rw [begs_len]; simp
theorem gokBe : GOK Try.prog (gam [(32, [], parts_t), (9, [], next_t)]) := gam_ok ⟨parts_ok, next_ok, trivial⟩
theorem be_step (p : Pro) (Q : Exit → SS → Prop) (hp : smallP p) (hg : goodV p = true) (hq : Q (.exit 0) (⟨44, [(3, .p (.c (.view .bool 0 0 (begV p).length)))], [.row 4 .bool (begV p)]⟩ : SS)) :
    W 0 Try.prog (.loop (lp Try.f18 0)) (stBe p.code ((List.replicate (p.code.length + 1) false).set 0 true) 0) Q := by
  have hcl := hp.1
  refine W_all (fun k => stBe p.code ((List.range k).foldl (begStep p) ((List.replicate (p.code.length + 1) false).set 0 true)) k) p.code.length (fun _ => True) [3, 16, 17, 18] [3] [] (fun k hk _ K hK =>
    sx_ok (Λ := lam [(2, bi_l)]) gokBe _ 0 _ _ (lokl (l := [(2, lpIn (lp Try.f18 0) 0 0)]) ⟨lam_ok (fun x Q ⟨h1, h2⟩ h3 => bi_step x.1 x.2.1 x.2.2.1 x.2.2.2 Q h1 h2 h3), trivial⟩) ?_)
  rw [vc_beginsL]
  have hlen := begs_len p k ((List.replicate (p.code.length + 1) false).set 0 true)
  have hl0 : ((List.replicate (p.code.length + 1) false).set 0 true).length = p.code.length + 1 := by simp
  rw [hl0] at hlen
  refine cond_of (fun hc => ?_) (fun hc => ?_)
  · have hc : k < p.code.length := by have := of_decide_eq_true hc; omega
    have ei : IntKind.i64.wrap ((k : Int) + 1) = ((k + 1 : Nat) : Int) := w64n (n := k + 1) (by omega)
    have hkk := hK hc trivial
    rw [range_fold] at hkk
    generalize hO : (List.range k).foldl (begStep p) ((List.replicate (p.code.length + 1) false).set 0 true) = O at hkk hlen ⊢
    unfold begStep at hkk
    rw [ei]
    refine ⟨by omega, by omega, hc, cond_of (fun hb => ?_) (fun hb => ?_)⟩
    · have hb : partsV (p.code.getD k tIns.dft) = false := by simpa using hb
      rw [hb, if_neg (by decide)] at hkk
      exact hkk
    · have hb : partsV (p.code.getD k tIns.dft) = true := by simpa using hb
      rw [hb, if_pos rfl] at hkk
      unfold stBe at hkk
      rw [setT_len, List.length_set] at hkk
      refine ⟨by omega, by omega, by rw [Nat.zero_add]; show k + 1 < _; omega, sml_at hp hc, fun _ => ⟨(p.code, O.set (k + 1) true, k, nextV (p.code.getD k tIns.dft) k), ?_, ⟨?_, ?_⟩, ?_⟩⟩
      · show (_ : SS) = _
        rw [Nat.zero_add, List.length_set]
        rfl
      · show inR (O.set (k + 1) true).length _
        rw [List.length_set, hlen]
        intro c hc'
        have := next_inR hg hc c hc'
        omega
      · exact Nat.le_trans (next_len _ _ (sml_at hp hc)) (by decide)
      · show K (_ : SS)
        rw [setT_len, List.length_set, ei]
        exact hkk
  · have hc : ¬ k < p.code.length := by have := of_decide_eq_false hc; omega
    obtain rfl : k = p.code.length := by omega
    exact hq
theorem begins_ok : ∀ args h Q, begins_t args h Q → FSpec Try.prog 18 args h Q := trH_ok fun ((p, _) : Pro × Unit) _ Q ⟨⟨hp, hg⟩, h⟩ => by
  dsimp only at hp hg h
  have hcl : p.2.2.2.2.2.2.1.length ≤ 1000 := hp.1
  refine spec_row 4 .bool rfl (spec_body (Λ := lam [(0, be_l)]) gok0 Try.func18 rfl (lokl (l := [(0, lp Try.f18 0)]) ⟨lam_ok (fun p Q ⟨h1, h2⟩ h3 => be_step p Q h1 h2 h3), trivial⟩) ?_)
  show body Try.prog (gam []) (lam [(0, be_l)]) Try.f18 [.agg (toCV tPro p)] [] _
  rw [vc_begins]
  have e1 : IntKind.i64.wrap ((p.2.2.2.2.2.2.1.length : Int) + 1) = ((p.2.2.2.2.2.2.1.length + 1 : Nat) : Int) := w64n (n := p.2.2.2.2.2.2.1.length + 1) (by omega)
  rw [e1]
  refine fun _ => ⟨by omega, Int.le_refl _, by omega, by decide, by show (0 : Int) < ((p.2.2.2.2.2.2.1.length + 1 : Nat) : Int); omega, by rw [List.length_replicate]; show 0 < p.2.2.2.2.2.2.1.length + 1; omega, fun _ => ⟨p, ?_, ⟨hp, hg⟩, begV p, .inr (.inr ⟨4, rfl, rfl⟩), h⟩⟩
  show (_ : SS) = _
  have e2 : ((List.replicate (p.code.length + 1) false).set 0 true).length = p.code.length + 1 := by simp
  rw [e2]
  rfl
end Go.Proofs.Ytckijackbldkhaa.Ch
