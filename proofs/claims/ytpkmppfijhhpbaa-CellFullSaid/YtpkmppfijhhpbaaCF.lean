/- Chapter 15 (cell): the law CellExact over the abstract machine. No condition. -/
import Derived.Test.YtpkmppfijhhpbaaCEV
import Derived.Test.YtpkmppfijhhpbaaSxR
namespace Go.Proofs.Ytpkmppfijhhpbaa.Ch
open Go Go.Proofs Go.Proofs.Ytpkmppfijhhpbaa.Sx
set_option linter.unusedVariables false
set_option linter.unusedSimpArgs false

theorem cond_of {c : Bool} {A B : Prop} (h1 : c = true → A) (h2 : c = false → B) : bif c then A else B := by cases c; exact h2 rfl; exact h1 rfl
theorem splice_take_set {α : Type} (l vs : List α) (o j : Nat) (h : o + vs.length ≤ l.length) (hj : j < vs.length) : (splice l o (vs.take j)).set (o + j) vs[j] = splice l o (vs.take (j + 1)) := by
  unfold splice
  rw [List.take_succ_eq_append_getElem hj]
  have e1 : (l.take o).length = o := by rw [List.length_take]; omega
  have e2 : (vs.take j).length = j := by rw [List.length_take]; omega
  have e3 : (l.take o ++ vs.take j).length = o + j := by rw [List.length_append, e1, e2]
  have e4 : (vs.take j ++ [vs[j]]).length = j + 1 := by rw [List.length_append, e2]; rfl
  rw [e2, e4, List.set_append_right _ _ (by omega), e3, Nat.sub_self]
  have hlt : o + j < l.length := by omega
  rw [show l.drop (o + j) = l[o + j] :: l.drop (o + (j + 1)) from List.drop_eq_getElem_cons hlt]
  simp only [List.set_cons_zero, List.append_assoc, List.singleton_append]
theorem in_loop (d : InD) (hh : has d.us.length d.x.2.1 d.x.2.2.2.length = true) (hu : d.us.length ≤ 65536) (Q : Exit → SS → Prop)
    (hq : Q (.exit 3) (stI d.acts d.xs d.x d.i (splice d.us (d.x.2.1 - 1).toNat d.x.2.2.2) d.x.2.2.2.length)) :
    ∀ j : Nat, j ≤ d.x.2.2.2.length → W 0 Try.prog (.loop (lpIn (lp Try.f3 0) 0)) (stI d.acts d.xs d.x d.i (splice d.us (d.x.2.1 - 1).toNat (d.x.2.2.2.take j)) j) Q := by
  have h3 := hh
  simp only [has, Bool.and_eq_true, decide_eq_true_eq] at h3
  obtain ⟨⟨c1, c2⟩, c3⟩ := h3
  refine W_loopC (fun j : Nat => stI d.acts d.xs d.x d.i (splice d.us (d.x.2.1 - 1).toNat (d.x.2.2.2.take j)) j) (fun j => j ≤ d.x.2.2.2.length) (fun j => d.x.2.2.2.length - j) [0, 3, 5, 6, 15, 16] [0, 3, 5, 6, 15, 16] ?_
  intro j hj
  refine sx_ok (Λ := noLam) gokLaw _ 3 _ _ noLam_ok ?_
  rw [vc_in]
  intro hm
  have hlen : (splice d.us (d.x.2.1 - 1).toNat (d.x.2.2.2.take j)).length = d.us.length := splice_len (by rw [List.length_take]; omega)
  have e1 : IntKind.i64.wrap (d.x.2.1 - 1) = d.x.2.1 - 1 := w64 (by omega) (by omega)
  have e2 : IntKind.i64.wrap (d.x.2.1 - 1 + (j : Int)) = d.x.2.1 - 1 + (j : Int) := w64 (by omega) (by omega)
  have e3 : IntKind.i64.wrap ((j : Int) + 1) = ((j + 1 : Nat) : Int) := by rw [w64 (x := (j : Int) + 1) (by omega) (by omega)]; rfl
  rw [e1, e2, e3]
  refine cond_of (fun hc => ?_) (fun hc => ?_)
  · have hc : j < d.x.2.2.2.length := by simpa using hc
    refine ⟨by omega, by omega, by omega, by omega, by rw [hlen]; omega, by rw [hlen]; omega, ?_⟩
    refine ⟨j + 1, ?_, by omega, by omega⟩
    have e4 : 0 + (d.x.2.1 - 1 + (j : Int)).toNat = (d.x.2.1 - 1).toNat + j := by omega
    have e5 := splice_take_set d.us d.x.2.2.2 (d.x.2.1 - 1).toNat j (by omega) hc
    have hlen' : (splice d.us (d.x.2.1 - 1).toNat (d.x.2.2.2.take (j + 1))).length = d.us.length := splice_len (by rw [List.length_take]; omega)
    rw [e4, Int.toNat_natCast, getD_at hc]
    unfold stI
    rw [hlen, hlen', ← e5]
  · have hc : ¬ (j < d.x.2.2.2.length) := by simpa using hc
    have : j = d.x.2.2.2.length := by omega
    subst this
    rw [List.take_length] at *
    exact hq


theorem exact_step (acts : List A) (xs : List V) (i : Nat) (K : SS → Prop) (Q : Exit → SS → Prop) (hw : ∀ x ∈ acts, i64 x.2.1 ∧ i64 x.2.2.1) (hi : i ≤ acts.length) (hx : xs.length ≤ 20 * i)
    (hK : ∀ ys, i < acts.length → ys.length ≤ 20 * (i + 1) → K (stE acts ys (i + 1))) (h1 : Q (.exit 0) (stNo 173)) (h2 : Q .ret (stRes 173 2 (.c (.bool true)))) :
    sx Try.prog (gam gLaw) (lam [(3, in_l)]) (lp Try.f3 0) 0 (stE acts xs i) (thenQ (cq 0 [0, 3, 4, 5] K) (cQ 0 [2] Q)) := by
  rw [vc_exact_l]
  intro hm
  refine cond_of (fun hc => ?_) (fun hc => h1)
  simp only [Bool.and_eq_true, decide_eq_true_eq] at hc
  have hc1 : i < acts.length := by omega
  have hc2 : i < 60 := by omega
  refine ⟨by omega, by omega, by omega, ?_⟩
  have hmem : acts.getD ((i : Int)).toNat tA.dft ∈ acts := by rw [Int.toNat_natCast, getD_at hc1]; exact List.getElem_mem hc1
  have hw' := hw _ hmem
  have ei : IntKind.i64.wrap ((i : Int) + 1) = ((i + 1 : Nat) : Int) := by rw [w64 (x := (i : Int) + 1) (by omega) (by omega)]; rfl
  rw [ei]
  generalize (acts.getD ((i : Int)).toNat tA.dft) = x at *
  obtain ⟨kind, at_, n, L⟩ := x
  dsimp only at *
  refine cond_of (fun hg => h2) (fun hg => ?_)
  simp only [Bool.or_eq_false_iff, decide_eq_false_iff_not] at hg
  have hL : L.length ≤ 20 := by omega
  have hxm : xs.length ≤ 65536 := by omega
  have hap : (xs ++ L).length ≤ 65536 := by rw [List.length_append]; omega
  -- what is asked behind each call
  have fin : ∀ ys : List V, ys.length ≤ 20 * (i + 1) → has ys.length 1 (ys.length : Int) = true := by intro ys hy; simp [has]
  simp only [vw_all, Int.toNat_natCast, Nat.zero_add]
  refine cond_of (fun h1 => ?_) (fun h1 => cond_of (fun h2' => ?_) (fun h2' => ?_))
  · refine ⟨⟨trivial, hxm⟩, fun hf => by rw [List.length_append] at hap; omega, fun hl => ⟨Nat.le_refl _, hxm, fun hf => by omega, fun _ => ?_⟩⟩
    simp only [bne_self_eq_false, Bool.or_self, cond_false]
    intro _
    refine ⟨⟨trivial, hap, by constructor <;> omega, by constructor <;> omega⟩, fun hf => (by rw [fin (xs ++ L) (by rw [List.length_append]; omega)] at hf; cases hf), fun _ => ⟨trivial, fun _ => ?_⟩⟩
    refine ⟨Nat.le_refl _, Nat.le_refl _, ?_⟩
    simp only [decide_true, Bool.not_true, Bool.or_false, cond_false]
    exact hK (xs ++ L) hc1 (by rw [List.length_append]; omega)
  · obtain ⟨ha, hn⟩ := hw'
    refine ⟨⟨trivial, hxm, ha, hn⟩, fun hf => ⟨Nat.le_refl _, ⟨hxm, ha, hn⟩, ?_⟩, fun ht => ⟨Nat.le_refl _, ⟨hxm, ha, hn⟩, ?_⟩⟩
    · rw [hf]
      intro _
      exact hK xs hc1 (by omega)
    · rw [ht]
      have h3 := ht
      simp only [has, Bool.and_eq_true, decide_eq_true_eq] at h3
      obtain ⟨⟨c1, c2⟩, c3⟩ := h3
      have e1 : IntKind.i64.wrap (at_ - 1) = at_ - 1 := w64 (by omega) (by omega)
      have e2 : IntKind.i64.wrap (at_ - 1 + n) = at_ - 1 + n := w64 (by omega) (by omega)
      rw [e1, e2]
      have e3 : hiN xs.length (some (at_ - 1 + n)) - loN (some (at_ - 1)) = n.toNat := by simp only [hiN, loN]; omega
      rw [e3]
      refine ⟨fun _ => ⟨by omega, by omega, by omega, trivial⟩, Nat.le_refl _, by simp only [loN]; omega, ?_⟩
      rw [show loN (some (at_ - 1)) = (at_ - 1).toNat from rfl]
      simp only [decide_true, Bool.not_true, Bool.or_false, cond_false]
      intro _
      refine ⟨⟨trivial, hxm, by constructor <;> omega, by constructor <;> omega⟩, fun hf => (by rw [fin xs (by omega)] at hf; cases hf), fun _ => ⟨trivial, fun _ => ?_⟩⟩
      simp only [bne_self_eq_false, Bool.or_self, cond_false]
      exact ⟨Nat.le_refl _, Nat.le_refl _, hK xs hc1 (by omega)⟩
  · obtain ⟨ha, hn⟩ := hw'
    have hLi : i64 (L.length : Int) := by constructor <;> omega
    refine ⟨⟨trivial, hxm, ha⟩, fun hf _ => ⟨Nat.le_refl _, ⟨hxm, ha, hLi⟩, ?_⟩, fun ht _ => ⟨Nat.le_refl _, ⟨hxm, ha, hLi⟩, ?_⟩⟩
    · rw [hf]
      exact hK xs hc1 (by omega)
    · rw [ht]
      have h3 := ht
      simp only [has, Bool.and_eq_true, decide_eq_true_eq] at h3
      obtain ⟨⟨c1, c2⟩, c3⟩ := h3
      have e0 : vw ([] : List V) 0 0 ++ xs = xs := by simp [vw]
      rw [e0]
      have hsl : (splice xs (at_ - 1).toNat L).length = xs.length := splice_len (by omega)
      refine ⟨Nat.le_refl _, by omega, by omega, ⟨acts, splice xs (at_ - 1).toNat L, (kind, at_, n, L), i, xs⟩, ?_, ⟨ht, hxm, ha⟩, ?_⟩
      · rfl
      · dsimp only
        rw [hsl]
        intro _
        refine ⟨⟨trivial, hxm, by constructor <;> omega, by constructor <;> omega⟩, fun hf => (by rw [fin xs (by omega)] at hf; cases hf), fun _ => ⟨trivial, fun _ => ?_⟩⟩
        simp only [bne_self_eq_false, Bool.or_self, cond_false]
        refine ⟨Nat.le_refl _, Nat.le_refl _, ?_⟩
        have hall : vw (splice xs (at_ - 1).toNat L) 0 xs.length = splice xs (at_ - 1).toNat L := by rw [← hsl]; exact vw_all _
        simp only [Int.toNat_natCast, hall, hsl, decide_true, Bool.not_true, Bool.or_false, cond_false]
        have := hK (splice xs (at_ - 1).toNat L) hc1 (by rw [hsl]; omega)
        unfold stE at this
        rw [hsl] at this
        rw [ei]
        exact this
theorem exact_loop (acts : List A) (hw : ∀ x ∈ acts, i64 x.2.1 ∧ i64 x.2.2.1) (Q : Exit → SS → Prop) (h1 : Q (.exit 0) (stNo 173)) (h2 : Q .ret (stRes 173 2 (.c (.bool true)))) :
    W 0 Try.prog (.loop (lp Try.f3 0)) (stE acts [] 0) Q := by
  refine W_loopC (fun y : List V × Nat => stE acts y.1 y.2) (fun y => y.2 ≤ acts.length ∧ y.1.length ≤ 20 * y.2) (fun y => acts.length - y.2) [0, 3, 4, 5] [2] ?_ ([], 0) ⟨by omega, by simp⟩
  rintro ⟨xs, i⟩ ⟨hi, hx⟩
  refine sx_ok (Λ := lam [(3, in_l)]) gokLaw _ 0 _ _ (lokl ⟨lam_ok ?_, trivial⟩) ?_
  · rintro d Q ⟨a1, a2, a3⟩ a4
    have := in_loop d a1 a2 Q a4 0 (by omega)
    rw [List.take_zero, show splice d.us (d.x.2.1 - 1).toNat ([] : List V) = d.us by simp [splice]] at this
    exact this
  · exact exact_step acts xs i _ _ hw hi hx (fun ys hc hy => ⟨(ys, i + 1), rfl, ⟨by dsimp only; omega, hy⟩, by dsimp only at *; omega⟩) h1 h2
theorem wf_i64 {n : Int} (h : (Lit.int .i64 n).wf = true) : i64 n := by
  simpa [Lit.wf, IntKind.min, IntKind.max, IntKind.signed, IntKind.bits] using h
theorem exact_ok (acts : List A) (hw : wfT (.row tA) acts) : FSpec Try.prog 3 [.c (.row tA acts)] [] fun r h' => r = .p (.c (.bool true)) := by
  have hw' : ∀ x ∈ acts, i64 x.2.1 ∧ i64 x.2.2.1 := by
    intro x hx
    obtain ⟨_, h2, h3, _⟩ := hw.2 x hx
    exact ⟨wf_i64 h2, wf_i64 h3⟩
  refine spec_body (Λ := lam [(0, exact_l)]) gokLaw Try.func3 rfl ?_ ?_
  · show LOK 0 Try.prog (lam [(0, exact_l)]) [(0, lp Try.f3 0)]
    exact lokl ⟨lam_ok fun x Q hl ⟨a1, a2⟩ => exact_loop x hl Q a1 a2, trivial⟩
  · show body Try.prog (gam gLaw) (lam [(0, exact_l)]) Try.f3 [.c (.row tA acts)] [] _
    rw [vc_exact]
    exact ⟨acts, rfl, hw', rfl, rfl⟩
end Go.Proofs.Ytpkmppfijhhpbaa.Ch
