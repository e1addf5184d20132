/- Chapter 7 (scope): what the map holds, and what the reference's lists hold: plain Lean. No condition. -/
import Derived.Test.YtlfnpdfgdebhkaaSM
namespace Go.Proofs.Ytlfnpdfgdebhkaa.Ch
open Go Go.Proofs Go.Proofs.Ytlfnpdfgdebhkaa.Sx
set_option linter.unusedVariables false
set_option linter.unusedSimpArgs false

/-- The map and the lists say the same. -/
def Inv (ins : List Int) (l : List Ob) (es : Es) : Prop := ins.length = l.length ∧ 1 ≤ l.length ∧ ∀ a nm, lookV es a nm = (firstM (matB ins l a nm) l.length).map fun i => (i : Int)
theorem firstM_succ (p : Nat → Bool) (n : Nat) : firstM p (n + 1) = match firstM p n with | some i => some i | none => if p n = true then some n else none := by
  unfold firstM
  rw [List.range_succ, List.find?_append]
  cases h : (List.range n).find? p with
  | some i => rfl
  | none =>
    simp only [Option.none_or, List.find?_singleton]
theorem firstM_congr {p q : Nat → Bool} : ∀ {n : Nat}, (∀ i, i < n → p i = q i) → firstM p n = firstM q n
  | 0, _ => rfl
  | n + 1, h => by rw [firstM_succ, firstM_succ, firstM_congr (fun i hi => h i (by omega)), h n (by omega)]
theorem firstM_some {p : Nat → Bool} : ∀ {n i : Nat}, firstM p n = some i → i < n ∧ p i = true
  | 0, i, h => by simp [firstM] at h
  | n + 1, i, h => by
    rw [firstM_succ] at h
    cases hf : firstM p n with
    | some j =>
      rw [hf] at h
      cases h
      have := firstM_some hf
      exact ⟨by omega, this.2⟩
    | none =>
      rw [hf] at h
      by_cases hp : p n = true
      · simp only [hp, if_true, Option.some.injEq] at h
        subst h
        exact ⟨by omega, hp⟩
      · simp only [hp] at h; cases h
theorem inv_start : Inv [0] [zeroO] [] := ⟨rfl, by simp, fun a nm => rfl⟩
theorem getD_app' {α : Type} {l r : List α} {i : Nat} (d : α) (h : i < l.length) : (l ++ r).getD i d = l.getD i d := by
  rw [getD_at (by rw [List.length_append]; omega), getD_at h, List.getElem_append_left h]
theorem getD_last {α : Type} (l : List α) (x d : α) : (l ++ [x]).getD l.length d = x := by simp
theorem inv_put {ins : List Int} {l : List Ob} {es : Es} (hI : Inv ins l es) (a0 : Int) (ob : Ob) (hn : lookV es a0 ob.2.1 = none) : Inv (ins ++ [a0]) (l ++ [ob]) (putEs es a0 ob.2.1 l.length) := by
  obtain ⟨h1, h2, h3⟩ := hI
  refine ⟨by rw [List.length_append, List.length_append, h1]; rfl, by rw [List.length_append]; simp, fun a nm => ?_⟩
  have hlen : (l ++ [ob]).length = l.length + 1 := by simp
  rw [hlen, firstM_succ]
  have hc : firstM (matB (ins ++ [a0]) (l ++ [ob]) a nm) l.length = firstM (matB ins l a nm) l.length := firstM_congr fun i hi => by
    unfold matB
    rw [getD_app' _ (by omega), getD_app' _ hi]
  have hl : matB (ins ++ [a0]) (l ++ [ob]) a nm l.length = (a0 == a && strEq ob.2.1 nm && !(strEq nm ⟨#[95]⟩)) := by
    unfold matB
    rw [getD_last, ← h1, getD_last, decide_eq_true (by omega), Bool.true_and, Bool.and_assoc]
  rw [hc, hl]
  have h4 := h3 a nm
  by_cases hu : strEq ob.2.1 ⟨#[95]⟩ = true
  · have e : putEs es a0 ob.2.1 l.length = es := by unfold putEs; rw [if_pos hu]
    rw [e, h4]
    have hf : (a0 == a && strEq ob.2.1 nm && !(strEq nm ⟨#[95]⟩)) = false := by
      cases hs : strEq ob.2.1 nm with
      | false => simp
      | true =>
        have := (strEq_iff _ _).1 hs
        rw [← this, hu]; simp
    rw [hf]
    cases firstM (matB ins l a nm) l.length <;> rfl
  · have e : putEs es a0 ob.2.1 l.length = es ++ [((a0, ob.2.1), (l.length : Int))] := by
      unfold putEs; rw [if_neg hu]
      exact setM_none hn
    rw [e]
    unfold lookV at h4 ⊢
    rw [lookM_app, h4]
    cases hf : firstM (matB ins l a nm) l.length with
    | some i => rfl
    | none =>
      simp only [Option.map_none]
      by_cases hk : ((a, nm) : Ky) = (a0, ob.2.1)
      · have hk1 : a = a0 := congrArg Prod.fst hk
        have hk2 : nm = ob.2.1 := congrArg Prod.snd hk
        subst hk1 hk2
        have hs : strEq ob.2.1 ob.2.1 = true := (strEq_iff _ _).2 rfl
        rw [if_pos rfl, hs]
        have hu' : strEq ob.2.1 ⟨#[95]⟩ = false := by simpa using hu
        rw [hu']
        simp
      · rw [if_neg hk]
        have hf : (a0 == a && strEq ob.2.1 nm && !(strEq nm ⟨#[95]⟩)) = false := by
          cases hs : strEq ob.2.1 nm with
          | false => simp
          | true =>
            have h5 := (strEq_iff _ _).1 hs
            have h6 : a0 ≠ a := fun e => hk (by rw [e, h5])
            simp [h6]
        rw [hf]; rfl
theorem inv_change {ins : List Int} {l : List Ob} {es : Es} (hI : Inv ins l es) {i : Nat} {ob : Ob} (hi : i < l.length) (hs : ob.2.1 = l[i].2.1) : Inv ins (l.set i ob) es := by
  obtain ⟨h1, h2, h3⟩ := hI
  refine ⟨by rw [List.length_set]; exact h1, by rw [List.length_set]; exact h2, fun a nm => ?_⟩
  rw [List.length_set, h3]
  suffices hm : ∀ j, j < l.length → matB ins l a nm j = matB ins (l.set i ob) a nm j by rw [firstM_congr hm]
  intro j hj
  unfold matB
  have : ((l.set i ob).getD j zeroO).2.1 = (l.getD j zeroO).2.1 := by
    rw [getD_at (by rw [List.length_set]; exact hj), getD_at hj]
    by_cases hij : i = j
    · subst hij; rw [List.getElem_set_self]; exact hs
    · rw [List.getElem_set_ne hij]
  rw [this]
theorem putE_none {n : Nat} {es : Es} {a : Int} {ob : Ob} (h : putE n es a ob = 0) : lookV es a ob.2.1 = none := by
  unfold putE at h
  split at h
  · split at h
    · simp at h
    · rename_i h2
      cases hl : lookV es a ob.2.1 with
      | none => rfl
      | some x => rw [hl] at h2; simp at h2
  · simp at h
theorem inv_atS : ∀ i, i ≤ 18 → Inv (0 :: List.replicate i 1) (atS i).1 (atS i).2 := by
  intro i
  induction i with
  | zero => intro _; exact inv_start
  | succ i ih =>
    intro h
    have hb : i < builtL.length := by rw [builtL_len]; omega
    have hI := inv_put (ih (by omega)) 1 builtL[i] (putE_none (start_put (by omega)))
    rw [atS_succ hb]
    have e : (0 :: List.replicate (i + 1) (1 : Int)) = (0 :: List.replicate i 1) ++ [1] := by rw [List.replicate_succ', List.cons_append]
    rw [e]
    exact hI
theorem inv_all : Inv rIns startL startEs := by
  have := inv_atS 18 (by omega)
  rw [atS_fst 18 (by omega)] at this
  exact this
/-! ### the same answers -/
theorem rhere_look {ins : List Int} {l : List Ob} {es : Es} (hI : Inv ins l es) (a : Int) (nm : ByteArray) : (lookV es a nm).getD 0 = rhereV ins l a nm ∧ ((lookV es a nm).isSome = true ↔ rhereV ins l a nm ≠ 0) := by
  unfold rhereV
  rw [hI.2.2 a nm]
  cases hf : firstM (matB ins l a nm) l.length with
  | none => simp
  | some i =>
    have := firstM_some hf
    have h1 : 1 ≤ i := by
      have := this.2
      unfold matB at this
      simp only [Bool.and_eq_true, decide_eq_true_eq] at this
      exact this.1
    simp; omega
theorem put_same {ins : List Int} {l : List Ob} {es : Es} (hI : Inv ins l es) (n : Nat) (a : Int) (ob : Ob) : putE n es a ob = rputE n ins l a ob := by
  have h := (rhere_look hI a ob.2.1).2
  unfold putE rputE
  by_cases hc : (inB n a && kindB ob.1 && !(strEq ob.2.1 ⟨#[]⟩)) = true
  · rw [if_pos hc, if_pos hc]
    by_cases hs : (lookV es a ob.2.1).isSome = true
    · rw [if_pos hs, if_pos (h.1 hs)]
    · rw [if_neg hs, if_neg (fun e => hs (h.2 e))]
  · rw [if_neg hc, if_neg hc]
end Go.Proofs.Ytlfnpdfgdebhkaa.Ch
