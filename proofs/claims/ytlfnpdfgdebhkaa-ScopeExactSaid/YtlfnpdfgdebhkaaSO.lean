/- Chapter 7 (scope): the same answers: plain Lean. No condition. -/
import Derived.Test.YtlfnpdfgdebhkaaSN
namespace Go.Proofs.Ytlfnpdfgdebhkaa.Ch
open Go Go.Proofs Go.Proofs.Ytlfnpdfgdebhkaa.Sx
set_option linter.unusedVariables false
set_option linter.unusedSimpArgs false

/-- Scopes: the first is nowhere, the second in none, each further one in one ahead of it. -/
def OutI (o : List Int) : Prop := 2 ≤ o.length ∧ ∀ i (h : i < o.length), 0 ≤ o[i] ∧ (i < 2 → o[i] = 0) ∧ (2 ≤ i → 1 ≤ o[i] ∧ o[i] < i)
theorem outI_ok {o : List Int} (h : OutI o) : OutOk o := fun i hi => by
  have := h.2 i hi
  refine ⟨this.1, fun h1 => ?_⟩
  by_cases h2 : i < 2
  · have := this.2.1 h2; omega
  · have := this.2.2 (by omega); omega
theorem outI_start : OutI [0, 0] := ⟨by simp, fun i hi => by
  have : i = 0 ∨ i = 1 := by simp at hi; omega
  rcases this with rfl | rfl <;> simp⟩
theorem outI_open {o : List Int} (h : OutI o) {a : Int} (ha : inB o.length a = true) : OutI (o ++ [a]) := by
  have hb := inB_iff.1 ha
  refine ⟨by rw [List.length_append]; have := h.1; omega, fun i hi => ?_⟩
  by_cases hl : i < o.length
  · rw [List.getElem_append_left hl]
    exact h.2 i hl
  · have : i = o.length := by simp at hi; omega
    subst this
    have h2 := h.1
    simp
    omega
def trip (r : Int × Int) : Int × Int × Bool := (r.1, r.2, r.1 != 0)
theorem find_core {o ins : List Int} {l : List Ob} {es : Es} (hI : Inv ins l es) (ho : OutOk o) (nm : ByteArray) : ∀ (f : Nat) (a : Int), inB o.length a = true → a.toNat + 1 ≤ f → findF f o es a nm = trip (rfF f o ins l a nm) := by
  intro f
  induction f with
  | zero => intro a _ h; omega
  | succ f ih =>
    intro a ha hf
    have hb := inB_iff.1 ha
    have hne : a ≠ 0 := by omega
    have hlo := out_at ho ha
    obtain ⟨e1, e2⟩ := rhere_look hI a nm
    simp only [findF, rfF]
    rw [if_pos ha, if_neg hne]
    cases hl : lookV es a nm with
    | some i =>
      rw [hl] at e1 e2
      have hr : rhereV ins l a nm ≠ 0 := e2.1 rfl
      have e1 : i = rhereV ins l a nm := e1
      rw [if_pos hr, e1]
      show (rhereV ins l a nm, a, true) = (rhereV ins l a nm, a, rhereV ins l a nm != 0)
      rw [show (rhereV ins l a nm != 0) = true by simpa using hr]
    | none =>
      rw [hl] at e2
      have hr : rhereV ins l a nm = 0 := by
        by_cases h : rhereV ins l a nm = 0
        · exact h
        · have := e2.2 h; cases this
      rw [if_neg (by rw [hr]; simp)]
      by_cases hz : o.getD a.toNat 0 = 0
      · simp only [hz]
        have h1 : ∀ f, findF f o es 0 nm = (0, 0, false) := by
          intro f; cases f with
          | zero => rfl
          | succ f => simp only [findF]; rw [if_neg (by simp [inB])]
        have h2 : ∀ f, rfF f o ins l 0 nm = (0, 0) := by
          intro f; cases f with
          | zero => rfl
          | succ f => simp [rfF]
        rw [h1, h2]; rfl
      · exact ih _ (inB_iff.2 (by omega)) (by omega)
theorem find_same {o ins : List Int} {l : List Ob} {es : Es} (hI : Inv ins l es) (ho : OutOk o) (a : Int) (nm : ByteArray) : findV o es a nm = trip (rfindV o ins l a nm) := by
  unfold findV rfindV
  by_cases ha : inB o.length a = true
  · rw [if_pos ha]
    exact find_core hI ho nm _ a ha (Nat.le_refl _)
  · rw [if_neg ha]
    simp only [findF]
    rw [if_neg ha]; rfl
theorem with_core {o : List Int} (ho : OutOk o) (b : Int) : ∀ (f : Nat) (a : Int), inB o.length a = true → a.toNat + 1 ≤ f → withF f o a b = rwF f o a b := by
  intro f
  induction f with
  | zero => intro a _ h; omega
  | succ f ih =>
    intro a ha hf
    have hb := inB_iff.1 ha
    have hne : a ≠ 0 := by omega
    have hlo := out_at ho ha
    simp only [withF, rwF]
    by_cases hab : a = b
    · rw [if_neg (by rw [decide_eq_true hab]; simp), if_neg (fun h => h.2 hab)]
    · rw [if_pos (by rw [ha, decide_eq_false hab]; rfl), if_pos ⟨hne, hab⟩]
      by_cases hz : o.getD a.toNat 0 = 0
      · rw [hz]
        have hf1 : 1 ≤ f := by omega
        cases f with
        | zero => omega
        | succ f =>
          simp only [withF, rwF]
          rw [if_neg (by simp [inB]), if_neg (by simp)]
      · exact ih _ (inB_iff.2 (by omega)) (by omega)
theorem with_same {o : List Int} (ho : OutOk o) (a b : Int) : withV o a b = rwithV o a b := by
  unfold withV rwithV
  by_cases hb : inB o.length b = true
  · rw [if_pos hb, hb, Bool.and_true]
    by_cases ha : inB o.length a = true
    · rw [if_pos ha]
      exact with_core ho b _ a ha (Nat.le_refl _)
    · rw [if_neg ha]
      simp only [withF]
      have hf : inB o.length a = false := by simpa using ha
      rw [if_neg (by rw [hf]; simp)]
      have : a ≠ b := fun e => by subst e; exact ha hb
      exact decide_eq_false this
  · have hf : inB o.length b = false := by simpa using hb
    rw [if_neg hb, if_neg (by rw [hf]; simp)]
end Go.Proofs.Ytlfnpdfgdebhkaa.Ch
