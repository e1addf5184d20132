/- Chapter 21 (lattice): what is joined: plain Lean; Top, awake. No condition. -/
import Derived.Test.YtloiimhmmcheoaaLD
namespace Go.Proofs.Ytloiimhmmcheoaa.Ch
open Go Go.Proofs Go.Proofs.Ytloiimhmmcheoaa.Sx
set_option linter.unusedVariables false
set_option linter.unusedSimpArgs false

/-! ### cells -/
def Cg (t c : Int) : Prop := 0 ≤ c ∧ c ≤ mostV t
theorem cg1 {c : Int} (h : Cg 1 c) : ∃ x : Fin 4, c = (x.val : Int) := by
  obtain ⟨h1, h2⟩ := h
  have : mostV 1 = 3 := by decide
  exact ⟨⟨c.toNat, by omega⟩, by show c = (c.toNat : Int); omega⟩
theorem cell2 (a b : Int) : cellV 2 a b = max a b := by unfold cellV mx2; rw [if_neg (by simp)]; split <;> omega
theorem tag_cases {t : Int} (h : tagB t = true) : t = 1 ∨ t = 2 := by unfold tagB at h; simpa using h
theorem c1_comm : ∀ a b : Fin 4, cellV 1 (a.val : Int) (b.val : Int) = cellV 1 (b.val : Int) (a.val : Int) := by decide
theorem c1_idem : ∀ a : Fin 4, cellV 1 (a.val : Int) (a.val : Int) = (a.val : Int) := by decide
theorem c1_good : ∀ a b : Fin 4, 0 ≤ cellV 1 (a.val : Int) (b.val : Int) ∧ cellV 1 (a.val : Int) (b.val : Int) ≤ 3 := by decide
theorem c1_assoc : ∀ a b c : Fin 4, cellV 1 (cellV 1 (a.val : Int) (b.val : Int)) (c.val : Int) = cellV 1 (a.val : Int) (cellV 1 (b.val : Int) (c.val : Int)) := by decide
theorem c1_most : ∀ a : Fin 4, cellV 1 (a.val : Int) 3 = 3 := by decide
def rk (t c : Int) : Nat := if t = 1 then (if c = 0 then 0 else if c = 3 then 2 else 1) else c.toNat
theorem c1_rise : ∀ a b : Fin 4, rk 1 (a.val : Int) ≤ rk 1 (cellV 1 (a.val : Int) (b.val : Int)) ∧ (cellV 1 (a.val : Int) (b.val : Int) = (a.val : Int) ∨ rk 1 (a.val : Int) < rk 1 (cellV 1 (a.val : Int) (b.val : Int))) := by decide
theorem most2 : mostV 2 = 1 := by decide
theorem most1 : mostV 1 = 3 := by decide
theorem cell_comm {t a b : Int} (ht : tagB t = true) (ha : Cg t a) (hb : Cg t b) : cellV t a b = cellV t b a := by
  rcases tag_cases ht with rfl | rfl
  · obtain ⟨x, rfl⟩ := cg1 ha; obtain ⟨y, rfl⟩ := cg1 hb; exact c1_comm x y
  · rw [cell2, cell2]; omega
theorem cell_idem {t a : Int} (ht : tagB t = true) (ha : Cg t a) : cellV t a a = a := by
  rcases tag_cases ht with rfl | rfl
  · obtain ⟨x, rfl⟩ := cg1 ha; exact c1_idem x
  · rw [cell2]; omega
theorem cell_good {t a b : Int} (ht : tagB t = true) (ha : Cg t a) (hb : Cg t b) : Cg t (cellV t a b) := by
  rcases tag_cases ht with rfl | rfl
  · obtain ⟨x, rfl⟩ := cg1 ha; obtain ⟨y, rfl⟩ := cg1 hb
    have := c1_good x y
    exact ⟨this.1, by rw [most1]; exact this.2⟩
  · obtain ⟨h1, h2⟩ := ha; obtain ⟨h3, h4⟩ := hb
    rw [cell2]; exact ⟨by omega, by omega⟩
theorem cell_assoc {t a b c : Int} (ht : tagB t = true) (ha : Cg t a) (hb : Cg t b) (hc : Cg t c) : cellV t (cellV t a b) c = cellV t a (cellV t b c) := by
  rcases tag_cases ht with rfl | rfl
  · obtain ⟨x, rfl⟩ := cg1 ha; obtain ⟨y, rfl⟩ := cg1 hb; obtain ⟨z, rfl⟩ := cg1 hc; exact c1_assoc x y z
  · rw [cell2, cell2, cell2, cell2]; omega
theorem cell_most {t a : Int} (ht : tagB t = true) (ha : Cg t a) : cellV t a (mostV t) = mostV t := by
  rcases tag_cases ht with rfl | rfl
  · obtain ⟨x, rfl⟩ := cg1 ha; rw [most1]; exact c1_most x
  · have := ha.2; rw [cell2]; omega
theorem cell_rise {t a b : Int} (ht : tagB t = true) (ha : Cg t a) (hb : Cg t b) : rk t a ≤ rk t (cellV t a b) ∧ (cellV t a b = a ∨ rk t a < rk t (cellV t a b)) := by
  rcases tag_cases ht with rfl | rfl
  · obtain ⟨x, rfl⟩ := cg1 ha; obtain ⟨y, rfl⟩ := cg1 hb; exact c1_rise x y
  · obtain ⟨h1, h2⟩ := ha; obtain ⟨h3, h4⟩ := hb
    rw [cell2]
    unfold rk
    rw [if_neg (by decide), if_neg (by decide)]
    omega
theorem rk_most {t a : Int} (ht : tagB t = true) (ha : Cg t a) : rk t a ≤ (if t = 1 then 2 else 1) := by
  rcases tag_cases ht with rfl | rfl
  · rw [if_pos rfl]; unfold rk; rw [if_pos rfl]; split <;> (try split) <;> omega
  · obtain ⟨h1, h2⟩ := ha
    rw [most2] at h2
    rw [if_neg (by decide)]; unfold rk; rw [if_neg (by decide)]; omega
/-! ### facts -/
def Gd (t n : Int) (f : Kn) : Prop := (f.1 = true → (f.2.length : Int) = n ∧ ∀ c ∈ f.2, Cg t c) ∧ (f.1 = false → f.2 = [])
theorem bad_iff {t : Int} {l : List Int} : l.any (badB t) = false ↔ ∀ c ∈ l, Cg t c := by
  rw [List.any_eq_false]
  constructor
  · intro h c hc
    have := h c hc
    unfold badB at this
    simp only [Bool.or_eq_true, decide_eq_true_eq] at this
    exact ⟨by omega, by omega⟩
  · intro h c hc
    obtain ⟨h1, h2⟩ := h c hc
    unfold badB
    simp only [Bool.or_eq_true, decide_eq_true_eq]
    omega
theorem good_iff {t n : Int} {f : Kn} : goodV t n f = true ↔ tagB t = true ∧ Gd t n f := by
  obtain ⟨c, l⟩ := f
  unfold goodV Gd
  rw [Bool.and_eq_true]
  cases c with
  | true => simp [← bad_iff]
  | false => simp
theorem zip_comm {t : Int} (ht : tagB t = true) : ∀ {l m : List Int}, (∀ c ∈ l, Cg t c) → (∀ c ∈ m, Cg t c) → List.zipWith (cellV t) l m = List.zipWith (cellV t) m l
  | [], m, _, _ => by simp
  | _ :: _, [], _, _ => by simp
  | a :: l, b :: m, h1, h2 => by
    simp only [List.zipWith_cons_cons]
    rw [cell_comm ht (h1 a (by simp)) (h2 b (by simp)), zip_comm ht (fun c hc => h1 c (by simp [hc])) (fun c hc => h2 c (by simp [hc]))]
theorem zip_idem {t : Int} (ht : tagB t = true) : ∀ {l : List Int}, (∀ c ∈ l, Cg t c) → List.zipWith (cellV t) l l = l
  | [], _ => by simp
  | a :: l, h1 => by
    simp only [List.zipWith_cons_cons]
    rw [cell_idem ht (h1 a (by simp)), zip_idem ht (fun c hc => h1 c (by simp [hc]))]
theorem zip_good {t : Int} (ht : tagB t = true) : ∀ {l m : List Int}, (∀ c ∈ l, Cg t c) → (∀ c ∈ m, Cg t c) → ∀ c ∈ List.zipWith (cellV t) l m, Cg t c
  | [], m, _, _ => by simp
  | _ :: _, [], _, _ => by simp
  | a :: l, b :: m, h1, h2 => by
    simp only [List.zipWith_cons_cons, List.mem_cons]
    rintro c (rfl | hc)
    · exact cell_good ht (h1 a (by simp)) (h2 b (by simp))
    · exact zip_good ht (fun c hc => h1 c (by simp [hc])) (fun c hc => h2 c (by simp [hc])) c hc
theorem zip_assoc {t : Int} (ht : tagB t = true) : ∀ {l m k : List Int}, (∀ c ∈ l, Cg t c) → (∀ c ∈ m, Cg t c) → (∀ c ∈ k, Cg t c) → List.zipWith (cellV t) (List.zipWith (cellV t) l m) k = List.zipWith (cellV t) l (List.zipWith (cellV t) m k)
  | [], m, k, _, _, _ => by simp
  | _ :: _, [], k, _, _, _ => by simp
  | _ :: _, _ :: _, [], _, _, _ => by simp
  | a :: l, b :: m, c :: k, h1, h2, h3 => by
    simp only [List.zipWith_cons_cons]
    rw [cell_assoc ht (h1 a (by simp)) (h2 b (by simp)) (h3 c (by simp)), zip_assoc ht (fun c hc => h1 c (by simp [hc])) (fun c hc => h2 c (by simp [hc])) (fun c hc => h3 c (by simp [hc]))]
theorem zip_most {t : Int} (ht : tagB t = true) : ∀ {l : List Int}, (∀ c ∈ l, Cg t c) → List.zipWith (cellV t) l (List.replicate l.length (mostV t)) = List.replicate l.length (mostV t)
  | [], _ => by simp
  | a :: l, h1 => by
    simp only [List.length_cons, List.replicate_succ, List.zipWith_cons_cons]
    rw [cell_most ht (h1 a (by simp)), zip_most ht (fun c hc => h1 c (by simp [hc]))]
theorem gd_false {t n : Int} {f : Kn} (h : Gd t n f) (hf : f.1 = false) : f = (false, []) := by
  obtain ⟨c, l⟩ := f
  have h1 : c = false := hf
  have h2 : l = [] := h.2 hf
  rw [h1, h2]
theorem join_f {t : Int} {a b : Kn} (h : a.1 = false) : joinV t a b = b := by unfold joinV; rw [if_pos h]
theorem join_g {t : Int} {a b : Kn} (h1 : a.1 = true) (h : b.1 = false) : joinV t a b = a := by unfold joinV; rw [if_neg (by rw [h1]; simp), if_pos h]
theorem join_t' {t : Int} {a b : Kn} (h1 : a.1 = true) (h2 : b.1 = true) : joinV t a b = (true, List.zipWith (cellV t) a.2 b.2) := by unfold joinV; rw [if_neg (by rw [h1]; simp), if_neg (by rw [h2]; simp)]
theorem cases_b (c : Bool) : c = false ∨ c = true := by cases c <;> simp
theorem join_comm {t n : Int} (ht : tagB t = true) {a b : Kn} (ha : Gd t n a) (hb : Gd t n b) : joinV t a b = joinV t b a := by
  rcases cases_b a.1 with h1 | h1 <;> rcases cases_b b.1 with h2 | h2
  · rw [join_f h1, join_f h2, gd_false ha h1, gd_false hb h2]
  · rw [join_f h1, join_g h2 h1]
  · rw [join_g h1 h2, join_f h2]
  · rw [join_t' h1 h2, join_t' h2 h1, zip_comm ht (ha.1 h1).2 (hb.1 h2).2]
theorem join_idem {t n : Int} (ht : tagB t = true) {a : Kn} (ha : Gd t n a) : joinV t a a = a := by
  rcases cases_b a.1 with h1 | h1
  · exact join_f h1
  · rw [join_t' h1 h1, zip_idem ht (ha.1 h1).2, ← h1]
theorem join_good {t n : Int} (ht : tagB t = true) {a b : Kn} (ha : Gd t n a) (hb : Gd t n b) : Gd t n (joinV t a b) := by
  rcases cases_b a.1 with h1 | h1
  · rw [join_f h1]; exact hb
  · rcases cases_b b.1 with h2 | h2
    · rw [join_g h1 h2]; exact ha
    · rw [join_t' h1 h2]
      refine ⟨fun _ => ⟨?_, zip_good ht (ha.1 h1).2 (hb.1 h2).2⟩, fun h => by cases h⟩
      have := (ha.1 h1).1; have := (hb.1 h2).1
      rw [List.length_zipWith]; omega
theorem join_assoc {t n : Int} (ht : tagB t = true) {a b c : Kn} (ha : Gd t n a) (hb : Gd t n b) (hc : Gd t n c) : joinV t (joinV t a b) c = joinV t a (joinV t b c) := by
  rcases cases_b a.1 with h1 | h1
  · rw [join_f h1, join_f h1]
  · rcases cases_b b.1 with h2 | h2
    · rw [join_g h1 h2, join_f h2]
    · rcases cases_b c.1 with h3 | h3
      · rw [join_g h2 h3, join_g (by rw [join_t' h1 h2]) h3]
      · rw [join_t' h2 h3, join_t' h1 h2, join_t' rfl h3, join_t' h1 rfl, zip_assoc ht (ha.1 h1).2 (hb.1 h2).2 (hc.1 h3).2]
theorem below_iff {t : Int} {a b : Kn} : belowV t a b = true ↔ joinV t a b = b := by unfold belowV; exact decide_eq_true_iff
theorem below_up {t n : Int} (ht : tagB t = true) {a b : Kn} (ha : Gd t n a) (hb : Gd t n b) : belowV t a (joinV t a b) = true := by
  rw [below_iff, ← join_assoc ht ha ha hb, join_idem ht ha]
theorem below_up' {t n : Int} (ht : tagB t = true) {a b : Kn} (ha : Gd t n a) (hb : Gd t n b) : belowV t b (joinV t a b) = true := by
  rw [join_comm ht ha hb]; exact below_up ht hb ha
theorem below_trans {t n : Int} (ht : tagB t = true) {a b c : Kn} (ha : Gd t n a) (hb : Gd t n b) (hc : Gd t n c) (h1 : belowV t a b = true) (h2 : belowV t b c = true) : belowV t a c = true := by
  rw [below_iff] at h1 h2 ⊢
  have := join_assoc ht ha hb hc
  rw [h1, h2] at this
  exact this.symm
theorem below_anti {t n : Int} (ht : tagB t = true) {a b : Kn} (ha : Gd t n a) (hb : Gd t n b) (h1 : belowV t a b = true) (h2 : belowV t b a = true) : a = b := by
  rw [below_iff] at h1 h2
  exact h2.symm.trans ((join_comm ht hb ha).trans h1)
theorem below_least {t n : Int} (ht : tagB t = true) {a b c : Kn} (ha : Gd t n a) (hb : Gd t n b) (hc : Gd t n c) (h1 : belowV t a c = true) (h2 : belowV t b c = true) : belowV t (joinV t a b) c = true := by
  rw [below_iff] at h1 h2 ⊢
  rw [join_assoc ht ha hb hc, h2, h1]
/-! ### what rises -/
def sumR (t : Int) : List Int → Nat
  | [] => 0
  | c :: r => rk t c + sumR t r
def rankV (t : Int) (f : Kn) : Nat := bif f.1 then 1 + sumR t f.2 else 0
theorem zip_rise {t : Int} (ht : tagB t = true) : ∀ {l m : List Int}, l.length = m.length → (∀ c ∈ l, Cg t c) → (∀ c ∈ m, Cg t c) → sumR t l ≤ sumR t (List.zipWith (cellV t) l m) ∧ (List.zipWith (cellV t) l m = l ∨ sumR t l < sumR t (List.zipWith (cellV t) l m))
  | [], m, _, _, _ => by simp
  | _ :: _, [], h, _, _ => by simp at h
  | a :: l, b :: m, h, h1, h2 => by
    simp only [List.zipWith_cons_cons, sumR]
    obtain ⟨e1, e2⟩ := cell_rise ht (h1 a (by simp)) (h2 b (by simp))
    obtain ⟨e3, e4⟩ := zip_rise ht (by simpa using h) (fun c hc => h1 c (by simp [hc])) (fun c hc => h2 c (by simp [hc]))
    refine ⟨by omega, ?_⟩
    rcases e2 with e2 | e2
    · rcases e4 with e4 | e4
      · left; rw [e2, e4]
      · right; omega
    · right; omega
theorem join_rise {t n : Int} (ht : tagB t = true) {a b : Kn} (ha : Gd t n a) (hb : Gd t n b) : a = joinV t a b ∨ rankV t a < rankV t (joinV t a b) := by
  rcases cases_b a.1 with h1 | h1
  · rw [join_f h1]
    rcases cases_b b.1 with h2 | h2
    · left; rw [gd_false ha h1, gd_false hb h2]
    · right; unfold rankV; rw [h1, h2]; simp; omega
  · rcases cases_b b.1 with h2 | h2
    · left; rw [join_g h1 h2]
    · have hl : a.2.length = b.2.length := by have := (ha.1 h1).1; have := (hb.1 h2).1; omega
      obtain ⟨e1, e2⟩ := zip_rise ht hl (ha.1 h1).2 (hb.1 h2).2
      rw [join_t' h1 h2]
      rcases e2 with e2 | e2
      · left; rw [e2, ← h1]
      · right; unfold rankV; rw [h1]; simp; omega
theorem sum_most {t : Int} (ht : tagB t = true) : ∀ {l : List Int}, (∀ c ∈ l, Cg t c) → sumR t l ≤ (if t = 1 then 2 else 1) * l.length
  | [], _ => by simp [sumR]
  | a :: l, h => by
    have h1 := rk_most ht (h a (by simp))
    have h2 := sum_most ht (l := l) (fun c hc => h c (by simp [hc]))
    simp only [sumR, List.length_cons]
    split at h1 <;> split at h2 <;> rename_i q1 q2 <;> first | (rw [if_pos q1]; omega) | (rw [if_neg q1]; omega) | (exact absurd q1 q2) | (exact absurd q2 q1)
theorem rank_most {t : Int} {k : Nat} (hk : k ≤ 60) (ht : tagB t = true) {a : Kn} (ha : Gd t k a) : (rankV t a : Int) ≤ heightV t k := by
  have hb : boundV k = k := by rw [bound_is]; omega
  unfold heightV
  rw [if_neg (fun x => by rcases x with x | x; omega; rw [ht] at x; cases x), hb]
  rcases cases_b a.1 with h1 | h1
  · unfold rankV; rw [h1]; split <;> simp <;> omega
  · have hl := (ha.1 h1).1
    have := sum_most ht (ha.1 h1).2
    unfold rankV; rw [h1]
    simp only [cond_true]
    split <;> rename_i q
    · rw [if_pos q] at this; omega
    · rw [if_neg q] at this; omega
end Go.Proofs.Ytloiimhmmcheoaa.Ch
