/- Chapter 3 (tree): when two nodes are made alike: plain Lean. No condition. -/
import Derived.Test.YtmncmmdicpcgmaaTL
namespace Go.Proofs.Ytmncmmdicpcgmaa.Ch
open Go Go.Proofs Go.Proofs.Ytmncmmdicpcgmaa.Sx
set_option linter.unusedVariables false
set_option linter.unusedSimpArgs false

def locB (a b : Nd) : Bool := decide (a.1 = b.1) && decide (a.2.2.1 = b.2.2.1) && decide ((kidsOf a).length = (kidsOf b).length)
/-- Nodes that are made alike. -/
noncomputable def smF : Nat → List Nd → Int → List Nd → Int → Bool
  | 0, _, _, _, _ => false
  | f + 1, l, i, m, k => if (hasB l.length i && hasB m.length k) = true then locB (ndAt l i) (ndAt m k) && ((kidsOf (ndAt l i)).zip (kidsOf (ndAt m k))).all (fun p => smF f l p.1 m p.2) else hasB l.length i == hasB m.length k
noncomputable def sm (l : List Nd) (i : Int) (m : List Nd) (k : Int) : Bool := smF (i.toNat + 1) l i m k
theorem all_congr {α : Type} {p q : α → Bool} : ∀ {l : List α}, (∀ x ∈ l, p x = q x) → l.all p = l.all q
  | [], _ => rfl
  | a :: r, h => by simp only [List.all_cons]; rw [h a (by simp), all_congr (fun x hx => h x (by simp [hx]))]
theorem hasB_iff {n : Nat} {i : Int} : hasB n i = true ↔ 1 ≤ i ∧ i ≤ n := by simp [hasB]
theorem smF_eq {l m : List Nd} (hv : Valid l) : ∀ (f g : Nat) (i k : Int), i.toNat + 1 ≤ f → i.toNat + 1 ≤ g → smF f l i m k = smF g l i m k := by
  intro f
  induction f with
  | zero => intro g i k h; omega
  | succ f ih =>
    intro g i k h1 h2
    cases g with
    | zero => omega
    | succ g =>
      simp only [smF]
      by_cases hh : (hasB l.length i && hasB m.length k) = true
      · rw [if_pos hh, if_pos hh]
        congr 1
        refine all_congr (fun p hp => ?_)
        have hi := hasB_iff.1 (by simp only [Bool.and_eq_true] at hh; exact hh.1)
        have := kid_lt hv hi.1 hi.2 (List.of_mem_zip (a := p.1) (b := p.2) hp).1
        exact ih g p.1 p.2 (by omega) (by omega)
      · rw [if_neg hh, if_neg hh]
theorem sm_eq {l m : List Nd} (hv : Valid l) {i k : Int} (hi : hasB l.length i = true) (hk : hasB m.length k = true) : sm l i m k = (locB (ndAt l i) (ndAt m k) && ((kidsOf (ndAt l i)).zip (kidsOf (ndAt m k))).all (fun p => sm l p.1 m p.2)) := by
  have hi' := hasB_iff.1 hi
  unfold sm
  simp only [smF]
  rw [if_pos (by rw [hi, hk]; rfl)]
  congr 1
  refine all_congr (fun p hp => ?_)
  have := kid_lt hv hi'.1 hi'.2 (List.of_mem_zip (a := p.1) (b := p.2) hp).1
  show smF i.toNat l p.1 m p.2 = smF (p.1.toNat + 1) l p.1 m p.2
  have hb : p.1.toNat + 1 ≤ i.toNat := by omega
  exact smF_eq hv _ _ p.1 p.2 hb (Nat.le_refl _)
theorem sm_no {l m : List Nd} {i k : Int} (h : (hasB l.length i && hasB m.length k) = false) : sm l i m k = (hasB l.length i == hasB m.length k) := by
  unfold sm
  simp only [smF]
  rw [if_neg (by rw [h]; simp)]
/-- Two lists, one by the other. -/
theorem all2_zip {α β : Type} {p : α → β → Bool} : ∀ {xs : List α} {ys : List β}, xs.length = ys.length → (xs.zip ys).all (fun x => p x.1 x.2) = true → All2 (fun a b => p a b = true) xs ys
  | [], [], _, _ => trivial
  | a :: xs, b :: ys, hl, h => by
    simp only [List.zip_cons_cons, List.all_cons, Bool.and_eq_true] at h
    exact ⟨h.1, all2_zip (by simpa using hl) h.2⟩
  | [], _ :: _, hl, _ => by simp at hl
  | _ :: _, [], hl, _ => by simp at hl
theorem zip_all2 {α β : Type} {p : α → β → Bool} : ∀ {xs : List α} {ys : List β}, All2 (fun a b => p a b = true) xs ys → xs.length = ys.length ∧ (xs.zip ys).all (fun x => p x.1 x.2) = true
  | [], [], _ => ⟨rfl, rfl⟩
  | a :: xs, b :: ys, h => by
    obtain ⟨h1, h2⟩ := zip_all2 h.2
    simp only [List.zip_cons_cons, List.all_cons, Bool.and_eq_true, List.length_cons]
    exact ⟨by omega, h.1, h2⟩
  | [], _ :: _, h => h.elim
  | _ :: _, [], h => h.elim
theorem all2_imq {α β : Type} {R S : α → β → Prop} : ∀ {xs : List α} {ys : List β}, (∀ a ∈ xs, ∀ b ∈ ys, R a b → S a b) → All2 R xs ys → All2 S xs ys
  | [], [], _, _ => trivial
  | a :: xs, b :: ys, h, h2 => ⟨h a (by simp) b (by simp) h2.1, all2_imq (fun x hx y hy => h x (by simp [hx]) y (by simp [hy])) h2.2⟩
  | [], _ :: _, _, h => h.elim
  | _ :: _, [], _, h => h.elim
theorem all2_and {α β : Type} {R S : α → β → Prop} : ∀ {xs : List α} {ys : List β}, All2 R xs ys → All2 S xs ys → All2 (fun a b => R a b ∧ S a b) xs ys
  | [], [], _, _ => trivial
  | a :: xs, b :: ys, h, h2 => ⟨⟨h.1, h2.1⟩, all2_and h.2 h2.2⟩
  | [], _ :: _, h, _ => h.elim
  | _ :: _, [], h, _ => h.elim
theorem sm_kids {l m : List Nd} (hv : Valid l) {i k : Int} (hi : hasB l.length i = true) (hk : hasB m.length k = true) : sm l i m k = true ↔ (ndAt l i).1 = (ndAt m k).1 ∧ (ndAt l i).2.2.1 = (ndAt m k).2.2.1 ∧ All2 (fun x y => sm l x m y = true) (kidsOf (ndAt l i)) (kidsOf (ndAt m k)) := by
  rw [sm_eq hv hi hk]
  simp only [locB, Bool.and_eq_true, decide_eq_true_eq]
  constructor
  · rintro ⟨⟨⟨h1, h2⟩, h3⟩, h4⟩
    exact ⟨h1, h2, all2_zip (p := fun x y => sm l x m y) h3 h4⟩
  · rintro ⟨h1, h2, h3⟩
    obtain ⟨h4, h5⟩ := zip_all2 (p := fun x y => sm l x m y) h3
    exact ⟨⟨⟨h1, h2⟩, h4⟩, h5⟩
/-- What is had, or not, is so on both sides. -/
theorem sm_zero {l m : List Nd} {x y : Int} (h : sm l x m y = true) (hx : 0 ≤ x ∧ x ≤ l.length) (hy : 0 ≤ y ∧ y ≤ m.length) : (x = 0 ∧ y = 0) ∨ (0 < x ∧ 0 < y) := by
  cases hh : (hasB l.length x && hasB m.length y) with
  | true =>
    simp only [Bool.and_eq_true] at hh
    have h1 := hasB_iff.1 hh.1
    have h2 := hasB_iff.1 hh.2
    right; omega
  | false =>
    rw [sm_no hh] at h
    have he : hasB l.length x = hasB m.length y := by simpa using h
    rw [he] at hh
    have h1 : hasB m.length y = false := by simpa using hh
    rw [h1] at he
    simp only [hasB, Bool.and_eq_false_iff, decide_eq_false_iff_not] at h1 he
    left; omega
theorem flat_two {l m : List Nd} : ∀ {ks js : List Int}, All2 (fun x y => (x = 0 ∧ y = 0) ∨ (0 < x ∧ 0 < y ∧ cnt l x = cnt m y ∧ dep l x = dep m y)) ks js → (flat l ks).length = (flat m js).length ∧
    ∀ d, ks.foldl (fun d k => if k = 0 then d else mx2 d (dep l k + 1)) d = js.foldl (fun d k => if k = 0 then d else mx2 d (dep m k + 1)) d
  | [], [], _ => ⟨rfl, fun d => rfl⟩
  | x :: ks, y :: js, h => by
    obtain ⟨ih1, ih2⟩ := flat_two h.2
    unfold flat at ih1 ⊢
    rcases h.1 with ⟨rfl, rfl⟩ | ⟨hx, hy, hc, hd⟩
    · refine ⟨by simpa [Ch.part] using ih1, fun d => ?_⟩
      simp only [List.foldl_cons, if_true]; exact ih2 d
    · refine ⟨?_, fun d => ?_⟩
      · rw [List.filter_cons, List.filter_cons, if_pos (by simpa [Ch.part] using hx), if_pos (by simpa [Ch.part] using hy), List.flatMap_cons, List.flatMap_cons, List.length_append, List.length_append, ih1]
        unfold cnt at hc; omega
      · simp only [List.foldl_cons]
        rw [if_neg (by omega), if_neg (by omega), hd]
        exact ih2 _
  | [], _ :: _, h => h.elim
  | _ :: _, [], h => h.elim
theorem sm_cnt {l m : List Nd} (hl : Valid l) (hm : Valid m) : ∀ (n : Nat) (i k : Int), i.toNat ≤ n → hasB l.length i = true → hasB m.length k = true → sm l i m k = true → cnt l i = cnt m k ∧ dep l i = dep m k := by
  intro n
  induction n with
  | zero => intro i k h hi; have := hasB_iff.1 hi; omega
  | succ n ih =>
    intro i k h hi hk hs
    obtain ⟨_, _, h3⟩ := (sm_kids hl hi hk).1 hs
    have hi' := hasB_iff.1 hi
    have hk' := hasB_iff.1 hk
    have := flat_two (l := l) (m := m) (all2_imq (fun x hx y hy hxy => by
      have h1 := kid_lt hl hi'.1 hi'.2 hx
      have h2 := kid_lt hm hk'.1 hk'.2 hy
      rcases sm_zero hxy ⟨h1.1, by omega⟩ ⟨h2.1, by omega⟩ with h0 | ⟨h3, h4⟩
      · exact .inl h0
      · exact .inr ⟨h3, h4, ih x y (by omega) (hasB_iff.2 (by omega)) (hasB_iff.2 (by omega)) hxy⟩) h3)
    unfold cnt
    rw [pre_eq hl hi'.1 hi'.2, pre_eq hm hk'.1 hk'.2, dep_eq hl hi'.1 hi'.2, dep_eq hm hk'.1 hk'.2]
    refine ⟨?_, this.2 1⟩
    simp only [List.length_cons]
    have h4 := this.1
    unfold flat at h4
    omega
/-! ### by the walks -/
def locZ (a b : Nd) : Bool := locB a b && ((kidsOf a).zip (kidsOf b)).all (fun p => decide (p.1 = 0) == decide (p.2 = 0))
def WZ (l m : List Nd) (x y : Int) : Prop := locZ (ndAt l x) (ndAt m y) = true
theorem locZ_iff {a b : Nd} : locZ a b = true ↔ a.1 = b.1 ∧ a.2.2.1 = b.2.2.1 ∧ All2 (fun x y : Int => x = 0 ↔ y = 0) (kidsOf a) (kidsOf b) := by
  simp only [locZ, locB, Bool.and_eq_true, decide_eq_true_eq]
  constructor
  · rintro ⟨⟨⟨h1, h2⟩, h3⟩, h4⟩
    refine ⟨h1, h2, all2_imq (fun x _ y _ h => ?_) (all2_zip (p := fun x y : Int => decide (x = 0) == decide (y = 0)) h3 h4)⟩
    simpa using h
  · rintro ⟨h1, h2, h3⟩
    obtain ⟨h4, h5⟩ := zip_all2 (p := fun x y : Int => decide (x = 0) == decide (y = 0)) (all2_imq (fun x _ y _ h => by simpa using h) h3)
    exact ⟨⟨⟨h1, h2⟩, h4⟩, h5⟩
theorem all2_apq {α β : Type} {R : α → β → Prop} : ∀ {xs : List α} {ys : List β} {us : List α} {vs : List β}, All2 R xs ys → All2 R us vs → All2 R (xs ++ us) (ys ++ vs)
  | [], [], _, _, _, h => h
  | a :: xs, b :: ys, _, _, h, h2 => ⟨h.1, all2_apq h.2 h2⟩
  | [], _ :: _, _, _, h, _ => h.elim
  | _ :: _, [], _, _, h, _ => h.elim
theorem flat_walks {l m : List Nd} : ∀ {ks js : List Int}, All2 (fun x y => (x = 0 ∧ y = 0) ∨ (0 < x ∧ 0 < y ∧ All2 (WZ l m) (pre l x) (pre m y))) ks js → All2 (WZ l m) (flat l ks) (flat m js)
  | [], [], _ => trivial
  | x :: ks, y :: js, h => by
    have ih := flat_walks h.2
    unfold flat at ih ⊢
    rcases h.1 with ⟨rfl, rfl⟩ | ⟨hx, hy, hc⟩
    · simpa [Ch.part] using ih
    · rw [List.filter_cons, List.filter_cons, if_pos (by simpa [Ch.part] using hx), if_pos (by simpa [Ch.part] using hy), List.flatMap_cons, List.flatMap_cons]
      exact all2_apq hc ih
  | [], _ :: _, h => h.elim
  | _ :: _, [], h => h.elim
theorem sm_walks {l m : List Nd} (hl : Valid l) (hm : Valid m) : ∀ (n : Nat) (i k : Int), i.toNat ≤ n → hasB l.length i = true → hasB m.length k = true → sm l i m k = true → All2 (WZ l m) (pre l i) (pre m k) := by
  intro n
  induction n with
  | zero => intro i k h hi; have := hasB_iff.1 hi; omega
  | succ n ih =>
    intro i k h hi hk hs
    obtain ⟨h1, h2, h3⟩ := (sm_kids hl hi hk).1 hs
    have hi' := hasB_iff.1 hi
    have hk' := hasB_iff.1 hk
    have hz := all2_imq (S := fun x y => (x = 0 ∧ y = 0) ∨ (0 < x ∧ 0 < y ∧ All2 (WZ l m) (pre l x) (pre m y))) (fun x hx y hy hxy => by
      have h1 := kid_lt hl hi'.1 hi'.2 hx
      have h2 := kid_lt hm hk'.1 hk'.2 hy
      rcases sm_zero hxy ⟨h1.1, by omega⟩ ⟨h2.1, by omega⟩ with h0 | ⟨h3, h4⟩
      · exact .inl h0
      · exact .inr ⟨h3, h4, ih x y (by omega) (hasB_iff.2 (by omega)) (hasB_iff.2 (by omega)) hxy⟩) h3
    rw [pre_eq hl hi'.1 hi'.2, pre_eq hm hk'.1 hk'.2]
    exact ⟨locZ_iff.2 ⟨h1, h2, all2_imq (fun x _ y _ h => by rcases h with h | h <;> omega) hz⟩, flat_walks hz⟩
theorem flat_back {l m : List Nd} (n : Nat) (ih : ∀ (i k : Int) (s s' : List Int), i.toNat ≤ n → hasB l.length i = true → hasB m.length k = true → All2 (WZ l m) (pre l i ++ s) (pre m k ++ s') → sm l i m k = true ∧ All2 (WZ l m) s s') :
    ∀ {ks js : List Int} (s s' : List Int), All2 (fun x y : Int => x = 0 ↔ y = 0) ks js → (∀ x ∈ ks, 0 ≤ x ∧ x.toNat ≤ n ∧ x ≤ l.length) → (∀ y ∈ js, 0 ≤ y ∧ y ≤ m.length) → All2 (WZ l m) (flat l ks ++ s) (flat m js ++ s') → All2 (fun x y => sm l x m y = true) ks js ∧ All2 (WZ l m) s s'
  | [], [], s, s', _, _, _, h => ⟨trivial, h⟩
  | x :: ks, y :: js, s, s', hz, hk, hj, h => by
    have hx := hk x (by simp)
    have hy := hj y (by simp)
    have go := fun s s' => flat_back n ih (ks := ks) (js := js) s s' hz.2 (fun q hq => hk q (by simp [hq])) (fun q hq => hj q (by simp [hq]))
    unfold flat at h go
    by_cases h0 : x = 0
    · have h1 := hz.1.1 h0
      subst h0 h1
      have := go s s' (by simpa [Ch.part] using h)
      exact ⟨⟨by show sm l 0 m 0 = true; rw [sm_no (by simp [hasB])]; simp [hasB], this.1⟩, this.2⟩
    · have h1 : ¬ y = 0 := fun e => h0 (hz.1.2 e)
      rw [List.filter_cons, List.filter_cons, if_pos (by simp [Ch.part]; omega), if_pos (by simp [Ch.part]; omega), List.flatMap_cons, List.flatMap_cons, List.append_assoc, List.append_assoc] at h
      obtain ⟨g1, g2⟩ := ih x y _ _ hx.2.1 (hasB_iff.2 (by omega)) (hasB_iff.2 (by omega)) h
      have := go s s' g2
      exact ⟨⟨g1, this.1⟩, this.2⟩
  | [], _ :: _, _, _, h, _, _, _ => h.elim
  | _ :: _, [], _, _, h, _, _, _ => h.elim
theorem walks_back {l m : List Nd} (hl : Valid l) (hm : Valid m) : ∀ (n : Nat) (i k : Int) (s s' : List Int), i.toNat ≤ n → hasB l.length i = true → hasB m.length k = true → All2 (WZ l m) (pre l i ++ s) (pre m k ++ s') → sm l i m k = true ∧ All2 (WZ l m) s s' := by
  intro n
  induction n with
  | zero => intro i k _ _ h hi; have := hasB_iff.1 hi; omega
  | succ n ih =>
    intro i k s s' h hi hk ha
    have hi' := hasB_iff.1 hi
    have hk' := hasB_iff.1 hk
    rw [pre_eq hl hi'.1 hi'.2, pre_eq hm hk'.1 hk'.2] at ha
    obtain ⟨h1, h2, h3⟩ := locZ_iff.1 ha.1
    have := flat_back n ih s s' h3 (fun x hx => by have := kid_lt hl hi'.1 hi'.2 hx; omega) (fun y hy => by have := kid_lt hm hk'.1 hk'.2 hy; omega) ha.2
    exact ⟨(sm_kids hl hi hk).2 ⟨h1, h2, this.1⟩, this.2⟩
/-- As the reference has it. -/
noncomputable def rsm (l : List Nd) (i : Int) (m : List Nd) (k : Int) : Bool := decide ((pre l i).length = (pre m k).length) && ((pre l i).zip (pre m k)).all (fun p => locZ (ndAt l p.1) (ndAt m p.2))
theorem sm_rsm {l m : List Nd} (hl : Valid l) (hm : Valid m) {i k : Int} (hi : hasB l.length i = true) (hk : hasB m.length k = true) : sm l i m k = rsm l i m k := by
  rw [Bool.eq_iff_iff]
  simp only [rsm, Bool.and_eq_true, decide_eq_true_eq]
  constructor
  · intro h
    exact zip_all2 (p := fun x y => locZ (ndAt l x) (ndAt m y)) (sm_walks hl hm _ i k (Nat.le_refl _) hi hk h)
  · rintro ⟨h1, h2⟩
    have : All2 (WZ l m) (pre l i) (pre m k) := all2_zip (p := fun x y => locZ (ndAt l x) (ndAt m y)) h1 h2
    exact (walks_back hl hm _ i k [] [] (Nat.le_refl _) hi hk (by rw [List.append_nil, List.append_nil]; exact this)).1
end Go.Proofs.Ytmncmmdicpcgmaa.Ch
