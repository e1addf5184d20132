/- Chapter 3 (tree): trees as lists of nodes: what a node is made of, how much, how deep: plain Lean. No condition. -/
import Derived.Test.YtmncmmdicpcgmaaTD
namespace Go.Proofs.Ytmncmmdicpcgmaa.Ch
open Go Go.Proofs Go.Proofs.Ytmncmmdicpcgmaa.Sx
set_option linter.unusedVariables false
set_option linter.unusedSimpArgs false

/-- Nodes each of which is made of ones ahead of it. -/
def Valid (l : List Nd) : Prop := ∀ j (h : j < l.length), goodB l[j] j = true
noncomputable def treeOf (l : List Nd) : List Rw := l.foldl (fun rows n => rows ++ [mkRow rows n]) []
theorem treeOf_snoc (l : List Nd) (n : Nd) : treeOf (l ++ [n]) = treeOf l ++ [mkRow (treeOf l) n] := by simp [treeOf, List.foldl_append]
theorem snoc_ind {α : Type} {p : List α → Prop} (h0 : p []) (h1 : ∀ l a, p l → p (l ++ [a])) : ∀ l, p l := by
  intro l
  rw [← List.reverse_reverse l]
  induction l.reverse with
  | nil => exact h0
  | cons a r ih => rw [List.reverse_cons]; exact h1 _ _ ih
theorem treeOf_len : ∀ l : List Nd, (treeOf l).length = l.length := by
  refine snoc_ind rfl (fun l a ih => ?_)
  rw [treeOf_snoc, List.length_append, List.length_append, ih]; rfl
theorem valid_snoc {l : List Nd} {n : Nd} (h : Valid (l ++ [n])) : Valid l ∧ goodB n l.length = true := by
  refine ⟨fun j hj => ?_, ?_⟩
  · have := h j (by rw [List.length_append]; omega)
    rwa [List.getElem_append_left hj] at this
  · have := h l.length (by simp)
    simpa using this
theorem valid_put {l : List Nd} {n : Nd} (h : Valid l) (hn : goodB n l.length = true) : Valid (l ++ [n]) := by
  intro j hj
  by_cases hl : j < l.length
  · rw [List.getElem_append_left hl]; exact h j hl
  · have : j = l.length := by simp at hj; omega
    subst this
    simpa using hn
noncomputable def ndAt (l : List Nd) (k : Int) : Nd := l.getD (k - 1).toNat tN.dft
def part (k : Int) : Bool := decide (0 < k)
/-- A node and all that it is made of, each ahead of its parts. -/
noncomputable def preF : Nat → List Nd → Int → List Int
  | 0, _, _ => []
  | f + 1, l, i => i :: ((kidsOf (ndAt l i)).filter part).flatMap (preF f l)
noncomputable def pre (l : List Nd) (i : Int) : List Int := preF i.toNat l i
theorem kid_lt {l : List Nd} (hv : Valid l) {i : Int} (h1 : 1 ≤ i) (h2 : i ≤ l.length) {k : Int} (hk : k ∈ kidsOf (ndAt l i)) : 0 ≤ k ∧ k < i := by
  have hl : (i - 1).toNat < l.length := by omega
  unfold ndAt at hk
  rw [getD_at hl] at hk
  have := good_kids (hv _ hl) hk
  omega
theorem preF_eq {l : List Nd} (hv : Valid l) : ∀ (f : Nat) (i : Int), 1 ≤ i → i ≤ l.length → i.toNat ≤ f → preF f l i = pre l i := by
  have key : ∀ (m f f' : Nat) (i : Int), 1 ≤ i → i ≤ l.length → i.toNat ≤ m → i.toNat ≤ f → i.toNat ≤ f' → preF f l i = preF f' l i := by
    intro m
    induction m with
    | zero => intro f f' i h1 _ h; omega
    | succ m ih =>
      intro f f' i h1 h2 h3 h4 h5
      cases f with
      | zero => omega
      | succ f =>
        cases f' with
        | zero => omega
        | succ f' =>
          simp only [preF]
          congr 1
          rw [List.flatMap_def, List.flatMap_def]
          congr 1
          apply List.map_congr_left
          intro k hk
          simp only [List.mem_filter, part, decide_eq_true_eq] at hk
          have := kid_lt hv h1 h2 hk.1
          exact ih f f' k (by omega) (by omega) (by omega) (by omega) (by omega)
  intro f i h1 h2 h3
  exact key i.toNat f i.toNat i h1 h2 (Nat.le_refl _) h3 (Nat.le_refl _)
theorem pre_eq {l : List Nd} (hv : Valid l) {i : Int} (h1 : 1 ≤ i) (h2 : i ≤ l.length) : pre l i = i :: ((kidsOf (ndAt l i)).filter part).flatMap (pre l) := by
  have e : i.toNat = (i.toNat - 1) + 1 := by omega
  unfold pre
  rw [e]
  simp only [preF]
  congr 1
  rw [List.flatMap_def, List.flatMap_def]
  congr 1
  apply List.map_congr_left
  intro k hk
  simp only [List.mem_filter, part, decide_eq_true_eq] at hk
  have := kid_lt hv h1 h2 hk.1
  rw [preF_eq hv _ k (by omega) (by omega) (by omega)]
  rfl
theorem getD_app {α : Type} {l r : List α} {i : Nat} (d : α) (h : i < l.length) : (l ++ r).getD i d = l.getD i d := by
  rw [getD_at (by rw [List.length_append]; omega), getD_at h, List.getElem_append_left h]
theorem ndAt_snoc {l : List Nd} {n : Nd} {k : Int} (h1 : 1 ≤ k) (h2 : k ≤ l.length) : ndAt (l ++ [n]) k = ndAt l k := by
  have hl : (k - 1).toNat < l.length := by omega
  unfold ndAt
  rw [getD_app _ hl]
theorem pre_snoc {l : List Nd} {n : Nd} (hv : Valid (l ++ [n])) : ∀ (m : Nat) (k : Int), k.toNat ≤ m → 1 ≤ k → k ≤ l.length → pre (l ++ [n]) k = pre l k := by
  intro m
  induction m with
  | zero => intro k h0 h1; omega
  | succ m ih =>
    intro k h0 h1 h2
    have hv' := (valid_snoc hv).1
    rw [pre_eq hv h1 (by rw [List.length_append]; omega), pre_eq hv' h1 h2, ndAt_snoc h1 h2]
    congr 1
    rw [List.flatMap_def, List.flatMap_def]
    congr 1
    apply List.map_congr_left
    intro q hq
    simp only [List.mem_filter, part, decide_eq_true_eq] at hq
    have := kid_lt hv' h1 h2 hq.1
    exact ih q (by omega) (by omega) (by omega)
theorem pre_mem {l : List Nd} (hv : Valid l) : ∀ (m : Nat) (i : Int), i.toNat ≤ m → 1 ≤ i → i ≤ l.length → ∀ k ∈ pre l i, 1 ≤ k ∧ k ≤ i := by
  intro m
  induction m with
  | zero => intro i h0 h1; omega
  | succ m ih =>
    intro i h0 h1 h2 k hk
    rw [pre_eq hv h1 h2] at hk
    rcases List.mem_cons.1 hk with rfl | hk
    · omega
    · obtain ⟨q, hq, hkq⟩ := List.mem_flatMap.1 hk
      simp only [List.mem_filter, part, decide_eq_true_eq] at hq
      have := kid_lt hv h1 h2 hq.1
      have := ih q (by omega) (by omega) (by omega) k hkq
      omega
/-- How many nodes a node is made of. -/
noncomputable def cnt (l : List Nd) (k : Int) : Nat := (pre l k).length
/-- How deep it is. -/
noncomputable def depF : Nat → List Nd → Int → Int
  | 0, _, _ => 0
  | f + 1, l, i => (kidsOf (ndAt l i)).foldl (fun d k => if k = 0 then d else mx2 d (depF f l k + 1)) 1
noncomputable def dep (l : List Nd) (i : Int) : Int := depF i.toNat l i
theorem foldl_congr {α β : Type} {f g : β → α → β} : ∀ (ks : List α) (d : β), (∀ k ∈ ks, ∀ d, f d k = g d k) → ks.foldl f d = ks.foldl g d
  | [], d, _ => rfl
  | k :: r, d, h => by simp only [List.foldl_cons]; rw [h k (by simp) d]; exact foldl_congr r _ (fun q hq => h q (by simp [hq]))
theorem depF_eq {l : List Nd} (hv : Valid l) : ∀ (m f f' : Nat) (i : Int), 1 ≤ i → i ≤ l.length → i.toNat ≤ m → i.toNat ≤ f → i.toNat ≤ f' → depF f l i = depF f' l i := by
  intro m
  induction m with
  | zero => intro f f' i h1 _ h; omega
  | succ m ih =>
    intro f f' i h1 h2 h3 h4 h5
    cases f with
    | zero => omega
    | succ f =>
      cases f' with
      | zero => omega
      | succ f' =>
        simp only [depF]
        refine foldl_congr _ _ (fun k hk d => ?_)
        by_cases h0 : k = 0
        · rw [if_pos h0, if_pos h0]
        · have := kid_lt hv h1 h2 hk
          rw [if_neg h0, if_neg h0, ih f f' k (by omega) (by omega) (by omega) (by omega) (by omega)]
theorem dep_eq {l : List Nd} (hv : Valid l) {i : Int} (h1 : 1 ≤ i) (h2 : i ≤ l.length) : dep l i = (kidsOf (ndAt l i)).foldl (fun d k => if k = 0 then d else mx2 d (dep l k + 1)) 1 := by
  have e : i.toNat = (i.toNat - 1) + 1 := by omega
  unfold dep
  rw [e]
  simp only [depF]
  refine foldl_congr _ _ (fun k hk d => ?_)
  by_cases h0 : k = 0
  · rw [if_pos h0, if_pos h0]
  · have := kid_lt hv h1 h2 hk
    rw [if_neg h0, if_neg h0, depF_eq hv k.toNat _ k.toNat k (by omega) (by omega) (Nat.le_refl _) (by omega) (Nat.le_refl _)]
theorem dep_snoc {l : List Nd} {n : Nd} (hv : Valid (l ++ [n])) : ∀ (m : Nat) (k : Int), k.toNat ≤ m → 1 ≤ k → k ≤ l.length → dep (l ++ [n]) k = dep l k := by
  intro m
  induction m with
  | zero => intro k h0 h1; omega
  | succ m ih =>
    intro k h0 h1 h2
    have hv' := (valid_snoc hv).1
    rw [dep_eq hv h1 (by rw [List.length_append]; omega), dep_eq hv' h1 h2, ndAt_snoc h1 h2]
    refine foldl_congr _ _ (fun q hq d => ?_)
    by_cases h0 : q = 0
    · rw [if_pos h0, if_pos h0]
    · have := kid_lt hv' h1 h2 hq
      rw [if_neg h0, if_neg h0, ih q (by omega) (by omega) (by omega)]
/-- Sums that are cut at a number. -/
theorem sum_cut {l : List Nd} (M : Int) (hM : 1 ≤ M) (g : Int → Int) : ∀ (ks : List Int) (c : Nat), (∀ k ∈ ks, 0 < k → g k = min (cnt l k : Int) M) → (∀ k ∈ ks, 0 ≤ k) → ∀ ci : Int, ci = min (c : Int) M →
    ks.foldl (fun c k => if k = 0 then c else min (c + g k) M) ci = min ((c + ((ks.filter part).flatMap (pre l)).length : Nat) : Int) M
  | [], c, _, _, ci, h => by simpa using h
  | k :: r, c, hg, h0, ci, h => by
    simp only [List.foldl_cons]
    by_cases hk : k = 0
    · subst hk
      rw [if_pos rfl, sum_cut M hM g r c (fun q hq => hg q (by simp [hq])) (fun q hq => h0 q (by simp [hq])) ci h]
      simp [part]
    · have hp : 0 < k := by have := h0 k (by simp); omega
      rw [if_neg hk, sum_cut M hM g r (c + cnt l k) (fun q hq => hg q (by simp [hq])) (fun q hq => h0 q (by simp [hq]))]
      · rw [List.filter_cons, if_pos (by simp [part, hp]), List.flatMap_cons, List.length_append, show (pre l k).length = cnt l k from rfl]
        congr 2; omega
      · rw [h, hg k (by simp) hp]
        omega
theorem mn2_min (x y : Int) : mn2 x y = min x y := by unfold mn2; split <;> omega
/-- The rows of a tree: each node, what is counted of it, how deep it is. -/
theorem treeOf_at : ∀ {l : List Nd}, Valid l → l.length ≤ 65536 → ∀ k : Int, 1 ≤ k → k ≤ l.length → rowAt (treeOf l) k = (ndAt l k, min (cnt l k : Int) 65537, dep l k) := by
  intro l
  refine snoc_ind (p := fun l => Valid l → l.length ≤ 65536 → ∀ k : Int, 1 ≤ k → k ≤ l.length → rowAt (treeOf l) k = (ndAt l k, min (cnt l k : Int) 65537, dep l k)) (fun _ _ k h1 h2 => by simp only [List.length_nil] at h2; omega) (fun l n ih hv hl k h1 h2 => ?_) l
  obtain ⟨hv', hn⟩ := valid_snoc hv
  rw [List.length_append] at hl h2
  simp only [List.length_cons, List.length_nil] at hl h2
  have e : IntKind.i64.wrap (k - 1) = k - 1 := w64 (by omega) (by omega)
  have htl := treeOf_len l
  by_cases hk : k ≤ l.length
  · have := ih hv' (by omega) k h1 hk
    unfold rowAt at this ⊢
    rw [e] at this ⊢
    rw [treeOf_snoc, getD_app _ (show (k - 1).toNat < (treeOf l).length by omega), this, ndAt_snoc h1 hk, dep_snoc hv k.toNat k (Nat.le_refl _) h1 hk]
    unfold cnt
    rw [pre_snoc hv k.toNat k (Nat.le_refl _) h1 hk]
  · have hkl : k = l.length + 1 := by omega
    have hnd : ndAt (l ++ [n]) k = n := by
      unfold ndAt
      rw [hkl, show ((l.length : Int) + 1 - 1).toNat = l.length by omega]
      simp
    have hrow : rowAt (treeOf (l ++ [n])) k = mkRow (treeOf l) n := by
      unfold rowAt
      rw [e, treeOf_snoc, hkl, show ((l.length : Int) + 1 - 1).toNat = (treeOf l).length by omega]
      simp
    rw [hrow]
    have hkid : ∀ q ∈ kidsOf n, 0 ≤ q ∧ q ≤ l.length := fun q hq => good_kids hn hq
    unfold mkRow
    refine Prod.ext hnd.symm (Prod.ext ?_ ?_)
    · have h3 := sum_cut (l := l ++ [n]) 65537 (by omega) (fun q => (rowAt (treeOf l) q).2.1) (kidsOf n) 1 (fun q hq hp => by
        have := hkid q hq
        rw [ih hv' (by omega) q (by omega) this.2]
        unfold cnt
        rw [pre_snoc hv q.toNat q (Nat.le_refl _) (by omega) this.2]) (fun q hq => (hkid q hq).1) 1 (by omega)
      have h4 : (kidsOf n).foldl (addCnt (treeOf l)) 1 = (kidsOf n).foldl (fun c k => if k = 0 then c else min (c + (rowAt (treeOf l) k).2.1) 65537) 1 :=
        foldl_congr _ _ (fun q hq d => by unfold addCnt; rw [mn2_min])
      show (kidsOf n).foldl (addCnt (treeOf l)) 1 = min (cnt (l ++ [n]) k : Int) 65537
      rw [h4, h3]
      unfold cnt
      rw [pre_eq hv h1 (by rw [List.length_append]; simp; omega), hnd, List.length_cons]
      congr 2; omega
    · show (kidsOf n).foldl (addDep (treeOf l)) 1 = dep (l ++ [n]) k
      rw [dep_eq hv h1 (by rw [List.length_append]; simp; omega), hnd]
      refine foldl_congr _ _ (fun q hq d => ?_)
      unfold addDep
      by_cases h0 : q = 0
      · rw [if_pos h0, if_pos h0]
      · have := hkid q hq
        rw [if_neg h0, if_neg h0, ih hv' (by omega) q (by omega) this.2, dep_snoc hv q.toNat q (Nat.le_refl _) (by omega) this.2]
theorem dep_le {l : List Nd} (hv : Valid l) : ∀ (m : Nat) (k : Int), k.toNat ≤ m → 1 ≤ k → k ≤ l.length → 1 ≤ dep l k ∧ dep l k ≤ k := by
  intro m
  induction m with
  | zero => intro k h0 h1; omega
  | succ m ih =>
    intro k h0 h1 h2
    rw [dep_eq hv h1 h2]
    have key : ∀ (ks : List Int) (d : Int), (∀ q ∈ ks, 0 ≤ q ∧ q < k) → 1 ≤ d ∧ d ≤ k → 1 ≤ ks.foldl (fun d k => if k = 0 then d else mx2 d (dep l k + 1)) d ∧ ks.foldl (fun d k => if k = 0 then d else mx2 d (dep l k + 1)) d ≤ k := by
      intro ks
      induction ks with
      | nil => intro d _ h; exact h
      | cons q r ihr =>
        intro d hq h
        refine ihr _ (fun x hx => hq x (by simp [hx])) ?_
        have h3 := hq q (by simp)
        show 1 ≤ (if q = 0 then d else mx2 d (dep l q + 1)) ∧ (if q = 0 then d else mx2 d (dep l q + 1)) ≤ k
        split
        · exact h
        · rename_i h0'
          have := ih q (by omega) (by omega) (by omega)
          unfold mx2
          split <;> omega
    exact key _ _ (fun q hq => kid_lt hv h1 h2 hq) (by omega)
theorem treeOf_ok {l : List Nd} (hv : Valid l) (hl : l.length ≤ 65536) : RowsOk (treeOf l) := by
  intro r hr
  obtain ⟨j, hj, rfl⟩ := List.mem_iff_getElem.1 hr
  rw [treeOf_len] at hj
  have h1 := treeOf_at hv hl ((j : Int) + 1) (by omega) (by omega)
  have e : IntKind.i64.wrap ((j : Int) + 1 - 1) = (j : Int) := by rw [w64 (by omega) (by omega)]; omega
  unfold rowAt at h1
  rw [e, Int.toNat_natCast, getD_at (by rw [treeOf_len]; exact hj)] at h1
  rw [h1]
  have := dep_le hv _ ((j : Int) + 1) (Nat.le_refl _) (by omega) (by omega)
  dsimp only
  omega
end Go.Proofs.Ytmncmmdicpcgmaa.Ch
