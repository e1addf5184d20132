/- How an argument that is read as data is told by the kinds of the print: whole numbers, bools, strings, slices of these, structs' parts. Plain Lean over any program; no condition. -/
import Derived.Test.YtjnaebcdidilgaaWMore
import Derived.Test.YtjnaebcdidilgaaWShare
import Derived.Deep.Slices
import Derived.SizedLaws
import Derived.ChangeArms
namespace Go.Proofs.Ytjnaebcdidilgaa.Rd
open Go.RowKit Go.Proofs.YtjnaebcdidilgaaW.PrintWords
set_option linter.unusedVariables false

def Rd (P : Program) (T : TypeId) {α : Type} (d : Kd α) (wf : α → Prop) : Prop :=
  ∀ {H : Type} (enc : TypeId × Value → H) (w : World) (fuel : Nat) (cs : List Value) (x : DataW H × List MemPlace), DataW.trod enc P w 0 (fun _ => true) true fuel T cs = some x → (∀ n ∈ x.1.weights P T, n ≤ reachBytes) → ∃ y, d.K w y cs ∧ wf y
section
variable {P : Program} {T e : TypeId} {k : IntKind} {α : Type} {d : Kd α} {wf : α → Prop}
theorem Rd_int (ht : P.underlying T = some (.int k)) : Rd P T (Kd.int k) (fun n => (Lit.int k n).wf = true) := by
  intro H enc w fuel cs x h _
  obtain ⟨n, rfl, _, hn⟩ := DataW.trod_int ht h
  exact ⟨n, rfl, hn⟩
theorem Rd_bool (ht : P.underlying T = some .bool) : Rd P T Kd.bool (fun _ => True) := by
  intro H enc w fuel cs x h _
  obtain ⟨n, rfl, _⟩ := DataW.trod_bool ht h
  exact ⟨n, rfl, trivial⟩
theorem Rd_string (ht : P.underlying T = some .string) : Rd P T Kd.string (fun s => s.size ≤ 140737488351232) := by
  intro H enc w fuel cs x h hw
  obtain ⟨s, rfl, rfl, _⟩ := DataW.trod_string ht h
  have h1 := hw s.data.toList.length (by simp [DataW.weights])
  refine ⟨s, rfl, ?_⟩
  have h2 : reachBytes = 140737488351232 := by decide
  rw [h2] at h1
  simpa using h1
theorem weights_all {H : Type} {P : Program} {e : TypeId} : ∀ {l : List (DataW H)} {y : DataW H}, y ∈ l → ∀ n ∈ y.weights P e, n ∈ DataW.weightsAll P e l
  | a :: l, y, hy, n, hn => by
    simp only [DataW.weightsAll, List.mem_append]
    rcases List.mem_cons.1 hy with rfl | hy
    · exact Or.inl hn
    · exact Or.inr (weights_all hy n hn)
theorem Rd_slice (ht : P.underlying T = some (.slice e)) (hc : P.cellsOf e = d.sz) (h : Rd P e d wf) : Rd P T (Kd.slice e d) (fun xs => xs.length * P.bytesOf e ≤ 140737488351232 ∧ ∀ x ∈ xs, wf x) := by
  intro H enc w fuel cs x hx hw
  rcases Deep.open_slice ht hx with ⟨rfl, rfl⟩ | ⟨a, len, cap, m, n, D, Pl, rfl, _, hl, hm, hmm, rfl, hel⟩
  · exact ⟨[], ⟨none, 0, rfl, Nat.le_refl _, rfl, by simp, fun h => by simp at h⟩, by simp, by simp⟩
  · have hm' : m = cap := by simpa using hmm
    subst hm'
    have h2 : reachBytes = 140737488351232 := by decide
    have hws : ∀ n ∈ (DataW.slice ((List.range len).map D) ((List.range (m - len)).map fun j => D (len + j))).weights P T, n ≤ reachBytes := hw
    simp only [DataW.weights, ht] at hws
    have hsz := hws _ (List.mem_cons_self)
    rw [h2] at hsz
    simp only [List.length_map, List.length_range] at hsz
    have pick : ∀ i, i < len → ∃ y c, c.length = d.sz ∧ d.K w y c ∧ (∀ j u, c[j]? = some u → w.cell? (a.add (i * d.sz + j)) = some u) ∧ wf y := by
      intro i hi
      obtain ⟨cs', h1, h3⟩ := hel i (by omega)
      obtain ⟨_, hlen, hcell⟩ := World.cells?_some h1
      obtain ⟨y, hy, hyw⟩ := h enc w n cs' _ h3 (fun q hq => hws q (List.mem_cons_of_mem _ (List.mem_append_left _ (weights_all (y := D i) (by simp; exact ⟨i, hi, rfl⟩) q hq))))
      rw [hc] at hlen hcell
      refine ⟨y, cs', hlen, hy, fun j u hu => ?_, hyw⟩
      have hj : j < d.sz := by
        have := (List.getElem?_eq_some_iff.1 hu).1
        omega
      rw [← Addr.add_add, hcell j hj, hu]
    have hY : ∃ Y : Nat → Option α, ∀ i, i < len → ∃ y, Y i = some y ∧ ∃ c, c.length = d.sz ∧ d.K w y c ∧ (∀ j u, c[j]? = some u → w.cell? (a.add (i * d.sz + j)) = some u) ∧ wf y := by
      refine ⟨fun i => if hi : i < len then some (Classical.choose (pick i hi)) else none, fun i hi => ⟨_, dif_pos hi, Classical.choose_spec (pick i hi)⟩⟩
    obtain ⟨Y, hY⟩ := hY
    have hlen : ((List.range len).filterMap Y).length = len ∧ ∀ i, i < len → ((List.range len).filterMap Y)[i]? = Y i := by
      clear hsz hws hw hx hel pick hl hm
      induction len with
      | zero => exact ⟨rfl, fun i hi => by omega⟩
      | succ q ih =>
        obtain ⟨i1, i2⟩ := ih (by simp) (fun i hi => hY i (by omega))
        obtain ⟨y, hy, _⟩ := hY q (by omega)
        rw [List.range_succ, List.filterMap_append]
        simp only [List.filterMap_cons, hy, List.filterMap_nil]
        refine ⟨by simp [i1], fun i hi => ?_⟩
        by_cases hq : i < q
        · rw [List.getElem?_append_left (by omega), i2 i hq]
        · have : i = q := by omega
          subst this
          rw [List.getElem?_append_right (by omega), i1]
          simp [hy]
    obtain ⟨hl1, hl2⟩ := hlen
    have hmx : m ≤ 9223372036854775807 := by simpa [maxLen] using hm
    refine ⟨(List.range len).filterMap Y, ⟨some a, m, by rw [hl1], by rw [hl1]; exact hl, rfl, by rw [hl1]; omega, fun _ => ⟨a, rfl, fun j p hj => ?_⟩⟩, ?_, ?_⟩
    · have hjl : j < len := by
        have := (List.getElem?_eq_some_iff.1 hj).1
        omega
      obtain ⟨y, hy, c, c1, c2, c3, _⟩ := hY j hjl
      rw [hl2 j hjl, hy] at hj
      cases hj
      exact ⟨c, c1, c2, c3⟩
    · rw [hl1]
      exact Nat.le_trans (Nat.mul_le_mul_right _ (by omega)) hsz
    · intro z hz
      obtain ⟨j, hj⟩ := List.mem_iff_getElem?.1 hz
      have hjl : j < len := by
        have := (List.getElem?_eq_some_iff.1 hj).1
        omega
      obtain ⟨y, hy, c, c1, c2, c3, c4⟩ := hY j hjl
      rw [hl2 j hjl, hy] at hj
      cases hj
      exact c4
theorem struct_parts {fs : Array Field} {H : Type} {enc : TypeId × Value → H} {w : World} {fuel : Nat} {cs : List Value} {x : DataW H × List MemPlace} (ht : P.underlying T = some (.struct fs)) (h : DataW.trod enc P w 0 (fun _ => true) true fuel T cs = some x) (hw : ∀ n ∈ x.1.weights P T, n ≤ reachBytes) :
    cs.length = P.cellsOf T ∧ ∀ (i : Nat) (f : Field), fs[i]? = some f → ∃ (n : Nat) (y : DataW H × List MemPlace), DataW.trod enc P w 0 (fun _ => true) true n f.type ((cs.drop f.offset).take (P.cellsOf f.type)) = some y ∧ ∀ q ∈ y.1.weights P f.type, q ≤ reachBytes := by
  obtain ⟨xs, n, rfl, rfl, hl, hlen, hf⟩ := DataW.trod_struct ht h
  refine ⟨hl, fun i f hfi => ?_⟩
  have hi : i < xs.length := by
    have := (Array.getElem?_eq_some_iff.1 hfi).1
    omega
  have h1 := hf i f hfi
  rw [List.getElem?_eq_getElem hi] at h1
  refine ⟨n, xs[i], h1, fun q hq => hw q ?_⟩
  show q ∈ (DataW.agg (xs.map (·.1))).weights P T
  simp only [DataW.weights, ht]
  refine DataW.weights_mem_each (j := i) (t := f.type) (d := xs[i].1) ?_ ?_ q hq
  · rw [List.getElem?_map, Array.getElem?_toList, hfi]; rfl
  · rw [List.getElem?_map, List.getElem?_eq_getElem hi]; rfl
theorem len1 {α : Type} {l : List α} (h : l.length = 1) : ∃ a, l = [a] := by match l, h with | [a], _ => exact ⟨a, rfl⟩
theorem len2 {α : Type} {l : List α} (h : l.length = 2) : ∃ a b, l = [a, b] := by match l, h with | [a, b], _ => exact ⟨a, b, rfl⟩
theorem len3 {α : Type} {l : List α} (h : l.length = 3) : ∃ a b c, l = [a, b, c] := by match l, h with | [a, b, c], _ => exact ⟨a, b, c, rfl⟩
theorem len4 {α : Type} {l : List α} (h : l.length = 4) : ∃ a b c d, l = [a, b, c, d] := by match l, h with | [a, b, c, d], _ => exact ⟨a, b, c, d, rfl⟩
theorem len5 {α : Type} {l : List α} (h : l.length = 5) : ∃ a b c d e, l = [a, b, c, d, e] := by match l, h with | [a, b, c, d, e], _ => exact ⟨a, b, c, d, e, rfl⟩
theorem len6 {α : Type} {l : List α} (h : l.length = 6) : ∃ a b c d e f, l = [a, b, c, d, e, f] := by match l, h with | [a, b, c, d, e, f], _ => exact ⟨a, b, c, d, e, f, rfl⟩
theorem len7 {α : Type} {l : List α} (h : l.length = 7) : ∃ a b c d e f g, l = [a, b, c, d, e, f, g] := by match l, h with | [a, b, c, d, e, f, g], _ => exact ⟨a, b, c, d, e, f, g, rfl⟩
theorem len8 {α : Type} {l : List α} (h : l.length = 8) : ∃ a b c d e f g i, l = [a, b, c, d, e, f, g, i] := by match l, h with | [a, b, c, d, e, f, g, i], _ => exact ⟨a, b, c, d, e, f, g, i, rfl⟩
end
end Go.Proofs.Ytjnaebcdidilgaa.Rd
