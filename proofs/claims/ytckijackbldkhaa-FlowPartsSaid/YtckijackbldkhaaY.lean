/- Chapter 19 (flow): plain: ways of blocks, ways of instructions; what depth first leaves. No condition. -/
import Derived.Test.YtckijackbldkhaaX
namespace Go.Proofs.Ytckijackbldkhaa.Ch
open Go Go.Proofs Go.Proofs.Ytckijackbldkhaa.Sx
set_option linter.unusedVariables false
set_option linter.unusedSimpArgs false

section
variable {p : Pro}
theorem blk_of {p : Pro} : ∀ pc, pc < p.code.length → ∃ j, j < (b1V p p.code.length).1.length ∧ fromB (b1V p p.code.length).1 j ≤ pc ∧ (pc : Int) < toB (b1V p p.code.length).1 j
  | 0, h => by
    have hT := b1_t p _ (Nat.le_refl _)
    have hB := b1_inv p _ (Nat.le_refl _)
    have hp := hB.lb.2 h
    refine ⟨0, hp, by rw [hT.f0 h]; exact Int.le_refl _, ?_⟩
    have := hT.lt 0 hp
    rw [hT.f0 h] at this
    exact this.2.1
  | pc + 1, h => by
    have hT := b1_t p _ (Nat.le_refl _)
    have hpc : pc < p.code.length := by omega
    obtain ⟨j, h1, h2, h3⟩ := blk_of (p := p) pc hpc
    by_cases e : ((pc + 1 : Nat) : Int) < toB (b1V p p.code.length).1 j
    · exact ⟨j, h1, by omega, e⟩
    · by_cases ej : j + 1 < (b1V p p.code.length).1.length
      · have h4 := hT.ft j ej
        have h5 := hT.lt (j + 1) ej
        exact ⟨j + 1, ej, by rw [← h4]; omega, by rw [← h4] at h5; omega⟩
      · have h4 := hT.fl (by omega)
        rw [show (b1V p p.code.length).1.length - 1 = j by omega] at h4
        omega
theorem last_to {j : Nat} : lastV p j = toB (b1V p p.code.length).1 j - 1 := rfl
theorem next_in_blk (hp : smallP p) (hg : goodV p = true) {j : Nat} (hj : j < (b1V p p.code.length).1.length) {pc : Nat} (h1 : fromB (b1V p p.code.length).1 j ≤ pc) (h2 : (pc : Int) + 1 < toB (b1V p p.code.length).1 j) : nextC p pc = [((pc + 1 : Nat) : Int)] := by
  have hT := b1_t p _ (Nat.le_refl _)
  have hto := (hT.lt j hj).2.2
  have hb := (hT.bg j hj).2 (pc + 1) (by omega) (by omega)
  refine next_plain hp (by omega) ?_
  cases hpp : partsV (p.code.getD pc tIns.dft) with
  | false => rfl
  | true => rw [(beg_parts hg (by omega) hpp).1] at hb; cases hb
theorem nexL_is {j : Nat} (hj : j < (b1V p p.code.length).1.length) : nexL p j = nextC p (lastV p j).toNat := by
  unfold nexL nextC
  have := last_ok hj
  rw [show (((lastV p j).toNat : Nat) : Int) = lastV p j by omega]
theorem last_in {j : Nat} (hj : j < (b1V p p.code.length).1.length) : fromB (b1V p p.code.length).1 j ≤ lastV p j ∧ lastV p j < toB (b1V p p.code.length).1 j := by
  have := (b1_t p _ (Nat.le_refl _)).lt j hj
  rw [last_to]; omega
/-- What a block goes on with begins a block. -/
theorem nexL_beg (hp : smallP p) (hg : goodV p = true) {j : Nat} (hj : j < (b1V p p.code.length).1.length) {k : Int} (hk : k ∈ nexL p j) : ∃ t, t < (b1V p p.code.length).1.length ∧ (b1V p p.code.length).2.getD k.toNat 0 = (t : Int) ∧ fromB (b1V p p.code.length).1 t = k := by
  have hT := b1_t p _ (Nat.le_refl _)
  have hin := nexL_in hg hj k hk
  obtain ⟨l1, l2, l3⟩ := last_ok hj
  have hb : (begV p).getD k.toNat false = true := by
    cases hpp : partsV (p.code.getD (lastV p j).toNat tIns.dft) with
    | true =>
      rw [nexL_is hj] at hk
      exact (beg_parts hg l2 hpp).2 k hk
    | false =>
      rw [nexL_is hj, next_plain hp l2 hpp] at hk
      have hk' : k = (((lastV p j).toNat + 1 : Nat) : Int) := by simpa using hk
      have hkt : k = toB (b1V p p.code.length).1 j := by rw [hk']; have := @last_to p j; omega
      have hj1 : j + 1 < (b1V p p.code.length).1.length := by
        rcases Nat.lt_or_ge (j + 1) (b1V p p.code.length).1.length with h | h
        · exact h
        · have h4 := hT.fl (by omega)
          rw [show (b1V p p.code.length).1.length - 1 = j by omega] at h4
          omega
      have := (hT.bg (j + 1) hj1).1
      rw [← hT.ft j hj1, ← hkt] at this
      exact this
  have hkn0 : k.toNat < p.code.length := by omega
  obtain ⟨t, t1, t2, t3⟩ := blk_of (p := p) k.toNat hkn0
  have hkn : ((k.toNat : Nat) : Int) = k := by omega
  refine ⟨t, t1, hT.ha t t1 k.toNat t2 t3, ?_⟩
  by_cases e : fromB (b1V p p.code.length).1 t = k
  · exact e
  · have := (hT.bg t t1).2 k.toNat (by omega) t3
    rw [hb] at this; cases this
theorem rch_blk (hp : smallP p) (hg : goodV p = true) : ∀ pc, Rch (nextC p) 0 pc → pc < p.code.length ∧ Rch (sucV p) 0 ((b1V p p.code.length).2.getD pc 0).toNat := by
  have hT := b1_t p _ (Nat.le_refl _)
  have hpos := good_pos hg
  intro pc h
  induction h with
  | base =>
    have hB := (b1_inv p _ (Nat.le_refl _)).lb.2 hpos
    have h0 := hT.lt 0 hB
    rw [hT.f0 hpos] at h0
    have : (b1V p p.code.length).2.getD 0 0 = ((0 : Nat) : Int) := hT.ha 0 hB 0 (by rw [hT.f0 hpos]; exact Int.le_refl _) h0.2.1
    rw [this]
    exact ⟨hpos, .base⟩
  | step h1 hk ih =>
    rename_i pc k
    obtain ⟨i1, i2⟩ := ih
    have hin := next_inR hg i1 k hk
    obtain ⟨j, j1, j2, j3⟩ := blk_of pc i1
    rw [hT.ha j j1 pc j2 j3, Int.toNat_natCast] at i2
    refine ⟨by omega, ?_⟩
    by_cases e : (pc : Int) + 1 < toB (b1V p p.code.length).1 j
    · rw [next_in_blk hp hg j1 j2 e] at hk
      have hk' : k = ((pc + 1 : Nat) : Int) := by simpa using hk
      subst hk'
      rw [Int.toNat_natCast, hT.ha j j1 (pc + 1) (by omega) (by omega), Int.toNat_natCast]
      exact i2
    · have hl : pc = (lastV p j).toNat := by rw [last_to]; omega
      have hk2 : k ∈ nexL p j := by rw [nexL_is j1, ← hl]; exact hk
      refine .step i2 (List.mem_map.2 ⟨k, hk2, rfl⟩)
theorem rch_ins (hp : smallP p) (hg : goodV p = true) : ∀ j, Rch (sucV p) 0 j → j < (b1V p p.code.length).1.length ∧ Rch (nextC p) 0 (fromB (b1V p p.code.length).1 j).toNat := by
  have hT := b1_t p _ (Nat.le_refl _)
  have hpos := good_pos hg
  intro j h
  induction h with
  | base =>
    refine ⟨(b1_inv p _ (Nat.le_refl _)).lb.2 hpos, ?_⟩
    rw [hT.f0 hpos]; exact .base
  | step h1 hk ih =>
    rename_i j t
    obtain ⟨i1, i2⟩ := ih
    obtain ⟨k, hk1, rfl⟩ := List.mem_map.1 hk
    obtain ⟨t, t1, t2, t3⟩ := nexL_beg hp hg i1 hk1
    rw [t2, Int.toNat_natCast]
    refine ⟨t1, ?_⟩
    rw [t3]
    have hlt := hT.lt j i1
    have walk : ∀ i : Nat, fromB (b1V p p.code.length).1 j + i < toB (b1V p p.code.length).1 j → Rch (nextC p) 0 ((fromB (b1V p p.code.length).1 j).toNat + i) := by
      intro i
      induction i with
      | zero => intro _; exact i2
      | succ i ih =>
        intro hi
        have h2 := ih (by omega)
        have h3 := next_in_blk hp hg i1 (pc := (fromB (b1V p p.code.length).1 j).toNat + i) (by omega) (by omega)
        have := Rch.step h2 (k := (((fromB (b1V p p.code.length).1 j).toNat + i + 1 : Nat) : Int)) (by rw [h3]; simp)
        rwa [Int.toNat_natCast] at this
    have hl := last_in i1
    have h4 := walk (lastV p j - fromB (b1V p p.code.length).1 j).toNat (by omega)
    rw [show (fromB (b1V p p.code.length).1 j).toNat + (lastV p j - fromB (b1V p p.code.length).1 j).toNat = (lastV p j).toNat by omega] at h4
    exact .step h4 (by rw [← nexL_is i1]; exact hk1)
theorem prevs_mem (hg : goodV p = true) {b : Nat} (hb : b < (b1V p p.code.length).1.length) {t : Int} (ht : t ∈ sucV p b) : (b : Int) ∈ prevs p (b1V p p.code.length).1.length t.toNat := by
  unfold prevs
  rw [List.mem_flatMap]
  refine ⟨b, List.mem_range.2 hb, List.mem_map.2 ⟨t, List.mem_filter.2 ⟨ht, by simp⟩, rfl⟩⟩
theorem mem_prevs {n j : Nat} {c : Int} (h : c ∈ prevs p n j) : 0 ≤ c ∧ c < (n : Int) ∧ ∃ t ∈ sucV p c.toNat, t.toNat = j := by
  unfold prevs at h
  rw [List.mem_flatMap] at h
  obtain ⟨i, hi, hc⟩ := h
  obtain ⟨t, ht, rfl⟩ := List.mem_map.1 hc
  obtain ⟨h1, h2⟩ := List.mem_filter.1 ht
  have := List.mem_range.1 hi
  exact ⟨by omega, by omega, t, by rw [Int.toNat_natCast]; exact h1, by simpa using h2⟩
end
/-! ### what depth first leaves -/
theorem getD_app {α : Type} {a b : List α} {d : α} (i : Nat) : (a ++ b).getD i d = if i < a.length then a.getD i d else b.getD (i - a.length) d := by
  simp only [List.getD_eq_getElem?_getD, List.getElem?_append]
  split <;> rfl
structure InvD (bl : List Blk) (x : Dfs) : Prop where
  nd : (x.2.1 ++ x.2.2.map Prod.fst).Nodup
  nn : ∀ b ∈ x.2.1 ++ x.2.2.map Prod.fst, 0 ≤ b ∧ x.1.getD b.toNat false = true ∧ Rch (fun j => nxt bl (j : Int)) 0 b.toNat
  sn : ∀ j : Nat, x.1.getD j false = true → (j : Int) ∈ x.2.1 ++ x.2.2.map Prod.fst
  s0 : x.2.2 ≠ [] → (x.2.2.getD 0 (0, 0)).1 = 0
  ch : ∀ i, i + 1 < x.2.2.length → (x.2.2.getD (i + 1) (0, 0)).1 ∈ nxt bl (x.2.2.getD i (0, 0)).1
  pr : ∀ i, i < x.2.1.length → (∃ j, i < j ∧ j < x.2.1.length ∧ x.2.1.getD i 0 ∈ nxt bl (x.2.1.getD j 0)) ∨ (∃ w ∈ x.2.2, x.2.1.getD i 0 ∈ nxt bl w.1) ∨ (x.2.2 = [] ∧ i + 1 = x.2.1.length ∧ x.2.1.getD i 0 = 0)
  cl : ∀ b ∈ x.2.1, ∀ t ∈ nxt bl b, x.1.getD t.toNat false = true
  cw : ∀ w ∈ x.2.2, ∀ i, i < w.2.toNat → x.1.getD ((nxt bl w.1).getD i 0).toNat false = true
  rt : x.1.getD 0 false = true
theorem invD_pop {bl : List Blk} {s : List Bool} {l : List Int} {pre : List (Int × Int)} {w : Int × Int} (h : InvD bl (s, l, pre ++ [w])) (hw : w.2 = ((nxt bl w.1).length : Int)) : InvD bl (s, l ++ [w.1], pre) := by
  have hmap : l ++ (pre ++ [w]).map Prod.fst = l ++ (pre.map Prod.fst ++ [w.1]) := by simp
  have hperm : (l ++ [w.1] ++ pre.map Prod.fst).Perm (l ++ (pre ++ [w]).map Prod.fst) := by
    rw [hmap, List.append_assoc]
    exact List.Perm.append_left _ List.perm_append_comm
  have hm : ∀ b, b ∈ l ++ [w.1] ++ pre.map Prod.fst ↔ b ∈ l ++ (pre ++ [w]).map Prod.fst := fun b => hperm.mem_iff
  refine ⟨hperm.nodup_iff.2 h.nd, fun b hb => h.nn b ((hm b).1 hb), fun j hj => (hm _).2 (h.sn j hj), fun hne => ?_, fun i hi => ?_, fun i hi => ?_, fun b hb t ht => ?_, fun v hv => h.cw v (by simp [hv]), h.rt⟩
  · have := h.s0 (by simp)
    rw [getD_app] at this
    have hp : 0 < pre.length := List.length_pos_iff.2 hne
    rwa [if_pos hp] at this
  · have hi : i + 1 < pre.length := hi
    have := h.ch i (by show i + 1 < (pre ++ [w]).length; rw [List.length_append]; omega)
    simp only [getD_app] at this
    rwa [if_pos hi, if_pos (by omega)] at this
  · have hi : i < (l ++ [w.1]).length := hi
    have hll : (l ++ [w.1]).length = l.length + 1 := by simp
    rw [hll] at hi
    show (∃ j, i < j ∧ j < (l ++ [w.1]).length ∧ (l ++ [w.1]).getD i 0 ∈ nxt bl ((l ++ [w.1]).getD j 0)) ∨ (∃ v ∈ pre, (l ++ [w.1]).getD i 0 ∈ nxt bl v.1) ∨ (pre = [] ∧ i + 1 = (l ++ [w.1]).length ∧ (l ++ [w.1]).getD i 0 = 0)
    rw [hll]
    have hlast : (l ++ [w.1]).getD l.length 0 = w.1 := by rw [getD_app, if_neg (Nat.lt_irrefl _), Nat.sub_self]; rfl
    by_cases e : i < l.length
    · have hgi : (l ++ [w.1]).getD i 0 = l.getD i 0 := by rw [getD_app, if_pos e]
      rw [hgi]
      rcases h.pr i e with ⟨j, j1, j2, j3⟩ | ⟨v, v1, v2⟩ | ⟨v1, _⟩
      · have j2 : j < l.length := j2
        exact .inl ⟨j, j1, by omega, by rw [getD_app, if_pos j2]; exact j3⟩
      · rcases List.mem_append.1 v1 with v1 | v1
        · exact .inr (.inl ⟨v, v1, v2⟩)
        · have : v = w := by simpa using v1
          subst this
          exact .inl ⟨l.length, e, by omega, by rw [hlast]; exact v2⟩
      · exact absurd v1 (by simp)
    · obtain rfl : i = l.length := by omega
      rw [hlast]
      rcases Nat.eq_zero_or_pos pre.length with h0 | h0
      · have hpe : pre = [] := List.length_eq_zero_iff.1 h0
        have := h.s0 (by simp)
        rw [hpe] at this
        exact .inr (.inr ⟨hpe, rfl, this⟩)
      · have := h.ch (pre.length - 1) (by show pre.length - 1 + 1 < (pre ++ [w]).length; rw [List.length_append]; show _ < pre.length + 1; omega)
        simp only [getD_app] at this
        rw [if_neg (show ¬ pre.length - 1 + 1 < pre.length by omega), if_pos (show pre.length - 1 < pre.length by omega), show pre.length - 1 + 1 - pre.length = 0 by omega] at this
        exact .inr (.inl ⟨_, getD_mem' (by omega), this⟩)
  · have hb : b ∈ l ++ [w.1] := hb
    rcases List.mem_append.1 hb with hb | hb
    · exact h.cl b hb t ht
    · have hb : b = w.1 := by simpa using hb
      subst hb
      obtain ⟨i, hi, rfl⟩ := mem_getD (d := (0 : Int)) ht
      exact h.cw w (by simp) i (by omega)
theorem invD_seen {bl : List Blk} {s : List Bool} {l : List Int} {pre : List (Int × Int)} {w : Int × Int} (h : InvD bl (s, l, pre ++ [w])) (h0 : 0 ≤ w.2) (hs : s.getD ((nxt bl w.1).getD w.2.toNat 0).toNat false = true) : InvD bl (s, l, pre ++ [(w.1, w.2 + 1)]) := by
  have hmap : (pre ++ [(w.1, w.2 + 1)]).map Prod.fst = (pre ++ [w]).map Prod.fst := by simp
  have hf : ∀ i, ((pre ++ [(w.1, w.2 + 1)]).getD i (0, 0)).1 = ((pre ++ [w]).getD i (0, 0)).1 := fun i => by
    rw [getD_app, getD_app]
    split
    · rfl
    · cases i - pre.length <;> rfl
  have hlen : (pre ++ [(w.1, w.2 + 1)]).length = (pre ++ [w]).length := by simp
  refine ⟨by show (l ++ (pre ++ [(w.1, w.2 + 1)]).map Prod.fst).Nodup; rw [hmap]; exact h.nd, ?_, ?_, fun _ => by show ((pre ++ [(w.1, w.2 + 1)]).getD 0 (0, 0)).1 = 0; rw [hf]; exact h.s0 (by simp), fun i hi => ?_, fun i hi => ?_, h.cl, fun v hv i hi => ?_, h.rt⟩
  · intro b hb
    have hb : b ∈ l ++ (pre ++ [(w.1, w.2 + 1)]).map Prod.fst := hb
    rw [hmap] at hb; exact h.nn b hb
  · intro j hj
    show (j : Int) ∈ l ++ (pre ++ [(w.1, w.2 + 1)]).map Prod.fst
    rw [hmap]; exact h.sn j hj
  · show ((pre ++ [(w.1, w.2 + 1)]).getD (i + 1) (0, 0)).1 ∈ nxt bl ((pre ++ [(w.1, w.2 + 1)]).getD i (0, 0)).1
    rw [hf, hf]
    exact h.ch i (by rw [← hlen]; exact hi)
  · rcases h.pr i hi with h1 | ⟨v, v1, v2⟩ | ⟨v1, _⟩
    · exact .inl h1
    · refine .inr (.inl ?_)
      rcases List.mem_append.1 v1 with v1 | v1
      · exact ⟨v, by simp [v1], v2⟩
      · have : v = w := by simpa using v1
        subst this
        exact ⟨(v.1, v.2 + 1), by simp, v2⟩
    · exact absurd v1 (by simp)
  · have hv : v ∈ pre ++ [(w.1, w.2 + 1)] := hv
    rcases List.mem_append.1 hv with hv | hv
    · exact h.cw v (by simp [hv]) i hi
    · have : v = (w.1, w.2 + 1) := by simpa using hv
      subst this
      have hi : i < (w.2 + 1).toNat := hi
      by_cases e : i = w.2.toNat
      · subst e; exact hs
      · exact h.cw w (by simp) i (by omega)
theorem invD_push {bl : List Blk} (hB : OkB bl) {s : List Bool} {l : List Int} {pre : List (Int × Int)} {w : Int × Int} (hO : InvO bl (s, l, pre ++ [w])) (h : InvD bl (s, l, pre ++ [w])) (hw : w.2 ≠ ((nxt bl w.1).length : Int)) (hs : s.getD ((nxt bl w.1).getD w.2.toNat 0).toNat false = false) :
    InvD bl (s.set ((nxt bl w.1).getD w.2.toNat 0).toNat true, l, pre ++ [(w.1, w.2 + 1)] ++ [((nxt bl w.1).getD w.2.toNat 0, 0)]) := by
  have h1 := hO.st w (by simp)
  have hlt : w.2.toNat < (nxt bl w.1).length := by have := h1.2.2; omega
  have hmem := getD_mem' (d := (0 : Int)) hlt
  have hk := (nxt_ok hB h1.1 h1.2.1).2 _ hmem
  have hrw := (h.nn w.1 (by simp)).2.2
  generalize hke : (nxt bl w.1).getD w.2.toNat 0 = k at hs hk hmem ⊢
  have hls : s.length = bl.length := hO.ls
  have hkl : k.toNat < s.length := by omega
  have hmono : ∀ j, s.getD j false = true → (s.set k.toNat true).getD j false = true := fun j hj => by
    rw [getD_set hkl]; split
    · rfl
    · exact hj
  have hsk : (s.set k.toNat true).getD k.toNat false = true := by rw [getD_set hkl, if_pos rfl]
  have hmap : (pre ++ [(w.1, w.2 + 1)] ++ [(k, (0 : Int))]).map Prod.fst = (pre ++ [w]).map Prod.fst ++ [k] := by simp
  have hm : l ++ (pre ++ [(w.1, w.2 + 1)] ++ [(k, (0 : Int))]).map Prod.fst = (l ++ (pre ++ [w]).map Prod.fst) ++ [k] := by rw [hmap, List.append_assoc]
  have hnot : k ∉ l ++ (pre ++ [w]).map Prod.fst := fun hkm => by
    have := (h.nn k hkm).2.1
    have hs : s.getD k.toNat false = false := hs
    rw [hs] at this; cases this
  have hf : ∀ i, i < (pre ++ [w]).length → ((pre ++ [(w.1, w.2 + 1)] ++ [(k, (0 : Int))]).getD i (0, 0)).1 = ((pre ++ [w]).getD i (0, 0)).1 := fun i hi => by
    have hi' : i < (pre ++ [(w.1, w.2 + 1)]).length := by simpa using hi
    rw [getD_app, if_pos hi', getD_app, getD_app]
    split
    · rfl
    · cases i - pre.length <;> rfl
  refine ⟨?_, ?_, ?_, fun _ => ?_, fun i hi => ?_, fun i hi => ?_, fun b hb t ht => hmono _ (h.cl b hb t ht), fun v hv i hi => ?_, hmono _ h.rt⟩
  · show (l ++ (pre ++ [(w.1, w.2 + 1)] ++ [(k, (0 : Int))]).map Prod.fst).Nodup
    rw [hm]
    refine List.nodup_append.2 ⟨h.nd, by simp, fun a ha b hb e => ?_⟩
    have : b = k := by simpa using hb
    subst this
    exact hnot (by rw [← e]; exact ha)
  · intro b hb
    have hb : b ∈ l ++ (pre ++ [(w.1, w.2 + 1)] ++ [(k, (0 : Int))]).map Prod.fst := hb
    rw [hm] at hb
    rcases List.mem_append.1 hb with hb | hb
    · have := h.nn b hb
      exact ⟨this.1, hmono _ this.2.1, this.2.2⟩
    · have : b = k := by simpa using hb
      subst this
      refine ⟨hk.1, hsk, .step hrw ?_⟩
      rw [show ((w.1.toNat : Nat) : Int) = w.1 by have := h1.1; omega]
      exact hmem
  · intro j hj
    show (j : Int) ∈ l ++ (pre ++ [(w.1, w.2 + 1)] ++ [(k, (0 : Int))]).map Prod.fst
    rw [hm]
    have hj : (s.set k.toNat true).getD j false = true := hj
    rw [getD_set hkl] at hj
    by_cases e : k.toNat = j
    · subst e; exact List.mem_append_right _ (by simp; omega)
    · rw [if_neg e] at hj
      exact List.mem_append_left _ (h.sn j hj)
  · show ((pre ++ [(w.1, w.2 + 1)] ++ [(k, (0 : Int))]).getD 0 (0, 0)).1 = 0
    rw [hf 0 (by simp)]
    exact h.s0 (by simp)
  · have hi : i + 1 < (pre ++ [(w.1, w.2 + 1)] ++ [(k, (0 : Int))]).length := hi
    have hll : (pre ++ [(w.1, w.2 + 1)] ++ [(k, (0 : Int))]).length = (pre ++ [w]).length + 1 := by simp
    rw [hll] at hi
    show ((pre ++ [(w.1, w.2 + 1)] ++ [(k, (0 : Int))]).getD (i + 1) (0, 0)).1 ∈ nxt bl ((pre ++ [(w.1, w.2 + 1)] ++ [(k, (0 : Int))]).getD i (0, 0)).1
    by_cases e : i + 1 < (pre ++ [w]).length
    · rw [hf _ e, hf i (by omega)]; exact h.ch i e
    · have ei : i + 1 = (pre ++ [w]).length := by omega
      have hpl : (pre ++ [w]).length = pre.length + 1 := by simp
      rw [hf i (by omega)]
      have e1 : ((pre ++ [(w.1, w.2 + 1)] ++ [(k, (0 : Int))]).getD (i + 1) (0, 0)).1 = k := by
        rw [getD_app, if_neg (by rw [ei]; simp), ei]
        simp
      have e2 : ((pre ++ [w]).getD i (0, 0)).1 = w.1 := by
        rw [getD_app, if_neg (by omega), show i - pre.length = 0 by omega]; rfl
      rw [e1, e2]; exact hmem
  · rcases h.pr i hi with h2 | ⟨v, v1, v2⟩ | ⟨v1, _⟩
    · exact .inl h2
    · refine .inr (.inl ?_)
      rcases List.mem_append.1 v1 with v1 | v1
      · exact ⟨v, by simp [v1], v2⟩
      · have : v = w := by simpa using v1
        subst this
        exact ⟨(v.1, v.2 + 1), by simp, v2⟩
    · exact absurd v1 (by simp)
  · have hv : v ∈ pre ++ [(w.1, w.2 + 1)] ++ [(k, (0 : Int))] := hv
    rcases List.mem_append.1 hv with hv | hv
    · rcases List.mem_append.1 hv with hv | hv
      · exact hmono _ (h.cw v (by simp [hv]) i hi)
      · have : v = (w.1, w.2 + 1) := by simpa using hv
        subst this
        have hi : i < (w.2 + 1).toNat := hi
        by_cases e : i = w.2.toNat
        · subst e
          show (s.set k.toNat true).getD ((nxt bl w.1).getD w.2.toNat 0).toNat false = true
          rw [hke]; exact hsk
        · exact hmono _ (h.cw w (by simp) i (by have := h1.2.2.1; omega))
    · have : v = (k, 0) := by simpa using hv
      subst this
      exact absurd hi (Nat.not_lt_zero _)
theorem invD_start {bl : List Blk} (hB : OkB bl) : InvD bl (dfs0 bl.length) := by
  have h0 := hB.1
  have hf : ∀ pc, ((List.replicate bl.length false).set 0 true).getD pc false = true → pc = 0 := fun pc hp => by
    rw [getD_set (by simpa using h0)] at hp
    by_cases e : 0 = pc
    · exact e.symm
    · rw [if_neg e] at hp
      rw [List.getD_eq_getElem?_getD, List.getElem?_replicate] at hp
      split at hp <;> cases hp
  have hs : ((List.replicate bl.length false).set 0 true).getD 0 false = true := by rw [getD_set (by simpa using h0), if_pos rfl]
  refine ⟨by unfold dfs0; simp, fun b hb => ?_, fun j hj => ?_, fun _ => rfl, fun i hi => ?_, fun i hi => ?_, fun b hb => ?_, fun w hw i hi => ?_, hs⟩
  · have : b = 0 := by unfold dfs0 at hb; simpa using hb
    subst this
    exact ⟨Int.le_refl _, hs, .base⟩
  · rw [hf j hj]; unfold dfs0; simp
  · unfold dfs0 at hi; simp at hi
  · unfold dfs0 at hi; simp at hi
  · unfold dfs0 at hb; simp at hb
  · have : w = (0, 0) := by unfold dfs0 at hw; simpa using hw
    subst this
    exact absurd hi (Nat.not_lt_zero _)
/-- At the end the way is empty. -/
theorem ord_end {bl : List Blk} (hB : OkB bl) : ∀ (f : Nat) (x : Dfs), muO bl x ≤ f → InvO bl x → InvD bl x → ∃ s l, ordRun bl f x = (s, l, []) ∧ InvO bl (s, l, []) ∧ InvD bl (s, l, [])
  | f, (s, l, []), hf, hO, hD => by
    have e : ordRun bl f (s, l, []) = (s, l, []) := by cases f <;> simp [ordRun]
    exact ⟨s, l, e, hO, hD⟩
  | f, (s, l, w0 :: st0), hf, hO, hD => by
    obtain ⟨pre, w, hpw⟩ : ∃ pre w, w0 :: st0 = pre ++ [w] := ⟨(w0 :: st0).dropLast, (w0 :: st0).getLast (by simp), (List.dropLast_concat_getLast (by simp)).symm⟩
    rw [hpw] at hf hO hD ⊢
    have hne : (pre ++ [w]).length ≠ 0 := by simp
    have hw := hO.st w (by simp)
    by_cases he : w.2 = ((nxt bl w.1).length : Int)
    · obtain ⟨i1, i2⟩ := inv_pop hO
      obtain ⟨f', rfl⟩ : ∃ f', f = f' + 1 := ⟨f - 1, by omega⟩
      have es : ordRun bl (f' + 1) (s, l, pre ++ [w]) = ordRun bl f' (s, l ++ [w.1], pre) := by
        show (if (pre ++ [w]).length = 0 then _ else ordRun bl f' _) = _
        rw [if_neg hne, ord_pop he]
      rw [es]
      exact ord_end hB f' _ (by omega) i1 (invD_pop hD he)
    · cases hs : s.getD ((nxt bl w.1).getD w.2.toNat 0).toNat false with
      | true =>
        obtain ⟨i1, i2⟩ := inv_seen hO he
        obtain ⟨f', rfl⟩ : ∃ f', f = f' + 1 := ⟨f - 1, by omega⟩
        have es : ordRun bl (f' + 1) (s, l, pre ++ [w]) = ordRun bl f' (s, l, pre ++ [(w.1, w.2 + 1)]) := by
          show (if (pre ++ [w]).length = 0 then _ else ordRun bl f' _) = _
          rw [if_neg hne, ord_seen he hs]
        rw [es]
        exact ord_end hB f' _ (by omega) i1 (invD_seen hD hw.2.2.1 hs)
      | false =>
        obtain ⟨i1, i2⟩ := inv_push hB hO he hs
        obtain ⟨f', rfl⟩ : ∃ f', f = f' + 1 := ⟨f - 1, by omega⟩
        have es : ordRun bl (f' + 1) (s, l, pre ++ [w]) = ordRun bl f' (s.set ((nxt bl w.1).getD w.2.toNat 0).toNat true, l, pre ++ [(w.1, w.2 + 1)] ++ [((nxt bl w.1).getD w.2.toNat 0, 0)]) := by
          show (if (pre ++ [w]).length = 0 then _ else ordRun bl f' _) = _
          rw [if_neg hne, ord_push he hs]
        rw [es]
        exact ord_end hB f' _ (by omega) i1 (invD_push hB hO hD he hs)
termination_by f => f
/-- What the order is. -/
theorem order_is {bl : List Blk} (hB : OkB bl) : ∃ l : List Int, orderV bl = l.reverse ∧ l.Nodup ∧ 0 < l.length ∧ l.length ≤ bl.length ∧ l.getD (l.length - 1) 0 = 0 ∧ (∀ b ∈ l, 0 ≤ b ∧ b < (bl.length : Int)) ∧
    (∀ i, i + 1 < l.length → ∃ j, i < j ∧ j < l.length ∧ l.getD i 0 ∈ nxt bl (l.getD j 0)) ∧ ∀ j : Nat, (j : Int) ∈ l ↔ Rch (fun j => nxt bl (j : Int)) 0 j := by
  obtain ⟨s, l, h1, hO, hD⟩ := ord_end hB (fuelV bl) (dfs0 bl.length) (dfs0_inv hB).2 (dfs0_inv hB).1 (invD_start hB)
  have hls : s.length = bl.length := hO.ls
  have hle : l.length ≤ bl.length := by have := hO.cn; simp only [List.length_nil] at this; omega
  have hnn : ∀ b ∈ l, 0 ≤ b ∧ s.getD b.toNat false = true ∧ Rch (fun j => nxt bl (j : Int)) 0 b.toNat := fun b hb => hD.nn b (by simpa using hb)
  have hsn : ∀ j : Nat, s.getD j false = true → (j : Int) ∈ l := fun j hj => by have := hD.sn j hj; simpa using this
  have hin : ∀ b ∈ l, 0 ≤ b ∧ b < (bl.length : Int) := fun b hb => by
    have h2 := hnn b hb
    have := getD_lt h2.2.1
    omega
  have hall : ∀ j, Rch (fun j => nxt bl (j : Int)) 0 j → (j : Int) ∈ l := by
    intro j hj
    induction hj with
    | base => exact hsn 0 hD.rt
    | step _ hk ih =>
      have := hD.cl _ ih _ hk
      exact hsn _ this
  have hpos : 0 < l.length := List.length_pos_of_mem (hall 0 .base)
  refine ⟨l, by unfold orderV; rw [h1], by have := hD.nd; simpa using this, hpos, hle, ?_, hin, fun i hi => ?_, fun j => ⟨fun h => by have := (hnn _ h).2.2; rwa [Int.toNat_natCast] at this, hall j⟩⟩
  · rcases hD.pr (l.length - 1) (by show l.length - 1 < l.length; omega) with ⟨j, j1, j2, _⟩ | ⟨w, hw, _⟩ | ⟨_, _, h3⟩
    · have j2 : j < l.length := j2
      omega
    · simp at hw
    · exact h3
  · rcases hD.pr i (by show i < l.length; omega) with h3 | ⟨w, hw, _⟩ | ⟨_, h3, _⟩
    · exact h3
    · simp at hw
    · have h3 : i + 1 = l.length := h3
      omega
end Go.Proofs.Ytckijackbldkhaa.Ch
