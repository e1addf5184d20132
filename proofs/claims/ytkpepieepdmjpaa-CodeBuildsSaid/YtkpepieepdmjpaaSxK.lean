/- A machine of abstract states over the model, part K: make, slices written out, copy. No condition. -/
import Derived.Test.YtkpepieepdmjpaaSxJ
namespace Go.Proofs.Ytkpepieepdmjpaa.Sx
open Go
set_option linter.unusedVariables false
set_option linter.unusedSimpArgs false

def prodTy : List (Option Ty) → Option Ty
  | [] => some .unit
  | [t] => t
  | some t :: r => match prodTy r with
    | some u => some (.prod t u)
    | none => none
  | none :: _ => none
/-- The kind of data of a type. -/
def tyId (P : Program) : Nat → TypeId → Option Ty
  | 0, _ => none
  | k + 1, t => match P.underlying t with
    | some (.int k) => some (.int k)
    | some .bool => some .bool
    | some .string => some .str
    | some (.slice e) => match tyId P k e with
      | some u => some (.row u)
      | none => none
    | some (.struct fs) => prodTy (fs.toList.map fun f => tyId P k f.type)
    | _ => none

theorem made_get {z : Array Value} {n k : Nat} (h : k < n) (hz : 0 < z.size) : (madeCells z n).toList[k]? = z[k % z.size]? := by
  have hm := Nat.mod_lt k hz
  simp [madeCells, h, hm]
theorem made_seg {z : Array Value} {m i : Nat} (hi : i < m) (hz : 0 < z.size) : seg (madeCells z (m * z.size)).toList (i * z.size) z.size = z.toList := by
  apply List.ext_getElem?
  intro k
  by_cases hk : k < z.size
  · have hm : (i + 1) * z.size ≤ m * z.size := Nat.mul_le_mul_right _ hi
    rw [Nat.add_mul, Nat.one_mul] at hm
    rw [seg_get' hk, made_get (by omega) hz, Nat.mul_comm i z.size, Nat.mul_add_mod, Nat.mod_eq_of_lt hk]
    simp
  · rw [List.getElem?_eq_none (by unfold seg; rw [List.length_take]; omega), List.getElem?_eq_none (by rw [Array.length_toList]; omega)]
/-- A new row. -/
theorem new_row {N : Nat} {π : Pers} {ρ : Env} {s : SS} {a : Act} {w : World} (S : Sat π ρ s a w) (e : TypeId) (ty : Ty) (xs : List ty.T) {vs : Array Value} {n c : Nat} (hr : RowAt π ty vs.toList 0 xs) (hn : n = xs.length) (hs : c * ty.sz ≤ vs.size) (hc : n ≤ c) (hm : c ≤ maxLen) :
    ∃ ρ', Sat π ρ' { s with hp := s.hp ++ [.row e ty xs] } a (w.alloc (.cells vs e)) ∧ Step N ρ s.hp w π ρ' (s.hp ++ [.row e ty xs]) (w.alloc (.cells vs e)) π ∧ DenC π ρ' (.view ty s.hp.length 0 n) (.slice (some ⟨w.heap.size, 0, none⟩) n c) := by
  subst hn
  have hup := upE_new S.hs (some (w.heap.size, 0, vs.size, []))
  refine ⟨updE ρ s.hp.length (some (w.heap.size, 0, vs.size, [])), ?_, step_new S.hs _ _ _ (fun g h => by rw [own_one h]; exact Nat.le_refl _), .inr ⟨w.heap.size, 0, (vs.size, []), c, updE_same _ _ _, hc, hm, by simpa using hs, by simp⟩⟩
  refine sat_heap S (hsat_new S.hs _ _ (by simp) (fun g hg => heap_alloc_old w _ g hg) (fun g h => by rw [own_one h]; exact ⟨Nat.le_refl _, by simp⟩) ?_) (fun _ _ h => h) hup
  exact .inr ⟨w.heap.size, 0, vs, updE_same _ _ _, heap_new _, by rw [Nat.zero_add]; exact Nat.le_trans (Nat.mul_le_mul_right _ hc) hs, Nat.le_trans hc hm, hr⟩

def makeP (P : Program) (s : SS) (t : TypeId) (l c : Option PV) (dst : Option Nat) (K : SS → Prop) : Prop :=
  match l, c with
  | some (.c (.int _ l)), some (.c (.int _ c)) => match P.underlying t with
    | some (.slice e) => match P.info? e, tyId P 9 e with
      | some i, some ty => match i.zero with
        | some z => match constCs z.cells.toList with
          | some zc => match fromCV ty zc with
            | some (d, []) => bif Nat.beq i.size ty.sz && Nat.beq z.cells.size ty.sz && Nat.blt 0 ty.sz && Nat.blt 0 i.bytes then
                0 ≤ l ∧ l ≤ c ∧ (i.bytes : Int) * c ≤ 281474976710656 ∧ putK { s with hp := s.hp ++ [.row e ty (List.replicate l.toNat d)] } dst (.p (.c (.view ty s.hp.length 0 l.toNat))) K
              else False
            | _ => False
          | none => False
        | none => False
      | _, _ => False
    | _ => False
  | _, _ => False
theorem makeP_ok {N : Nat} {P : Program} {π : Pers} {ρ : Env} {s : SS} {a : Act} {w : World} (S : Sat π ρ s a w) {t : TypeId} {l c : Option PV} {vl vc : Value} (hl : ∀ p, l = some p → DenP π ρ p vl) (hc : ∀ p, c = some p → DenP π ρ p vc) {dst : Option Nat} {K : SS → Prop} (h : makeP P s t l c dst K) :
    ∃ u w', (Instr.makeSlice t vl vc).run P w = .ok u w' ∧ Out N P π ρ s w K (a.put dst u) w' := by
  unfold makeP at h
  split at h
  · rename_i k1 l k2 c
    split at h
    · rename_i e ht
      split at h
      · rename_i i ty hi hty
        split at h
        · rename_i z hz
          split at h
          · rename_i zc hzc
            split at h
            · rename_i d hd
              cases hq : (Nat.beq i.size ty.sz && Nat.beq z.cells.size ty.sz && Nat.blt 0 ty.sz && Nat.blt 0 i.bytes) with
              | false => rw [hq] at h; exact h.elim
              | true =>
                rw [hq] at h
                simp only [cond_true] at h
                simp only [Bool.and_eq_true] at hq
                have hsize := beq_eq hq.1.1.1
                have hzs := beq_eq hq.1.1.2
                have hsz : 0 < ty.sz := by have := hq.1.2; simpa [Nat.blt_eq] using this
                have hby : 0 < i.bytes := by have := hq.2; simpa [Nat.blt_eq] using this
                obtain ⟨h0, hlc, hb, hK⟩ := h
                have e1 := hl _ rfl
                have e2 := hc _ rfl
                simp only [DenP, DenC] at e1 e2
                subst e1 e2
                have hcb : c ≤ 281474976710656 := by
                  have : 1 * c ≤ (i.bytes : Int) * c := Int.mul_le_mul_of_nonneg_right (by omega) (by omega)
                  omega
                have hrun := run_make (P := P) w t e i z ht hi hz k1 k2 l c h0 hlc hb (by omega)
                obtain ⟨v1, v2, hv, hrep, hnil⟩ := fromCV_ok (π := π) (ρ := ρ) ty _ _ _ _ (constCs_ok hzc).1 hd
                have hv2 : v2 = [] := by cases v2 with | nil => rfl | cons q qs => exact hnil.elim
                subst hv2
                rw [List.append_nil] at hv
                have hra : RowAt π ty (madeCells z.cells (c.toNat * i.size)).toList 0 (List.replicate l.toNat d) := by
                  intro k x hk
                  have hlt := (List.getElem?_eq_some_iff.1 hk).1
                  rw [List.length_replicate] at hlt
                  rw [List.getElem?_replicate, if_pos hlt] at hk
                  simp only [Option.some.injEq] at hk
                  subst hk
                  rw [Nat.zero_add, hsize, ← hzs, made_seg (by omega) (by omega), hv]
                  exact hrep
                obtain ⟨ρ', S', St, hden⟩ := new_row S e ty (List.replicate l.toNat d) (c := c.toNat) hra (by rw [List.length_replicate]) (by rw [size_madeCells, hsize]; exact Nat.le_refl _) (by omega) (by simp only [maxLen]; omega)
                obtain ⟨s', g1, g2, g3⟩ := putK_ok (x := .c (.view ty s.hp.length 0 l.toNat)) S' hden hK
                exact ⟨_, _, hrun, π, ρ', s', g1, by rw [g3]; exact St, g2⟩
            · exact h.elim
          · exact h.elim
        · exact h.elim
      · exact h.elim
    · exact h.elim
  · exact h.elim

def repL (zc : List CV) : Nat → List CV
  | 0 => []
  | n + 1 => zc ++ repL zc n
def rowsFrom (ty : Ty) : Nat → List CV → Option (List ty.T)
  | 0, [] => some []
  | 0, _ :: _ => none
  | n + 1, l => match fromCV ty l with
    | some (x, r) => match rowsFrom ty n r with
      | some xs => some (x :: xs)
      | none => none
    | none => none
theorem rowsFrom_ok {π : Pers} {ρ : Env} {ty : Ty} : ∀ (n : Nat) (l : List CV) (vs : List Value) (xs : List ty.T), All2 (DenC π ρ) l vs → rowsFrom ty n l = some xs → xs.length = n ∧ vs.length = n * ty.sz ∧ RowAt π ty vs 0 xs
  | 0, [], [], xs, _, h => by simp only [rowsFrom, Option.some.injEq] at h; subst h; exact ⟨rfl, by simp, fun i x hi => by simp at hi⟩
  | 0, [], _ :: _, xs, ha, h => ha.elim
  | 0, _ :: _, vs, xs, _, h => by simp [rowsFrom] at h
  | n + 1, l, vs, xs, ha, h => by
    simp only [rowsFrom] at h
    split at h
    · rename_i x r hx
      split at h
      · rename_i ys hys
        cases h
        obtain ⟨v1, v2, rfl, hrep, ha2⟩ := fromCV_ok ty _ _ _ _ ha hx
        obtain ⟨h1, h2, h3⟩ := rowsFrom_ok n r v2 ys ha2 hys
        have hl1 := rep_len ty _ _ hrep
        refine ⟨by simp [h1], by rw [List.length_append, hl1, h2, Nat.add_mul]; omega, ?_⟩
        have h1x : RowAt π ty v1 0 [x] := by
          intro i y hi
          cases i with
          | zero =>
            simp at hi; subst hi
            have : seg v1 (0 + 0 * ty.sz) ty.sz = v1 := by unfold seg; rw [Nat.zero_mul, Nat.zero_add, List.drop_zero, ← hl1, List.take_length]
            rw [this]; exact hrep
          | succ k => simp at hi
        have := rowAt_append h1x h3 (by simp [hl1]) (by rw [h1]; exact h2) []
        simpa using this
      · cases h
    · cases h
theorem repL_made {π : Pers} {ρ : Env} {zc : List CV} {z : Array Value} (hz : All2 (DenC π ρ) zc z.toList) (hp : 0 < z.size) : ∀ n, All2 (DenC π ρ) (repL zc n) (madeCells z (n * z.size)).toList
  | 0 => by simp [repL, madeCells, All2]
  | n + 1 => by
    have ih := repL_made hz hp n
    have hh := all2_append hz ih
    simp only [repL]
    have : (madeCells z ((n + 1) * z.size)).toList = z.toList ++ (madeCells z (n * z.size)).toList := by
      apply List.ext_getElem?
      intro k
      by_cases hk : k < z.size
      · rw [made_get (by rw [Nat.add_mul]; omega) hp, List.getElem?_append_left (by rw [Array.length_toList]; exact hk), Nat.mod_eq_of_lt hk]; simp
      · rw [List.getElem?_append_right (by rw [Array.length_toList]; omega), Array.length_toList]
        by_cases hk2 : k < (n + 1) * z.size
        · rw [made_get hk2 hp, made_get (by rw [Nat.add_mul] at hk2; omega) hp, Nat.mod_eq_sub_mod (by omega)]
        · rw [List.getElem?_eq_none (by rw [Array.length_toList, size_madeCells]; omega), List.getElem?_eq_none (by rw [Array.length_toList, size_madeCells]; rw [Nat.add_mul] at hk2; omega)]
    rw [this]
    exact hh
def buildSlP (P : Program) (s : SS) (t : TypeId) (len : Nat) (ps : Option (List (Nat × PV))) (dst : Option Nat) (K : SS → Prop) : Prop :=
  match ps, P.underlying t with
  | some ps, some (.slice e) => match P.info? e, tyId P 9 e with
    | some i, some ty => match i.zero with
      | some z => match constCs z.cells.toList with
        | some zc => bif Nat.beq i.size ty.sz && Nat.beq z.cells.size ty.sz && Nat.blt 0 ty.sz && Nat.ble (len * i.size) 16777216 then
            match fillC (fun k => some (k * i.size, i.size)) (repL zc len) ps with
            | some cs => match rowsFrom ty len cs with
              | some xs => putK { s with hp := s.hp ++ [.row e ty xs] } dst (.p (.c (.view ty s.hp.length 0 len))) K
              | none => False
            | none => False
          else False
        | none => False
      | none => False
    | _, _ => False
  | _, _ => False
theorem buildSlP_ok {N : Nat} {P : Program} {π : Pers} {ρ : Env} {s : SS} {a : Act} {w : World} (S : Sat π ρ s a w) {t : TypeId} {len : Nat} {ps : Option (List (Nat × PV))} {parts : Array (Nat × Value)} (hp : ∀ l, ps = some l → All2 (fun p u => p.1 = u.1 ∧ DenP π ρ p.2 u.2) l parts.toList) {dst : Option Nat} {K : SS → Prop} (h : buildSlP P s t len ps dst K) :
    ∃ u w', (Instr.buildSlice t len parts).run P w = .ok u w' ∧ Out N P π ρ s w K (a.put dst u) w' := by
  unfold buildSlP at h
  split at h
  · rename_i l e ht
    split at h
    · rename_i i ty hi hty
      split at h
      · rename_i z hz
        split at h
        · rename_i zc hzc
          cases hq : (Nat.beq i.size ty.sz && Nat.beq z.cells.size ty.sz && Nat.blt 0 ty.sz && Nat.ble (len * i.size) 16777216) with
          | false => rw [hq] at h; exact h.elim
          | true =>
            rw [hq] at h
            simp only [cond_true] at h
            simp only [Bool.and_eq_true] at hq
            have hsize := beq_eq hq.1.1.1
            have hzs := beq_eq hq.1.1.2
            have hsz : 0 < ty.sz := by have := hq.1.2; simpa [Nat.blt_eq] using this
            have hbig := Nat.le_of_ble_eq_true hq.2
            split at h
            · rename_i cs hcs
              split at h
              · rename_i xs hxs
                have hz0 := (constCs_ok (π := π) (ρ := ρ) hzc).1
                have hrl := repL_made (z := z.cells) hz0 (by omega) len
                rw [hzs, ← hsize] at hrl
                obtain ⟨ws, h1, h2⟩ := fill_ok _ l parts.toList _ _ (madeCells z.cells (len * i.size)) (hp l rfl) hrl hcs
                obtain ⟨g1, g2, g3⟩ := rowsFrom_ok len cs ws.toList xs h2 hxs
                have hws : ws.size = len * ty.sz := by rw [← Array.length_toList]; exact g2
                have hm : len ≤ maxLen := by
                  have : len * 1 ≤ len * i.size := Nat.mul_le_mul_left _ (by omega)
                  simp only [maxLen]; omega
                obtain ⟨ρ', S', St, hden⟩ := new_row S e ty xs (n := len) (c := len) g3 g1.symm (by rw [hws]; exact Nat.le_refl _) (Nat.le_refl _) hm
                obtain ⟨s', k1, k2, k3⟩ := putK_ok (x := .c (.view ty s.hp.length 0 len)) S' hden h
                refine ⟨.slice (some ⟨w.heap.size, 0, none⟩) len len, _, ?_, π, ρ', s', k1, by rw [k3]; exact St, k2⟩
                have hbig' : ¬ (16777216 < len * i.size) := by omega
                by_cases h0 : len * i.size = 0
                · have hl0 : len = 0 := by
                    rcases Nat.eq_zero_or_pos len with h | h
                    · exact h
                    · exact absurd h0 (Nat.ne_of_gt (Nat.mul_pos h (by omega)))
                  subst hl0
                  have hr0 : Array.range 0 = #[] := rfl
                  have h1' : Instr.fill (fun k => some (k * i.size, i.size)) #[] parts.toList = some ws := by simpa [madeCells, hr0] using h1
                  simp [Instr.buildSlice, run_underlying ht, sizeOf, typeInfo, hi, h1', newRow, hr0]
                · have h1' : Instr.fill (fun k => some (k * i.size, i.size)) ((Array.range (len * i.size)).map (z.cells[· % z.cells.size]!)) parts.toList = some ws := h1
                  simp [Instr.buildSlice, run_underlying ht, sizeOf, typeInfo, hi, zeroValue, hz, hbig', h0, h1', newRow]
              · exact h.elim
            · exact h.elim
        · exact h.elim
      · exact h.elim
    · exact h.elim
  · exact h.elim
end Go.Proofs.Ytkpepieepdmjpaa.Sx
