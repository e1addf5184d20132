/- The abstract machine: closures, calls, maps, nests, freezing, atomic calls. No condition. -/
import Derived.Test.YtloiimhmmcheoaaSxU
import Derived.Laws.Externs
import Derived.Laws.LoneSync
import Derived.Conc.AtomicLaws2
import Derived.MapKept
import Derived.WideKeyRuns
namespace Go.Proofs.Ytloiimhmmcheoaa.Sx
open Go
set_option linter.unusedVariables false
set_option linter.unusedSimpArgs false

def prodTy : List (Option Ty) → Option Ty
  | [] => some .unit
  | [t] => t
  | some t :: r => match prodTy r with
    | some u => some (.prod t u)
    | none => none
  | none :: _ => none
/-- The kind of data of a type. -/
def tyId (P : Program) : Nat → TypeId → Option Ty
  | 0, _ => none
  | k + 1, t => match P.underlying t with
    | some (.int k) => some (.int k)
    | some .bool => some .bool
    | some .string => some .str
    | some (.slice e) => match tyId P k e with
      | some u => some (.row u)
      | none => none
    | some (.struct fs) => prodTy (fs.toList.map fun f => tyId P k f.type)
    | _ => none

theorem made_get {z : Array Value} {n k : Nat} (h : k < n) (hz : 0 < z.size) : (madeCells z n).toList[k]? = z[k % z.size]? := by
  have hm := Nat.mod_lt k hz
  simp [madeCells, h, hm]
theorem made_seg {z : Array Value} {m i : Nat} (hi : i < m) (hz : 0 < z.size) : seg (madeCells z (m * z.size)).toList (i * z.size) z.size = z.toList := by
  apply List.ext_getElem?
  intro k
  by_cases hk : k < z.size
  · have hm : (i + 1) * z.size ≤ m * z.size := Nat.mul_le_mul_right _ hi
    rw [Nat.add_mul, Nat.one_mul] at hm
    rw [seg_get' hk, made_get (by omega) hz, Nat.mul_comm i z.size, Nat.mul_add_mod, Nat.mod_eq_of_lt hk]
    simp
  · rw [List.getElem?_eq_none (by unfold seg; rw [List.length_take]; omega), List.getElem?_eq_none (by rw [Array.length_toList]; omega)]
/-- A new row. -/
theorem new_row {N : Nat} {π : Pers} {ρ : Env} {s : SS} {a : Act} {w : World} (S : Sat π ρ s a w) (e : TypeId) (ty : Ty) (xs : List ty.T) {vs : Array Value} {n c : Nat} (hr : RowAt π ty vs.toList 0 xs) (hn : n = xs.length) (hs : c * ty.sz ≤ vs.size) (hc : n ≤ c) (hm : c ≤ maxLen) :
    ∃ ρ', Sat π ρ' { s with hp := s.hp ++ [.row e ty xs] } a (w.alloc (.cells vs e)) ∧ Step N ρ s.hp w π ρ' (s.hp ++ [.row e ty xs]) (w.alloc (.cells vs e)) π ∧ DenC π ρ' (.view ty s.hp.length 0 n) (.slice (some ⟨w.heap.size, 0, none⟩) n c) := by
  subst hn
  have hup := upE_new S.hs (some (w.heap.size, 0, vs.size, []))
  refine ⟨updE ρ s.hp.length (some (w.heap.size, 0, vs.size, [])), ?_, step_new S.hs _ _ _ (fun g h => by rw [own_one h]; exact Nat.le_refl _), .inr ⟨w.heap.size, 0, (vs.size, []), c, updE_same _ _ _, hc, hm, by simpa using hs, by simp⟩⟩
  refine sat_heap S (hsat_new S.hs _ _ (by simp) (fun g hg => heap_alloc_old w _ g hg) (fun g h => by rw [own_one h]; exact ⟨Nat.le_refl _, by simp⟩) ?_) (fun _ _ h => h) hup
  exact .inr ⟨w.heap.size, 0, vs, updE_same _ _ _, heap_new _, by rw [Nat.zero_add]; exact Nat.le_trans (Nat.mul_le_mul_right _ hc) hs, Nat.le_trans hc hm, hr⟩

def makeP (P : Program) (s : SS) (t : TypeId) (l c : Option PV) (dst : Option Nat) (K : SS → Prop) : Prop :=
  match l, c with
  | some (.c (.int _ l)), some (.c (.int _ c)) => match P.underlying t with
    | some (.slice e) => match P.info? e, tyId P 9 e with
      | some i, some ty => match i.zero with
        | some z => match constCs z.cells.toList with
          | some zc => match fromCV ty zc with
            | some (d, []) => bif Nat.beq i.size ty.sz && Nat.beq z.cells.size ty.sz && Nat.blt 0 ty.sz && Nat.blt 0 i.bytes then
                0 ≤ l ∧ l ≤ c ∧ (i.bytes : Int) * c ≤ 281474976710656 ∧ putK { s with hp := s.hp ++ [.row e ty (List.replicate l.toNat d)] } dst (.p (.c (.view ty s.hp.length 0 l.toNat))) K
              else False
            | _ => False
          | none => False
        | none => False
      | _, _ => False
    | _ => False
  | _, _ => False
theorem makeP_ok {N : Nat} {P : Program} {π : Pers} {ρ : Env} {s : SS} {a : Act} {w : World} (S : Sat π ρ s a w) {t : TypeId} {l c : Option PV} {vl vc : Value} (hl : ∀ p, l = some p → DenP π ρ p vl) (hc : ∀ p, c = some p → DenP π ρ p vc) {dst : Option Nat} {K : SS → Prop} (h : makeP P s t l c dst K) :
    ∃ u w', (Instr.makeSlice t vl vc).run P w = .ok u w' ∧ Out N P π ρ s w K (a.put dst u) w' := by
  unfold makeP at h
  split at h
  · rename_i k1 l k2 c
    split at h
    · rename_i e ht
      split at h
      · rename_i i ty hi hty
        split at h
        · rename_i z hz
          split at h
          · rename_i zc hzc
            split at h
            · rename_i d hd
              cases hq : (Nat.beq i.size ty.sz && Nat.beq z.cells.size ty.sz && Nat.blt 0 ty.sz && Nat.blt 0 i.bytes) with
              | false => rw [hq] at h; exact h.elim
              | true =>
                rw [hq] at h
                simp only [cond_true] at h
                simp only [Bool.and_eq_true] at hq
                have hsize := beq_eq hq.1.1.1
                have hzs := beq_eq hq.1.1.2
                have hsz : 0 < ty.sz := by have := hq.1.2; simpa [Nat.blt_eq] using this
                have hby : 0 < i.bytes := by have := hq.2; simpa [Nat.blt_eq] using this
                obtain ⟨h0, hlc, hb, hK⟩ := h
                have e1 := hl _ rfl
                have e2 := hc _ rfl
                simp only [DenP, DenC] at e1 e2
                subst e1 e2
                have hcb : c ≤ 281474976710656 := by
                  have : 1 * c ≤ (i.bytes : Int) * c := Int.mul_le_mul_of_nonneg_right (by omega) (by omega)
                  omega
                have hrun := run_make (P := P) w t e i z ht hi hz k1 k2 l c h0 hlc hb (by omega)
                obtain ⟨v1, v2, hv, hrep, hnil⟩ := fromCV_ok (π := π) (ρ := ρ) ty _ _ _ _ (constCs_ok hzc).1 hd
                have hv2 : v2 = [] := by cases v2 with | nil => rfl | cons q qs => exact hnil.elim
                subst hv2
                rw [List.append_nil] at hv
                have hra : RowAt π ty (madeCells z.cells (c.toNat * i.size)).toList 0 (List.replicate l.toNat d) := by
                  intro k x hk
                  have hlt := (List.getElem?_eq_some_iff.1 hk).1
                  rw [List.length_replicate] at hlt
                  rw [List.getElem?_replicate, if_pos hlt] at hk
                  simp only [Option.some.injEq] at hk
                  subst hk
                  rw [Nat.zero_add, hsize, ← hzs, made_seg (by omega) (by omega), hv]
                  exact hrep
                obtain ⟨ρ', S', St, hden⟩ := new_row S e ty (List.replicate l.toNat d) (c := c.toNat) hra (by rw [List.length_replicate]) (by rw [size_madeCells, hsize]; exact Nat.le_refl _) (by omega) (by simp only [maxLen]; omega)
                obtain ⟨s', g1, g2, g3⟩ := putK_ok (x := .c (.view ty s.hp.length 0 l.toNat)) S' hden hK
                exact ⟨_, _, hrun, π, ρ', s', g1, by rw [g3]; exact St, g2⟩
            · exact h.elim
          · exact h.elim
        · exact h.elim
      · exact h.elim
    · exact h.elim
  · exact h.elim

def repL (zc : List CV) : Nat → List CV
  | 0 => []
  | n + 1 => zc ++ repL zc n
def rowsFrom (ty : Ty) : Nat → List CV → Option (List ty.T)
  | 0, [] => some []
  | 0, _ :: _ => none
  | n + 1, l => match fromCV ty l with
    | some (x, r) => match rowsFrom ty n r with
      | some xs => some (x :: xs)
      | none => none
    | none => none
theorem rowsFrom_ok {π : Pers} {ρ : Env} {ty : Ty} : ∀ (n : Nat) (l : List CV) (vs : List Value) (xs : List ty.T), All2 (DenC π ρ) l vs → rowsFrom ty n l = some xs → xs.length = n ∧ vs.length = n * ty.sz ∧ RowAt π ty vs 0 xs
  | 0, [], [], xs, _, h => by simp only [rowsFrom, Option.some.injEq] at h; subst h; exact ⟨rfl, by simp, fun i x hi => by simp at hi⟩
  | 0, [], _ :: _, xs, ha, h => ha.elim
  | 0, _ :: _, vs, xs, _, h => by simp [rowsFrom] at h
  | n + 1, l, vs, xs, ha, h => by
    simp only [rowsFrom] at h
    split at h
    · rename_i x r hx
      split at h
      · rename_i ys hys
        cases h
        obtain ⟨v1, v2, rfl, hrep, ha2⟩ := fromCV_ok ty _ _ _ _ ha hx
        obtain ⟨h1, h2, h3⟩ := rowsFrom_ok n r v2 ys ha2 hys
        have hl1 := rep_len ty _ _ hrep
        refine ⟨by simp [h1], by rw [List.length_append, hl1, h2, Nat.add_mul]; omega, ?_⟩
        have h1x : RowAt π ty v1 0 [x] := by
          intro i y hi
          cases i with
          | zero =>
            simp at hi; subst hi
            have : seg v1 (0 + 0 * ty.sz) ty.sz = v1 := by unfold seg; rw [Nat.zero_mul, Nat.zero_add, List.drop_zero, ← hl1, List.take_length]
            rw [this]; exact hrep
          | succ k => simp at hi
        have := rowAt_append h1x h3 (by simp [hl1]) (by rw [h1]; exact h2) []
        simpa using this
      · cases h
    · cases h
theorem repL_made {π : Pers} {ρ : Env} {zc : List CV} {z : Array Value} (hz : All2 (DenC π ρ) zc z.toList) (hp : 0 < z.size) : ∀ n, All2 (DenC π ρ) (repL zc n) (madeCells z (n * z.size)).toList
  | 0 => by simp [repL, madeCells, All2]
  | n + 1 => by
    have ih := repL_made hz hp n
    have hh := all2_append hz ih
    simp only [repL]
    have : (madeCells z ((n + 1) * z.size)).toList = z.toList ++ (madeCells z (n * z.size)).toList := by
      apply List.ext_getElem?
      intro k
      by_cases hk : k < z.size
      · rw [made_get (by rw [Nat.add_mul]; omega) hp, List.getElem?_append_left (by rw [Array.length_toList]; exact hk), Nat.mod_eq_of_lt hk]; simp
      · rw [List.getElem?_append_right (by rw [Array.length_toList]; omega), Array.length_toList]
        by_cases hk2 : k < (n + 1) * z.size
        · rw [made_get hk2 hp, made_get (by rw [Nat.add_mul] at hk2; omega) hp, Nat.mod_eq_sub_mod (by omega)]
        · rw [List.getElem?_eq_none (by rw [Array.length_toList, size_madeCells]; omega), List.getElem?_eq_none (by rw [Array.length_toList, size_madeCells]; rw [Nat.add_mul] at hk2; omega)]
    rw [this]
    exact hh
def buildSlP (P : Program) (s : SS) (t : TypeId) (len : Nat) (ps : Option (List (Nat × PV))) (dst : Option Nat) (K : SS → Prop) : Prop :=
  match ps, P.underlying t with
  | some ps, some (.slice e) => match P.info? e, tyId P 9 e with
    | some i, some ty => match i.zero with
      | some z => match constCs z.cells.toList with
        | some zc => bif Nat.beq i.size ty.sz && Nat.beq z.cells.size ty.sz && Nat.blt 0 ty.sz && Nat.ble (len * i.size) 16777216 then
            match fillC (fun k => some (k * i.size, i.size)) (repL zc len) ps with
            | some cs => match rowsFrom ty len cs with
              | some xs => putK { s with hp := s.hp ++ [.row e ty xs] } dst (.p (.c (.view ty s.hp.length 0 len))) K
              | none => False
            | none => False
          else False
        | none => False
      | none => False
    | _, _ => False
  | _, _ => False
theorem buildSlP_ok {N : Nat} {P : Program} {π : Pers} {ρ : Env} {s : SS} {a : Act} {w : World} (S : Sat π ρ s a w) {t : TypeId} {len : Nat} {ps : Option (List (Nat × PV))} {parts : Array (Nat × Value)} (hp : ∀ l, ps = some l → All2 (fun p u => p.1 = u.1 ∧ DenP π ρ p.2 u.2) l parts.toList) {dst : Option Nat} {K : SS → Prop} (h : buildSlP P s t len ps dst K) :
    ∃ u w', (Instr.buildSlice t len parts).run P w = .ok u w' ∧ Out N P π ρ s w K (a.put dst u) w' := by
  unfold buildSlP at h
  split at h
  · rename_i l e ht
    split at h
    · rename_i i ty hi hty
      split at h
      · rename_i z hz
        split at h
        · rename_i zc hzc
          cases hq : (Nat.beq i.size ty.sz && Nat.beq z.cells.size ty.sz && Nat.blt 0 ty.sz && Nat.ble (len * i.size) 16777216) with
          | false => rw [hq] at h; exact h.elim
          | true =>
            rw [hq] at h
            simp only [cond_true] at h
            simp only [Bool.and_eq_true] at hq
            have hsize := beq_eq hq.1.1.1
            have hzs := beq_eq hq.1.1.2
            have hsz : 0 < ty.sz := by have := hq.1.2; simpa [Nat.blt_eq] using this
            have hbig := Nat.le_of_ble_eq_true hq.2
            split at h
            · rename_i cs hcs
              split at h
              · rename_i xs hxs
                have hz0 := (constCs_ok (π := π) (ρ := ρ) hzc).1
                have hrl := repL_made (z := z.cells) hz0 (by omega) len
                rw [hzs, ← hsize] at hrl
                obtain ⟨ws, h1, h2⟩ := fill_ok _ l parts.toList _ _ (madeCells z.cells (len * i.size)) (hp l rfl) hrl hcs
                obtain ⟨g1, g2, g3⟩ := rowsFrom_ok len cs ws.toList xs h2 hxs
                have hws : ws.size = len * ty.sz := by rw [← Array.length_toList]; exact g2
                have hm : len ≤ maxLen := by
                  have : len * 1 ≤ len * i.size := Nat.mul_le_mul_left _ (by omega)
                  simp only [maxLen]; omega
                obtain ⟨ρ', S', St, hden⟩ := new_row S e ty xs (n := len) (c := len) g3 g1.symm (by rw [hws]; exact Nat.le_refl _) (Nat.le_refl _) hm
                obtain ⟨s', k1, k2, k3⟩ := putK_ok (x := .c (.view ty s.hp.length 0 len)) S' hden h
                refine ⟨.slice (some ⟨w.heap.size, 0, none⟩) len len, _, ?_, π, ρ', s', k1, by rw [k3]; exact St, k2⟩
                have hbig' : ¬ (16777216 < len * i.size) := by omega
                by_cases h0 : len * i.size = 0
                · have hl0 : len = 0 := by
                    rcases Nat.eq_zero_or_pos len with h | h
                    · exact h
                    · exact absurd h0 (Nat.ne_of_gt (Nat.mul_pos h (by omega)))
                  subst hl0
                  have hr0 : Array.range 0 = #[] := rfl
                  have h1' : Instr.fill (fun k => some (k * i.size, i.size)) #[] parts.toList = some ws := by simpa [madeCells, hr0] using h1
                  simp [Instr.buildSlice, run_underlying ht, sizeOf, typeInfo, hi, h1', newRow, hr0]
                · have h1' : Instr.fill (fun k => some (k * i.size, i.size)) ((Array.range (len * i.size)).map (z.cells[· % z.cells.size]!)) parts.toList = some ws := h1
                  simp [Instr.buildSlice, run_underlying ht, sizeOf, typeInfo, hi, zeroValue, hz, hbig', h0, h1', newRow]
              · exact h.elim
            · exact h.elim
        · exact h.elim
      · exact h.elim
    · exact h.elim
  · exact h.elim
end Go.Proofs.Ytloiimhmmcheoaa.Sx
namespace Go.Proofs.Ytloiimhmmcheoaa.Sx
open Go
set_option linter.unusedVariables false
set_option linter.unusedSimpArgs false

/-! ### copy -/
def copyP (P : Program) (s : SS) (t1 t2 : TypeId) (d x : Option PV) (dst : Option Nat) (K : SS → Prop) : Prop :=
  match d, x with
  | some (.c (.view t b a n)), some x => match P.underlying t1, P.underlying t2 with
    | some (.slice e), some (.slice _) => match szOf P e, nth s.hp b, srcRow s t x with
      | some sz, some (.row e' t' xs), some (ob, ys) => bif Nat.beq sz t.sz && Nat.blt 0 t.sz then
          (if h : t' = t then
            obl ob (a + n ≤ xs.length ∧ putK { s with hp := s.hp.set b (.row e' t (splice (h ▸ xs : List t.T) a (ys.take (min ys.length n)))) } dst (.p (.c (.int .i64 (min ys.length n : Nat)))) K)
          else False) else False
      | _, _, _ => False
    | _, _ => False
  | some (.c .nils), some (.c (.row _ _)) => match P.underlying t1, P.underlying t2 with
    | some (.slice e), some (.slice _) => match szOf P e with
      | some _ => putK s dst (.p (.c (.int .i64 0))) K
      | none => False
    | _, _ => False
  | _, _ => False
theorem set_same {α : Type} {l : List α} {b : Nat} {x : α} (h : l[b]? = some x) : l.set b x = l := by
  apply List.ext_getElem?
  intro k
  rw [List.getElem?_set]
  by_cases hk : b = k
  · subst hk; rw [if_pos rfl, if_pos (List.getElem?_eq_some_iff.1 h).1, h]
  · rw [if_neg hk]
theorem copyP_ok {N : Nat} {P : Program} {π : Pers} {ρ : Env} {s : SS} {a : Act} {w : World} (S : Sat π ρ s a w) {t1 t2 ty0 : TypeId} {d x : Option PV} {vd vx : Value} (hd : ∀ p, d = some p → DenP π ρ p vd) (hx : ∀ p, x = some p → DenP π ρ p vx) {dst : Option Nat} {K : SS → Prop} (h : copyP P s t1 t2 d x dst K) :
    ∃ u w', (Builtin.copy_ #[t1, t2] ty0 #[vd, vx]).run P w = .ok u w' ∧ Out N P π ρ s w K (a.put dst u) w' := by
  unfold copyP at h
  split at h
  · rename_i t b a0 n px
    split at h
    · rename_i e e2 ht ht2
      split at h
      · rename_i sz e' t' xs ob ys hsz0 hit hsrc
        cases hq : (Nat.beq sz t.sz && Nat.blt 0 t.sz) with
        | false => rw [hq] at h; exact h.elim
        | true =>
          rw [hq] at h
          simp only [cond_true] at h
          simp only [Bool.and_eq_true] at hq
          have hsize := beq_eq hq.1
          subst hsize
          have hsz : 0 < t.sz := by have := hq.2; simpa [Nat.blt_eq] using this
          split at h
          · rename_i ht'
            subst ht'
            obtain ⟨ho, han, hK⟩ := obl_out h
            simp only at hK
            obtain ⟨A2, c2, news, hvx, hyc, hcm, hnl, hra, hfc⟩ := srcRow_all (P := P) S hsz (hx _ rfl) hsrc ho
            rw [nth_eq] at hit
            have hbl := (List.getElem?_eq_some_iff.1 hit).1
            have hkl : min ys.length n ≤ ys.length := Nat.min_le_left _ _
            have hf := hfc w (min ys.length n) rfl hkl
            have htl : (news.take (min ys.length n * t'.sz)).length = min ys.length n * t'.sz := by
              rw [List.length_take, hnl]; exact Nat.min_eq_left (Nat.mul_le_mul_right _ hkl)
            have h1 : ∀ u ∈ news.take (min ys.length n * t'.sz), u.oneCell' = true := fun u hu => rowAt_one hra hnl u (List.mem_of_mem_take hu)
            rcases hd _ rfl with ⟨hn0, A, hvd⟩ | ⟨g, o, m, c, hr, h1', h2, h3, hvd⟩
            · subst hn0
              have hm0 : min ys.length 0 = 0 := by simp
              have hspl : splice xs a0 (ys.take (min ys.length 0)) = xs := by simp [splice]
              rw [hspl] at hK
              have hs : s.hp.set b (.row e' t' xs) = s.hp := set_same hit
              have H : HSat π ρ (s.hp.set b (.row e' t' xs)) w := by rw [hs]; exact S.hs
              have S' := sat_heap S H (fun _ _ h => h) (fun _ _ h => h)
              obtain ⟨s', g1, g2, g3⟩ := putK_ok (x := .c (.int .i64 ((min ys.length 0 : Nat) : Int))) (u := .int .i64 0) S' (by simp [DenP, DenC]) hK
              refine ⟨.int .i64 0, w, ?_, π, ρ, s', g1, by rw [g3]; simp only; rw [hs]; exact Step.refl _ _ _ _ _, g2⟩
              rw [hm0] at hf
              subst hvd hvx
              cases A <;> simp [Builtin.copy_, run_underlying ht, Builtin.lenOf, run_sizeOf hsz0, hf, storeCells, goInt]
            · rcases S.hs.items b _ hit with ⟨h4, h5⟩ | ⟨g', o', vs, h4, h5, h6, h7, h8⟩
              · rw [h4] at hr; cases hr
              · rw [h4] at hr
                simp only [Option.some.injEq, Prod.mk.injEq] at hr
                obtain ⟨rfl, rfl, rfl⟩ := hr
                have hsl : vs.toList.length = vs.size := Array.length_toList
                have hke : min ys.length n ≤ n := Nat.min_le_right _ _
                have hbig : (a0 + min ys.length n) * t'.sz ≤ xs.length * t'.sz := Nat.mul_le_mul_right _ (by omega)
                rw [Nat.add_mul] at hbig
                have hfit : o' + a0 * t'.sz + (news.take (min ys.length n * t'.sz)).length ≤ vs.size := by rw [htl]; omega
                have hst := run_storeCells_at P g' (o' + a0 * t'.sz) e' (news.take (min ys.length n * t'.sz)) 0 vs w h5 (by simpa using hfit) h1
                simp only [Nat.add_zero] at hst
                have hw : ∀ k, k < w.heap.size → ¬ own (ρ b) k → (w.setRow g' (splice vs.toList (o' + a0 * t'.sz) (news.take (min ys.length n * t'.sz))).toArray).heap[k]? = w.heap[k]? := fun k hk hne => setRow_other w g' k _ (fun e => hne (by rw [e]; exact own_main h4))
                have hspl := splice_len (l := vs.toList) (n := news.take (min ys.length n * t'.sz)) (o := o' + a0 * t'.sz) (by rw [hsl]; exact hfit)
                have hyt : (ys.take (min ys.length n)).length = min ys.length n := by rw [List.length_take]; omega
                have hspx := splice_len (l := xs) (n := ys.take (min ys.length n)) (o := a0) (by rw [hyt]; omega)
                have hit' : HBIs π ρ (w.setRow g' (splice vs.toList (o' + a0 * t'.sz) (news.take (min ys.length n * t'.sz))).toArray) b (.row e' t' (splice xs a0 (ys.take (min ys.length n)))) := by
                  refine .inr ⟨g', o', (splice vs.toList (o' + a0 * t'.sz) (news.take (min ys.length n * t'.sz))).toArray, ?_, setRow_heap w g' vs _ e' (0, 0) h5, ?_, by rw [hspx]; exact h7, ?_⟩
                  · rw [List.size_toArray.trans (hspl.trans hsl)]; exact h4
                  · rw [List.size_toArray.trans (hspl.trans hsl), hspx]; exact h6
                  · intro i y hi
                    simp only
                    rw [splice_get (by rw [hyt]; omega), hyt] at hi
                    by_cases hia : i < a0
                    · rw [if_pos hia] at hi
                      have : (i + 1) * t'.sz ≤ a0 * t'.sz := Nat.mul_le_mul_right _ hia
                      rw [Nat.add_mul, Nat.one_mul] at this
                      rw [seg_other (by rw [hsl]; exact hfit) (.inl (by omega))]
                      exact h8 i y hi
                    · rw [if_neg hia] at hi
                      by_cases hik : i < a0 + min ys.length n
                      · rw [if_pos hik, List.getElem?_take, if_pos (by omega)] at hi
                        have hrep := hra _ _ hi
                        rw [Nat.zero_add] at hrep
                        have hlt : i - a0 < min ys.length n := by omega
                        have : (i - a0 + 1) * t'.sz ≤ min ys.length n * t'.sz := Nat.mul_le_mul_right _ hlt
                        rw [Nat.add_mul, Nat.one_mul] at this
                        have e1 : o' + i * t'.sz = o' + a0 * t'.sz + (i - a0) * t'.sz := by rw [Nat.add_assoc, ← Nat.add_mul]; congr 2; omega
                        have e2 : seg (splice vs.toList (o' + a0 * t'.sz) (news.take (min ys.length n * t'.sz))) (o' + a0 * t'.sz + (i - a0) * t'.sz) t'.sz = seg news ((i - a0) * t'.sz) t'.sz := by
                          apply List.ext_getElem?
                          intro j
                          by_cases hj : j < t'.sz
                          · rw [seg_get' hj, seg_get' hj, splice_get (by rw [hsl]; exact hfit), if_neg (by omega), if_pos (by rw [htl]; omega), List.getElem?_take, if_pos (by omega)]
                            congr 1; omega
                          · rw [List.getElem?_eq_none (by unfold seg; rw [List.length_take]; omega), List.getElem?_eq_none (by unfold seg; rw [List.length_take]; omega)]
                        rw [e1, e2]
                        exact hrep
                      · rw [if_neg hik] at hi
                        have : (a0 + min ys.length n) * t'.sz ≤ i * t'.sz := Nat.mul_le_mul_right _ (by omega)
                        rw [Nat.add_mul] at this
                        rw [seg_other (by rw [hsl]; exact hfit) (.inr (by rw [htl]; omega))]
                        exact h8 i y hi
                have S' := sat_heap S (hsat_put S.hs b (.row e' t' (splice xs a0 (ys.take (min ys.length n)))) (by simp) hw hbl hit') (fun _ _ h => h) (fun _ _ h => h)
                obtain ⟨s', g1, g2, g3⟩ := putK_ok (x := .c (.int .i64 ((min ys.length n : Nat) : Int))) (u := .int .i64 ((min ys.length n : Nat) : Int)) S' rfl hK
                refine ⟨_, _, ?_, π, ρ, s', g1, by rw [g3]; exact step_put S.hs b hbl (by simp) (keep_set b _ (fun x κ hh hκ => by rw [hit] at hh; cases hh; rw [knd_same _ xs]; exact hκ)) rfl rfl rfl (by simp) hw, g2⟩
                subst hvd hvx
                have hmin : Nat.min ys.length n = min ys.length n := rfl
                simp [Builtin.copy_, run_underlying ht, Builtin.lenOf, run_sizeOf hsz0, hmin, hf, hst, goInt, splice]
          · exact h.elim
      · exact h.elim
    · exact h.elim
  · rename_i ty ys
    split at h
    · rename_i e e2 ht ht2
      split at h
      · rename_i sz hsz0
        have hvd := hd _ rfl
        simp only [DenP, DenC] at hvd
        obtain ⟨A, c, hvx, _⟩ := hx _ rfl
        subst hvd hvx
        obtain ⟨s', g1, g2, g3⟩ := putK_ok (x := .c (.int .i64 0)) (u := .int .i64 0) S rfl h
        refine ⟨.int .i64 0, w, ?_, π, ρ, s', g1, by rw [g3]; exact Step.refl _ _ _ _ _, g2⟩
        cases A <;> simp [Builtin.copy_, run_underlying ht, Builtin.lenOf, run_sizeOf hsz0, Builtin.firstCells, loadCells, loadCellsFrom, goInt]
      · exact h.elim
    · exact h.elim
  · exact h.elim

end Go.Proofs.Ytloiimhmmcheoaa.Sx
namespace Go.Proofs.Ytloiimhmmcheoaa.Sx
open Go
set_option linter.unusedVariables false
set_option linter.unusedSimpArgs false

/-- The place of b in m. -/
def posOf : List Nat → Nat → Option Nat
  | [], _ => none
  | a :: r, b => bif Nat.beq a b then some 0 else match posOf r b with | some k => some (k + 1) | none => none
theorem posOf_get : ∀ {m : List Nat} {b k : Nat}, posOf m b = some k → m[k]? = some b
  | [], b, k, h => by simp [posOf] at h
  | a :: r, b, k, h => by
    simp only [posOf] at h
    cases hb : Nat.beq a b with
    | true => rw [hb] at h; simp only [cond_true, Option.some.injEq] at h; subst h; rw [beq_eq hb]; rfl
    | false =>
      rw [hb] at h
      simp only [cond_false] at h
      split at h
      · rename_i j hj
        simp only [Option.some.injEq] at h
        subst h
        rw [List.getElem?_cons_succ]
        exact posOf_get hj
      · cases h
theorem posOf_none : ∀ {m : List Nat} {b : Nat}, posOf m b = none → b ∉ m
  | [], b, _ => by simp
  | a :: r, b, h => by
    simp only [posOf] at h
    cases hb : Nat.beq a b with
    | true => rw [hb] at h; cases h
    | false =>
      rw [hb] at h
      simp only [cond_false] at h
      split at h
      · cases h
      · rename_i hn
        intro hm
        rcases List.mem_cons.1 hm with e | hm
        · exact beq_ne hb e.symm
        · exact posOf_none hn hm
def renC (f : Nat → Option Nat) : CV → CV
  | .ptr b o => match f b with | some k => .ptr k o | none => .junk
  | .rptr t b i j => match f b with | some k => .rptr t k i j | none => .junk
  | .view t b a n => match f b with | some k => .view t k a n | none => .junk
  | .mp b => match f b with | some k => .mp k | none => .junk
  | c => c
def renP (f : Nat → Option Nat) : PV → PV
  | .c x => .c (renC f x)
  | .agg l => .agg (l.map (renC f))
  | .clo g l => .clo g (l.map (renC f))
def renS (f : Nat → Option Nat) : SV → SV
  | .p x => .p (renP f x)
  | .gd j w x => .gd j w (renP f x)
  | .tup l => .tup (l.map (renP f))
def renH (f : Nat → Option Nat) : HB → HB
  | .cells t cs => .cells t (cs.map (renC f))
  | .nest e bx fs xs (some (i, cs)) => .nest e bx fs xs (some (i, cs.map (renC f)))
  | it => it
theorem knd_ren (f : Nat → Option Nat) (it : HB) : knd (renH f it) = knd it := by
  cases it with
  | nest e bx fs xs hole => cases hole <;> rfl
  | _ => rfl
def renF (f : Nat → Option Nat) : List (Nat × SV) → List (Nat × SV)
  | [] => []
  | (i, v) :: r => (i, renS f v) :: renF f r
/-- The names of one environment in another one. -/
def Ren (f : Nat → Option Nat) (ρ ρ' : Env) : Prop := ∀ b k x, f b = some k → ρ b = some x → ρ' k = some x
theorem den_ren {π : Pers} {ρ ρ' : Env} {f : Nat → Option Nat} (hr : Ren f ρ ρ') (c : CV) (v : Value) (h : DenC π ρ c v) : DenC π ρ' (renC f c) v := by
  cases c with
  | ptr b o =>
    simp only [renC]
    cases hb : f b with
    | none => trivial
    | some k => obtain ⟨g, p, n, h1, h2⟩ := h; exact ⟨g, p, n, hr b k _ hb h1, h2⟩
  | rptr t b i j =>
    simp only [renC]
    cases hb : f b with
    | none => trivial
    | some k => obtain ⟨g, p, n, h1, h2⟩ := h; exact ⟨g, p, n, hr b k _ hb h1, h2⟩
  | mp b =>
    simp only [renC]
    cases hb : f b with
    | none => trivial
    | some k => obtain ⟨g, p, n, h1, h2⟩ := h; exact ⟨g, p, n, hr b k _ hb h1, h2⟩
  | view t b a n =>
    simp only [renC]
    cases hb : f b with
    | none => trivial
    | some k =>
      rcases h with h | ⟨g, o, m, c, h1, h2⟩
      · exact .inl h
      · exact .inr ⟨g, o, m, c, hr b k _ hb h1, h2⟩
  | _ => exact h
theorem denp_ren {π : Pers} {ρ ρ' : Env} {f : Nat → Option Nat} (hr : Ren f ρ ρ') (c : PV) (v : Value) (h : DenP π ρ c v) : DenP π ρ' (renP f c) v := by
  cases c with
  | c x => exact den_ren hr x v h
  | agg l => obtain ⟨vs, h1, h2⟩ := h; exact ⟨vs, h1, all2_map (den_ren hr) h2⟩
  | clo g l => obtain ⟨vs, h1, h2⟩ := h; exact ⟨vs, h1, all2_map (den_ren hr) h2⟩
theorem slot_ren {π : Pers} {ρ ρ' : Env} {f : Nat → Option Nat} (hr : Ren f ρ ρ') {T : Array Value} {i : Nat} (s : SV) (h : SlotIs π ρ T i s) : SlotIs π ρ' T i (renS f s) := by
  cases s with
  | p x => obtain ⟨v, h1, h2⟩ := h; exact ⟨v, h1, denp_ren hr x v h2⟩
  | gd j w x =>
    obtain ⟨v, h1, h2⟩ := h
    rcases h2 with ⟨h2, h3⟩ | h2
    · exact ⟨v, h1, .inl ⟨h2, denp_ren hr x v h3⟩⟩
    · exact ⟨v, h1, .inr h2⟩
  | tup l => obtain ⟨v, h1, vs, h2, h3⟩ := h; exact ⟨v, h1, vs, h2, all2_map (denp_ren hr) h3⟩
theorem lk_ren {f : Nat → Option Nat} : ∀ {fr : List (Nat × SV)} {i : Nat} {v : SV}, lk (renF f fr) i = some v → ∃ u, lk fr i = some u ∧ v = renS f u
  | [], i, v, h => by simp [renF, lk] at h
  | (j, u) :: r, i, v, h => by
    simp only [renF, lk] at h ⊢
    cases hj : Nat.beq j i
    · rw [hj] at h; exact lk_ren h
    · rw [hj] at h; simp only [cond_true, Option.some.injEq] at h; exact ⟨u, rfl, h.symm⟩
theorem once_ren {f : Nat → Option Nat} : ∀ {fr : List (Nat × SV)}, once fr = true → once (renF f fr) = true
  | [], _ => rfl
  | (j, u) :: r, h => by
    simp only [once, Bool.and_eq_true, renF] at h ⊢
    refine ⟨?_, once_ren h.2⟩
    cases hl : lk (renF f r) j with
    | none => rfl
    | some x => obtain ⟨y, hy, _⟩ := lk_ren hl; rw [hy] at h; exact absurd h.1 (by simp)

def memN : List Nat → Nat → Bool
  | [], _ => false
  | a :: r, b => Nat.beq a b || memN r b
theorem memN_iff : ∀ {m : List Nat} {b : Nat}, memN m b = true ↔ b ∈ m
  | [], b => by simp [memN]
  | a :: r, b => by
    simp only [memN, Bool.or_eq_true, List.mem_cons, memN_iff (m := r)]
    constructor
    · rintro (h | h)
      · exact .inl (beq_eq h).symm
      · exact .inr h
    · rintro (h | h)
      · subst h; exact .inl (Nat.beq_refl _)
      · exact .inr h
def nodupN : List Nat → Bool
  | [] => true
  | a :: r => !memN r a && nodupN r
theorem nodupN_ok : ∀ {m : List Nat}, nodupN m = true → ∀ (i j b : Nat), m[i]? = some b → m[j]? = some b → i = j
  | [], _, i, j, b, h, _ => by simp at h
  | a :: r, hh, i, j, b, hi, hj => by
    simp only [nodupN, Bool.and_eq_true, Bool.not_eq_true'] at hh
    have hna : a ∉ r := fun hm => by rw [memN_iff.2 hm] at hh; exact absurd hh.1 (by simp)
    cases i with
    | zero =>
      cases j with
      | zero => rfl
      | succ j =>
        simp only [List.getElem?_cons_zero, Option.some.injEq] at hi
        rw [List.getElem?_cons_succ] at hj
        subst hi
        exact absurd (List.mem_of_getElem? hj) hna
    | succ i =>
      rw [List.getElem?_cons_succ] at hi
      cases j with
      | zero =>
        simp only [List.getElem?_cons_zero, Option.some.injEq] at hj
        subst hj
        exact absurd (List.mem_of_getElem? hi) hna
      | succ j => rw [List.getElem?_cons_succ] at hj; rw [nodupN_ok hh.2 i j b hi hj]
def allLt (n : Nat) : List Nat → Bool
  | [] => true
  | a :: r => Nat.blt a n && allLt n r
theorem allLt_ok {n : Nat} : ∀ {m : List Nat}, allLt n m = true → ∀ (i b : Nat), m[i]? = some b → b < n
  | [], _, i, b, h => by simp at h
  | a :: r, hh, i, b, h => by
    simp only [allLt, Bool.and_eq_true] at hh
    cases i with
    | zero => simp only [List.getElem?_cons_zero, Option.some.injEq] at h; subst h; simpa [Nat.blt_eq] using hh.1
    | succ i => rw [List.getElem?_cons_succ] at h; exact allLt_ok hh.2 i b h
def envOf (ρ : Env) (m : List Nat) : Env := fun k => match m[k]? with | some b => ρ b | none => none
theorem ren_env (ρ : Env) (m : List Nat) : Ren (posOf m) ρ (envOf ρ m) := by
  intro b k x h hx
  simp [envOf, posOf_get h, hx]
/-- The blocks m alone, named by their places in m. -/
def subH (h : List HB) (m : List Nat) : List Nat → List HB
  | [] => []
  | b :: r => renH (posOf m) ((nth h b).getD .gone) :: subH h m r
theorem subH_get {h : List HB} {m : List Nat} : ∀ {r : List Nat} {k : Nat} {it : HB}, (subH h m r)[k]? = some it → ∃ b, r[k]? = some b ∧ it = renH (posOf m) (h[b]?.getD .gone)
  | [], k, it, hk => by simp [subH] at hk
  | b :: r, k, it, hk => by
    cases k with
    | zero => simp only [subH, List.getElem?_cons_zero, Option.some.injEq] at hk; exact ⟨b, rfl, by rw [← hk, nth_eq]⟩
    | succ k => simp only [subH, List.getElem?_cons_succ] at hk ⊢; exact subH_get hk
theorem subH_len {h : List HB} {m : List Nat} : ∀ (r : List Nat), (subH h m r).length = r.length
  | [] => rfl
  | _ :: r => by simp only [subH, List.length_cons, subH_len r]
theorem own_env {ρ : Env} {m : List Nat} {k g : Nat} (h : own (envOf ρ m k) g) : ∃ b, m[k]? = some b ∧ own (ρ b) g := by
  unfold envOf at h
  split at h
  · rename_i b hb; exact ⟨b, hb, h⟩
  · exact h.elim
theorem hsat_sub {π : Pers} {ρ : Env} {h : List HB} {w : World} (H : HSat π ρ h w) {m : List Nat} (hn : nodupN m = true) (hl : allLt h.length m = true) : HSat π (envOf ρ m) (subH h m m) w := by
  have hlen := subH_len (h := h) (m := m) m
  have hgo : ∀ k g, own (envOf ρ m k) g → ∃ b, m[k]? = some b ∧ own (ρ b) g := fun k g h => own_env h
  refine ⟨?_, ?_, ?_, ?_, H.pers, ?_⟩
  · intro k it hk
    obtain ⟨b, hb, rfl⟩ := subH_get hk
    have hbl := allLt_ok hl k b hb
    have hit := H.items b _ (List.getElem?_eq_getElem hbl)
    rw [List.getElem?_eq_getElem hbl]
    simp only [Option.getD_some]
    have he : envOf ρ m k = ρ b := by simp [envOf, hb]
    generalize h[b] = x at hit
    cases x with
    | cells t cs =>
      obtain ⟨g, vs, h1, h2, h3⟩ := hit
      exact ⟨g, vs, by rw [he]; simpa using h1, h2, all2_map (den_ren (ren_env ρ m)) h3⟩
    | row e t xs =>
      rcases hit with hit | ⟨g, o, vs, h1, h2⟩
      · exact .inl (by rw [he]; exact hit)
      · exact .inr ⟨g, o, vs, by rw [he]; exact h1, h2⟩
    | map ka kt va vt es =>
      obtain ⟨g, ms, clock, h1, h2⟩ := hit
      exact ⟨g, ms, clock, by rw [he]; exact h1, h2⟩
    | nest e bx fs xs hole =>
      rcases hit with ⟨h1, h2, h3⟩ | ⟨g, o, vs, Ls, h1, h2, h3, h4, h5, h6, h7⟩
      · subst h3; exact .inl ⟨by rw [he]; exact h1, h2, rfl⟩
      · cases hole with
        | none => exact .inr ⟨g, o, vs, Ls, by rw [he]; exact h1, h2, h3, h4, h5, h6, h7⟩
        | some q =>
          obtain ⟨j, hs⟩ := q
          exact .inr ⟨g, o, vs, Ls, by rw [he]; exact h1, h2, h3, h4, h5, h6, fun i x L hi hL => nestAt_keep (fun _ _ h => h) (fun _ _ => rfl) (fun j' hs' hh => by cases hh; exact ⟨_, rfl, all2_map (den_ren (ren_env ρ m))⟩) (fun h => by cases h) (h7 i x L hi hL)⟩
    | gone => trivial
  · intro k hk g hr
    obtain ⟨b, hb, hr'⟩ := hgo k g hr
    exact H.lt b (allLt_ok hl k b hb) g hr'
  · intro k k' g hk hk' h1 h2
    obtain ⟨b, hb, hr⟩ := hgo k g h1
    obtain ⟨b', hb', hr'⟩ := hgo k' g h2
    have := H.inj b b' g (allLt_ok hl k b hb) (allLt_ok hl k' b' hb') hr hr'
    subst this
    exact nodupN_ok hn k k' b hb hb'
  · intro k g hk hr
    obtain ⟨b, hb, hr'⟩ := hgo k g hr
    exact H.apart b g (allLt_ok hl k b hb) hr'
  · intro k hk
    rw [hlen] at hk
    simp [envOf, List.getElem?_eq_none hk]
/-- A state in which the blocks m alone are known. -/
def restrict (s : SS) (m : List Nat) : SS := { nt := s.nt, fr := renF (posOf m) s.fr, hp := subH s.hp m m }
theorem sat_restrict {π : Pers} {ρ : Env} {s : SS} {a : Act} {w : World} (S : Sat π ρ s a w) {m : List Nat} (hn : nodupN m = true) (hl : allLt s.hp.length m = true) : Sat π (envOf ρ m) (restrict s m) a w := by
  refine ⟨hsat_sub S.hs hn hl, ?_, S.df, S.nt, once_ren S.on⟩
  intro i v hi
  obtain ⟨u, hu, rfl⟩ := lk_ren hi
  exact slot_ren (ren_env ρ m) u (S.fs i u hu)
def isPre (N : Nat) (m : List Nat) : Bool := match N, m with
  | 0, _ => true
  | _ + 1, [] => false
  | N + 1, _ => pre (N + 1) 0 m
where pre : Nat → Nat → List Nat → Bool
  | 0, _, _ => true
  | _ + 1, _, [] => false
  | n + 1, i, a :: r => Nat.beq a i && pre n (i + 1) r
theorem pre_ok : ∀ {n i : Nat} {m : List Nat}, isPre.pre n i m = true → ∀ k, k < n → m[k]? = some (i + k)
  | 0, _, _, _, k, hk => by omega
  | n + 1, i, [], h, _, _ => by simp [isPre.pre] at h
  | n + 1, i, a :: r, h, k, hk => by
    simp only [isPre.pre, Bool.and_eq_true] at h
    cases k with
    | zero => rw [beq_eq h.1]; rfl
    | succ k => rw [List.getElem?_cons_succ, pre_ok h.2 k (by omega)]; congr 1; omega
theorem isPre_ok {N : Nat} {m : List Nat} (h : isPre N m = true) : ∀ k, k < N → m[k]? = some k := by
  intro k hk
  unfold isPre at h
  split at h
  · omega
  · cases h
  · have := pre_ok h k hk; rwa [Nat.zero_add] at this
theorem step_restrict {N : Nat} {π : Pers} {ρ : Env} {h : List HB} {w : World} (H : HSat π ρ h w) {m : List Nat} (hl : allLt h.length m = true) (hN : isPre N m = true) {ρ' : Env} {h' : List HB} {w' : World} {π' : Pers} (St : Step N (envOf ρ m) (subH h m m) w π ρ' h' w' π') : Step N ρ h w π ρ' h' w' π' := by
  have hlen := subH_len (h := h) (m := m) m
  have hg : ∀ k g, own (envOf ρ m k) g → ∃ b, b < h.length ∧ own (ρ b) g := by
    intro k g hk
    obtain ⟨b, hb, h1⟩ := own_env hk
    exact ⟨b, allLt_ok hl k b hb, h1⟩
  refine ⟨St.os, St.tape, St.output, St.size, ?_, ?_, St.pmono, ?_, ?_⟩
  · intro g hgl hn
    refine St.block g hgl (fun k _ hr => ?_)
    obtain ⟨b, hb, hr'⟩ := hg k _ hr
    exact hn b hb hr'
  · intro k g hk hr
    rcases St.fresh k g hk hr with ⟨j, _, hj⟩ | hge
    · obtain ⟨b, hb, hr'⟩ := hg j _ hj; exact .inl ⟨b, hb, hr'⟩
    · exact .inr hge
  · intro g vs hv
    rcases St.pfresh g vs hv with h0 | ⟨j, _, hj⟩ | hge
    · exact .inl h0
    · obtain ⟨b, hb, hr'⟩ := hg j _ hj; exact .inr (.inl ⟨b, hb, hr'⟩)
    · exact .inr (.inr hge)
  · intro k it κ hk hit hκ
    have hm := isPre_ok hN k hk
    have hsub : (subH h m m)[k]? = some (renH (posOf m) it) := by
      have hlt : k < (subH h m m).length := by rw [hlen]; exact (List.getElem?_eq_some_iff.1 hm).1
      have hget := List.getElem?_eq_getElem hlt
      obtain ⟨b, hb, he⟩ := subH_get hget
      rw [hm] at hb
      cases hb
      rw [hget, he, hit]
      rfl
    obtain ⟨e1, it', h1, k1⟩ := St.keep k _ κ hk hsub (by rw [knd_ren]; exact hκ)
    refine ⟨?_, it', h1, k1⟩
    rw [e1]
    simp [envOf, hm]
end Go.Proofs.Ytloiimhmmcheoaa.Sx
namespace Go.Proofs.Ytloiimhmmcheoaa.Sx
open Go
set_option linter.unusedVariables false
set_option linter.unusedSimpArgs false

def DenS (π : Pers) (ρ : Env) : SV → Value → Prop
  | .p x, v => DenP π ρ x v
  | .tup l, v => DenT π ρ l v
  | .gd _ _ _, _ => False
/-- What a call of f does: from the blocks h on, it comes back with r and the blocks h', and Q holds of these. -/
def FSpec (P : Program) (f : FuncId) (args : List PV) (h : List HB) (Q : SV → List HB → Prop) : Prop :=
  ∀ π ρ w vs, HSat π ρ h w → All2 (DenP π ρ) args vs → Calls P f vs.toArray w fun e w' =>
    ∃ v π' ρ' r h', e = .returned v ∧ DenS π' ρ' r v ∧ HSat π' ρ' h' w' ∧ Step h.length ρ h w π ρ' h' w' π' ∧ Q r h'
theorem FSpec.mono {P : Program} {f : FuncId} {args : List PV} {h : List HB} {Q Q' : SV → List HB → Prop} (H : FSpec P f args h Q) (hq : ∀ r h', Q r h' → Q' r h') : FSpec P f args h Q' :=
  fun π ρ w vs hs ha => (H π ρ w vs hs ha).mono fun e w' ⟨v, π', ρ', r, h', h1, h2, h3, h4, h5⟩ => ⟨v, π', ρ', r, h', h1, h2, h3, h4, hq _ _ h5⟩

/-! ### what has no rows in it says the same under whatever is lasting -/
def Ty.flat : Ty → Bool
  | .row _ => false | .prod a b => a.flat && b.flat | .fix t => t.flat | _ => true
theorem rep_flat {π π' : Pers} : ∀ (t : Ty) (x : t.T) (cs : List Value), t.flat = true → Rep π t x cs → Rep π' t x cs
  | .int k, n, cs, _, h => h
  | .bool, b, cs, _, h => h
  | .str, s, cs, _, h => h
  | .unit, _, cs, _, h => h
  | .prod a b, x, cs, hf, h => by
    simp only [Ty.flat, Bool.and_eq_true] at hf
    obtain ⟨c, d, hc, h1, h2⟩ := h
    exact ⟨c, d, hc, rep_flat a _ _ hf.1 h1, rep_flat b _ _ hf.2 h2⟩
  | .row t, xs, cs, hf, _ => by simp [Ty.flat] at hf
  | .fix t, x, cs, hf, h => rep_flat t x cs hf h
def flatC : CV → Bool | .row _ _ => false | .eptr _ _ _ _ => false | _ => true
def flatL : List CV → Bool | [] => true | c :: r => flatC c && flatL r
def flatP : PV → Bool | .c c => flatC c | .agg l => flatL l | .clo _ l => flatL l
def flatPs : List PV → Bool | [] => true | c :: r => flatP c && flatPs r
def flatS : SV → Bool | .p x => flatP x | .tup l => flatPs l | .gd _ _ _ => false
def FT.flat : FT → Bool | .pure t => t.flat | .own _ t => t.flat
def fsFlat : List FT → Bool | [] => true | f :: r => f.flat && fsFlat r
def flatH : HB → Bool | .cells _ cs => flatL cs | .row _ t _ => t.flat | .map _ kt _ vt _ => kt.flat && vt.flat | .nest _ _ fs _ none => fsFlat fs | .nest _ _ fs _ (some (_, cs)) => fsFlat fs && flatL cs | .gone => true
def flatHs : List HB → Bool | [] => true | c :: r => flatH c && flatHs r
theorem den_flat {π π' : Pers} {ρ : Env} {c : CV} {v : Value} (hf : flatC c = true) (h : DenC π ρ c v) : DenC π' ρ c v := by
  cases c with
  | row t xs => simp [flatC] at hf
  | eptr t xs i j => simp [flatC] at hf
  | _ => exact h
theorem all2_flat {π π' : Pers} {ρ : Env} : ∀ {l : List CV} {vs : List Value}, flatL l = true → All2 (DenC π ρ) l vs → All2 (DenC π' ρ) l vs
  | [], [], _, _ => trivial
  | c :: l, v :: vs, hf, h => by simp only [flatL, Bool.and_eq_true] at hf; exact ⟨den_flat hf.1 h.1, all2_flat hf.2 h.2⟩
  | [], _ :: _, _, h => h.elim
  | _ :: _, [], _, h => h.elim
theorem denp_flat {π π' : Pers} {ρ : Env} {c : PV} {v : Value} (hf : flatP c = true) (h : DenP π ρ c v) : DenP π' ρ c v := by
  cases c with
  | c x => exact den_flat hf h
  | agg l => obtain ⟨vs, h1, h2⟩ := h; exact ⟨vs, h1, all2_flat hf h2⟩
  | clo f l => obtain ⟨vs, h1, h2⟩ := h; exact ⟨vs, h1, all2_flat hf h2⟩
theorem all2_flatP {π π' : Pers} {ρ : Env} : ∀ {l : List PV} {vs : List Value}, flatPs l = true → All2 (DenP π ρ) l vs → All2 (DenP π' ρ) l vs
  | [], [], _, _ => trivial
  | c :: l, v :: vs, hf, h => by simp only [flatPs, Bool.and_eq_true] at hf; exact ⟨denp_flat hf.1 h.1, all2_flatP hf.2 h.2⟩
  | [], _ :: _, _, h => h.elim
  | _ :: _, [], _, h => h.elim
theorem dens_flat {π π' : Pers} {ρ : Env} {r : SV} {v : Value} (hf : flatS r = true) (h : DenS π ρ r v) : DenS π' ρ r v := by
  cases r with
  | p x => exact denp_flat hf h
  | tup l => obtain ⟨vs, h1, h2⟩ := h; exact ⟨vs, h1, all2_flatP hf h2⟩
  | gd j b x => exact h.elim
theorem ent_flat {π π' : Pers} {ag : Bool} {t : Ty} {x : t.T} {v : Value} (hf : t.flat = true) (h : EntIs π ag t x v) : EntIs π' ag t x v := by
  obtain ⟨cs, h1, h2⟩ := h
  exact ⟨cs, rep_flat t x cs hf h1, h2⟩
theorem repF_flat {π π' : Pers} {w : World} : ∀ (fs : List FT) (x : FsT fs) (cs : List Value) (L : List Nat), fsFlat fs = true → RepF π w fs x cs L → RepF π' w fs x cs L
  | [], _, _, _, _, h => h
  | .pure t :: r, x, cs, L, hf, ⟨c, d, h1, h2, h3⟩ => by
    simp only [fsFlat, FT.flat, Bool.and_eq_true] at hf
    exact ⟨c, d, h1, rep_flat t _ _ hf.1 h2, repF_flat r x.2 d L hf.2 h3⟩
  | .own e t :: r, x, cs, L, hf, ⟨v, d, l, L', h1, h2, h3, h4⟩ => by
    simp only [fsFlat, FT.flat, Bool.and_eq_true] at hf
    refine ⟨v, d, l, L', h1, h2, ?_, repF_flat r x.2 d L' hf.2 h4⟩
    rcases h3 with h3 | ⟨g, o, vs, c, a1, a2, a3, a4, a5, a6, a7⟩
    · exact .inl h3
    · exact .inr ⟨g, o, vs, c, a1, a2, a3, a4, a5, a6, fun i x hi => rep_flat t x _ hf.1 (a7 i x hi)⟩
theorem repN_flat {π π' : Pers} {w : World} {bx : Option TypeId} {fs : List FT} {x : FsT fs} {cs : List Value} {L : List Nat} (hf : fsFlat fs = true) (h : RepN π w bx fs x cs L) : RepN π' w bx fs x cs L := by
  cases bx with
  | none => exact repF_flat fs x cs L hf h
  | some T =>
    obtain ⟨g, vs, L', h1, h2, h3, h4⟩ := h
    exact ⟨g, vs, L', h1, h2, h3, repF_flat fs x _ L' hf h4⟩
theorem hb_flat {π π' : Pers} {ρ : Env} {w : World} {k : Nat} {it : HB} (hf : flatH it = true) (h : HBIs π ρ w k it) : HBIs π' ρ w k it := by
  cases it with
  | cells t cs => obtain ⟨g, vs, h1, h2, h3⟩ := h; exact ⟨g, vs, h1, h2, all2_flat hf h3⟩
  | row e t xs =>
    rcases h with h | ⟨g, o, vs, h1, h2, h3, h4, h5⟩
    · exact .inl h
    · exact .inr ⟨g, o, vs, h1, h2, h3, h4, fun i x hi => rep_flat t x _ hf (h5 i x hi)⟩
  | map ka kt va vt es =>
    simp only [flatH, Bool.and_eq_true] at hf
    obtain ⟨g, ms, clock, h1, h2, h3⟩ := h
    exact ⟨g, ms, clock, h1, h2, all2_imp (fun a b h => ⟨ent_flat hf.1 h.1, ent_flat hf.2 h.2⟩) h3⟩
  | nest e bx fs xs hole =>
    rcases h with h | ⟨g, o, vs, Ls, h1, h2, h3, h4, h5, h6, h7⟩
    · exact .inl h
    · refine .inr ⟨g, o, vs, Ls, h1, h2, h3, h4, h5, h6, fun i x L hi hL => ?_⟩
      cases hole with
      | none => exact repN_flat hf (h7 i x L hi hL)
      | some q =>
        obtain ⟨j, hs⟩ := q
        simp only [flatH, Bool.and_eq_true] at hf
        rcases h7 i x L hi hL with ⟨a1, a2, a3⟩ | ⟨a1, a2⟩
        · exact .inl ⟨a1, a2, all2_flat hf.2 a3⟩
        · exact .inr ⟨a1, repN_flat hf.1 a2⟩
  | gone => trivial
theorem flatHs_get : ∀ {h : List HB} {k : Nat} {it : HB}, flatHs h = true → h[k]? = some it → flatH it = true
  | [], k, it, _, hk => by simp at hk
  | x :: r, 0, it, hf, hk => by simp at hk; subst hk; simp only [flatHs, Bool.and_eq_true] at hf; exact hf.1
  | x :: r, k + 1, it, hf, hk => by simp only [flatHs, Bool.and_eq_true] at hf; rw [List.getElem?_cons_succ] at hk; exact flatHs_get hf.2 hk
theorem hb_ren {π : Pers} {ρ ρ' : Env} {w w' : World} {f : Nat → Option Nat} {j k : Nat} (hr : Ren f ρ ρ') (hk : ρ' k = ρ j) (hw : ∀ g, own (ρ j) g → w'.heap[g]? = w.heap[g]?) {it : HB} (h : HBIs π ρ w j it) : HBIs π ρ' w' k (renH f it) := by
  cases it with
  | cells t cs =>
    obtain ⟨g, vs, h1, h2, h3⟩ := h
    exact ⟨g, vs, by rw [hk]; simpa using h1, by rw [hw g (own_main h1)]; exact h2, all2_map (den_ren hr) h3⟩
  | row e t xs =>
    rcases h with h | ⟨g, o, vs, h1, h2, h3⟩
    · exact .inl (by rw [hk]; exact h)
    · exact .inr ⟨g, o, vs, by rw [hk]; exact h1, by rw [hw g (own_main h1)]; exact h2, h3⟩
  | map ka kt va vt es =>
    obtain ⟨g, ms, clock, h1, h2, h3⟩ := h
    exact ⟨g, ms, clock, by rw [hk]; exact h1, by rw [hw g (own_main h1)]; exact h2, h3⟩
  | nest e bx fs xs hole =>
    rcases h with ⟨h1, h2, h3⟩ | ⟨g, o, vs, Ls, h1, h2, h3, h4, h5, h6, h7⟩
    · subst h3; exact .inl ⟨by rw [hk]; exact h1, h2, rfl⟩
    · have hL' : ∀ {i : Nat} {L : List Nat}, Ls[i]? = some L → ∀ g, g ∈ L → w'.heap[g]? = w.heap[g]? := fun hL g hg => hw g (by rw [h1]; exact .inr (mem_flat hL hg))
      cases hole with
      | none => exact .inr ⟨g, o, vs, Ls, by rw [hk]; exact h1, by rw [hw g (own_main h1)]; exact h2, h3, h4, h5, h6, fun i x L hi hL => nestAt_keep (fun _ _ h => h) (hL' hL) (fun j hs hh => by cases hh) (fun _ => rfl) (h7 i x L hi hL)⟩
      | some q =>
        obtain ⟨i0, hs⟩ := q
        exact .inr ⟨g, o, vs, Ls, by rw [hk]; exact h1, by rw [hw g (own_main h1)]; exact h2, h3, h4, h5, h6, fun i x L hi hL => nestAt_keep (fun _ _ h => h) (hL' hL) (fun j' hs' hh => by cases hh; exact ⟨_, rfl, all2_map (den_ren hr)⟩) (fun h => by cases h) (h7 i x L hi hL)⟩
  | gone => trivial
theorem dens_ren {π : Pers} {ρ ρ' : Env} {f : Nat → Option Nat} (hr : Ren f ρ ρ') {r : SV} {v : Value} (h : DenS π ρ r v) : DenS π ρ' (renS f r) v := by
  cases r with
  | p x => exact denp_ren hr x v h
  | tup l => obtain ⟨vs, h1, h2⟩ := h; exact ⟨vs, h1, all2_map (denp_ren hr) h2⟩
  | gd j b x => exact h.elim

/-! ### behind a call -/
def backN (n0 : Nat) (m : List Nat) (j : Nat) : Option Nat := match nth m j with | some b => some b | none => some (n0 + (j - m.length))
def aftN (h : List HB) (m : List Nat) (b : Nat) : Option Nat := bif memN m b then (match nth h b with | some (.cells _ _) => some b | some (.map _ _ _ _ _) => some b | some (.row _ (.fix _) _) => some b | _ => none) else some b
def mrgE (n0 : Nat) (m : List Nat) (nl : Nat) (ρ ρ' : Env) : Env := fun k =>
  if k < n0 then (match posOf m k with | some j => ρ' j | none => ρ k) else if k < n0 + (nl - m.length) then ρ' (m.length + (k - n0)) else none
/-- The old blocks as they are behind the call: from place i on. -/
def mrgO (h h' : List HB) (m : List Nat) : Nat → List HB → List HB
  | _, [] => []
  | i, it :: r => (match posOf m i with | some j => renH (backN h.length m) ((nth h' j).getD .gone) | none => renH (aftN h m) it) :: mrgO h h' m (i + 1) r
def mrgH (h h' : List HB) (m : List Nat) : List HB := mrgO h h' m 0 h ++ (h'.drop m.length).map (renH (backN h.length m))
theorem mrgO_len {h h' : List HB} {m : List Nat} : ∀ (r : List HB) (i : Nat), (mrgO h h' m i r).length = r.length
  | [], _ => rfl
  | _ :: r, i => by simp only [mrgO, List.length_cons, mrgO_len r]
theorem mrgO_get {h h' : List HB} {m : List Nat} : ∀ {r : List HB} {i k : Nat} {it : HB}, (mrgO h h' m i r)[k]? = some it → ∃ x, r[k]? = some x ∧ it = (match posOf m (i + k) with | some j => renH (backN h.length m) ((nth h' j).getD .gone) | none => renH (aftN h m) x)
  | [], i, k, it, hk => by simp [mrgO] at hk
  | x :: r, i, k, it, hk => by
    cases k with
    | zero => simp only [mrgO, List.getElem?_cons_zero, Option.some.injEq] at hk; exact ⟨x, rfl, hk.symm⟩
    | succ k =>
      simp only [mrgO, List.getElem?_cons_succ] at hk ⊢
      obtain ⟨y, h1, h2⟩ := mrgO_get hk
      exact ⟨y, h1, by rw [h2, show i + 1 + k = i + (k + 1) by omega]⟩
theorem posOf_of {m : List Nat} (hn : nodupN m = true) {j b : Nat} (h : m[j]? = some b) : posOf m b = some j := by
  cases hp : posOf m b with
  | none => exact absurd (List.mem_of_getElem? h) (posOf_none hp)
  | some k => rw [nodupN_ok hn k j b (posOf_get hp) h]
section
variable {π π' π2 : Pers} {ρ ρ' : Env} {h h' : List HB} {w w' : World} {m : List Nat}
theorem mrg_loc (hn : nodupN m = true) (hl : allLt h.length m = true) {j b : Nat} (hj : m[j]? = some b) : mrgE h.length m h'.length ρ ρ' b = ρ' j := by
  simp [mrgE, allLt_ok hl j b hj, posOf_of hn hj]
theorem mrg_out {b : Nat} (hb : b < h.length) (hm : posOf m b = none) : mrgE h.length m h'.length ρ ρ' b = ρ b := by
  simp [mrgE, hb, hm]
theorem mrg_new {t : Nat} (ht : m.length + t < h'.length) : mrgE h.length m h'.length ρ ρ' (h.length + t) = ρ' (m.length + t) := by
  have h1 : ¬ (h.length + t < h.length) := by omega
  have h2 : h.length + t < h.length + (h'.length - m.length) := by omega
  simp only [mrgE, if_neg h1, if_pos h2]
  congr 1; omega
theorem ren_back (hn : nodupN m = true) (hl : allLt h.length m = true) (H' : HSat π' ρ' h' w') : Ren (backN h.length m) ρ' (mrgE h.length m h'.length ρ ρ') := by
  intro j k x hk hx
  have hjl : j < h'.length := by
    rcases Nat.lt_or_ge j h'.length with h | h
    · exact h
    · rw [H'.out j h] at hx; cases hx
  unfold backN at hk
  split at hk
  · rename_i b hb
    rw [nth_eq] at hb
    simp only [Option.some.injEq] at hk
    subst hk
    rw [mrg_loc hn hl hb]; exact hx
  · rename_i hb
    rw [nth_eq] at hb
    simp only [Option.some.injEq] at hk
    subst hk
    have hj : m.length ≤ j := List.getElem?_eq_none_iff.1 hb
    rw [mrg_new (by omega), show m.length + (j - m.length) = j by omega]; exact hx
theorem ren_aft (H : HSat π ρ h w) (hn : nodupN m = true) (St : Step m.length (envOf ρ m) (subH h m m) w π2 ρ' h' w' π') : Ren (aftN h m) ρ (mrgE h.length m h'.length ρ ρ') := by
  intro b k x hk hx
  have hb : b < h.length := by
    rcases Nat.lt_or_ge b h.length with h | h
    · exact h
    · rw [H.out b h] at hx; cases hx
  unfold aftN at hk
  cases hm : memN m b with
  | false =>
    rw [hm] at hk
    simp only [cond_false, Option.some.injEq] at hk
    subst hk
    have hp : posOf m b = none := by
      cases hp : posOf m b with
      | none => rfl
      | some j => have := memN_iff.2 (List.mem_of_getElem? (posOf_get hp)); rw [hm] at this; cases this
    rw [mrg_out hb hp]; exact hx
  | true =>
    rw [hm] at hk
    simp only [cond_true] at hk
    have key : ∀ it κ, nth h b = some it → knd it = some κ → mrgE h.length m h'.length ρ ρ' b = some x := by
      intro it κ hit hκ
      rw [nth_eq] at hit
      obtain ⟨j, hj⟩ := List.mem_iff_getElem?.1 (memN_iff.1 hm)
      have hlen := subH_len (h := h) (m := m) m
      have hjl := (List.getElem?_eq_some_iff.1 hj).1
      have hsub : (subH h m m)[j]? = some (renH (posOf m) it) := by
        have hlt : j < (subH h m m).length := by rw [hlen]; exact hjl
        have hget := List.getElem?_eq_getElem hlt
        obtain ⟨b', hb', he⟩ := subH_get hget
        rw [hj] at hb'
        cases hb'
        rw [hget, he, hit]
        rfl
      obtain ⟨e1, _⟩ := St.keep j _ κ hjl hsub (by rw [knd_ren]; exact hκ)
      have hp := posOf_of hn hj
      simp only [mrgE, if_pos hb, hp, e1, envOf, hj]
      exact hx
    split at hk
    · rename_i hit
      cases hk
      exact key _ _ hit rfl
    · rename_i hit
      cases hk
      exact key _ _ hit rfl
    · rename_i hit
      cases hk
      exact key _ _ hit rfl
    · cases hk
/-- The blocks behind a call. πn: what lasts now. -/
theorem hsat_mrg {πn : Pers} (H : HSat π ρ h w) (hn : nodupN m = true) (hl : allLt h.length m = true) (St : Step m.length (envOf ρ m) (subH h m m) w π2 ρ' h' w' π') (H' : HSat πn ρ' h' w') (hml : m.length ≤ h'.length)
    (hp : ∀ g vs, π g = some vs → πn g = some vs) (hpf : ∀ g vs, πn g = some vs → π g = some vs ∨ (∃ j, j < m.length ∧ own (envOf ρ m j) g) ∨ w.heap.size ≤ g) :
    HSat πn (mrgE h.length m h'.length ρ ρ') (mrgH h h' m) w' := by
  have hlen := subH_len (h := h) (m := m) m
  have hR1 := ren_back (ρ := ρ) hn hl H'
  have hR2 := ren_aft H hn St
  have hmo := mrgO_len (h := h) (h' := h') (m := m) h 0
  have hlocal : ∀ j g, own (envOf ρ m j) g → ∃ b, m[j]? = some b ∧ own (ρ b) g := fun j g h => own_env h
  -- an outer block is none of the local ones
  have hsep : ∀ k g, k < h.length → posOf m k = none → own (ρ k) g → (∀ j, ¬ own (envOf ρ m j) g) ∧ w'.heap[g]? = w.heap[g]? := by
    intro k g hk hpk hr
    have h1 : ∀ j, ¬ own (envOf ρ m j) g := by
      intro j hj
      obtain ⟨b, hb, hrb⟩ := hlocal j g hj
      have := H.inj k b g hk (allLt_ok hl j b hb) hr hrb
      subst this
      exact posOf_none hpk (List.mem_of_getElem? hb)
    exact ⟨h1, St.block g (H.lt k hk g hr) (fun j _ => h1 j)⟩
  have hnew : ∀ k, k < (mrgH h h' m).length → (∃ b, k = b ∧ b < h.length ∧ posOf m b = none) ∨ (∃ j, j < h'.length ∧ mrgE h.length m h'.length ρ ρ' k = ρ' j ∧ (mrgH h h' m)[k]? = some (renH (backN h.length m) (h'[j]?.getD .gone)) ∧ (posOf m k = some j ∧ k < h.length ∨ k = h.length + (j - m.length) ∧ m.length ≤ j)) := by
    intro k hk
    unfold mrgH at hk
    rw [List.length_append, hmo, List.length_map, List.length_drop] at hk
    by_cases hkl : k < h.length
    · cases hpk : posOf m k with
      | none => exact .inl ⟨k, rfl, hkl, hpk⟩
      | some j =>
        right
        have hj := posOf_get hpk
        have hjl := (List.getElem?_eq_some_iff.1 hj).1
        refine ⟨j, by omega, mrg_loc hn hl hj, ?_, .inl ⟨rfl, hkl⟩⟩
        unfold mrgH
        rw [List.getElem?_append_left (by rw [hmo]; exact hkl)]
        have hlt : k < (mrgO h h' m 0 h).length := by rw [hmo]; exact hkl
        obtain ⟨x, _, he⟩ := mrgO_get (List.getElem?_eq_getElem hlt)
        rw [List.getElem?_eq_getElem hlt, he, Nat.zero_add, hpk]
        simp only [nth_eq]
    · right
      refine ⟨m.length + (k - h.length), by omega, ?_, ?_, .inr ⟨by omega, by omega⟩⟩
      · have := mrg_new (ρ := ρ) (ρ' := ρ') (h := h) (h' := h') (m := m) (t := k - h.length) (by omega)
        rw [show h.length + (k - h.length) = k by omega] at this
        exact this
      · unfold mrgH
        rw [List.getElem?_append_right (by rw [hmo]; omega), hmo, List.getElem?_map, List.getElem?_drop]
        have hlt : m.length + (k - h.length) < h'.length := by omega
        rw [List.getElem?_eq_getElem hlt]
        rfl
  have hout : ∀ k it, k < h.length → posOf m k = none → (mrgH h h' m)[k]? = some it → ∃ x, h[k]? = some x ∧ it = renH (aftN h m) x := by
    intro k it hk hpk hit
    unfold mrgH at hit
    rw [List.getElem?_append_left (by rw [hmo]; exact hk)] at hit
    obtain ⟨x, hx, he⟩ := mrgO_get hit
    rw [Nat.zero_add, hpk] at he
    exact ⟨x, hx, he⟩
  refine ⟨?_, ?_, ?_, ?_, H'.pers, ?_⟩
  · intro k it hk
    rcases hnew k (List.getElem?_eq_some_iff.1 hk).1 with ⟨b, rfl, hb, hpb⟩ | ⟨j, hj, he, hg, _⟩
    · obtain ⟨x, hx, rfl⟩ := hout k it hb hpb hk
      have hit := hb_keep (π' := πn) (ρ' := ρ) (w' := w') hp (fun _ _ h => h) rfl (fun g hr => (hsep k g hb hpb hr).2) x (H.items k x hx)
      exact hb_ren hR2 (mrg_out hb hpb) (fun _ _ => rfl) hit
    · rw [hg] at hk
      cases hk
      rw [List.getElem?_eq_getElem hj]
      exact hb_ren hR1 he (fun _ _ => rfl) (H'.items j _ (List.getElem?_eq_getElem hj))
  · intro k hk g hr
    rcases hnew k hk with ⟨b, rfl, hb, hpb⟩ | ⟨j, hj, he, _, _⟩
    · rw [mrg_out hb hpb] at hr; exact Nat.lt_of_lt_of_le (H.lt k hb g hr) St.size
    · rw [he] at hr; exact H'.lt j hj g hr
  · have hmix : ∀ k k' g j, k < h.length → posOf m k = none → own (ρ k) g → j < h'.length → mrgE h.length m h'.length ρ ρ' k' = ρ' j → own (ρ' j) g → False := by
      intro k k' g j hk hpk hr hj he hr'
      rcases St.fresh j g hj hr' with ⟨i, _, hi⟩ | hge
      · exact (hsep k g hk hpk hr).1 i hi
      · exact absurd (H.lt k hk g hr) (by omega)
    intro k k' g hk hk' h1 h2
    rcases hnew k hk with ⟨b, rfl, hb, hpb⟩ | ⟨j, hj, he, _, hkj⟩ <;> rcases hnew k' hk' with ⟨b', rfl, hb', hpb'⟩ | ⟨j', hj', he', _, hkj'⟩
    · rw [mrg_out hb hpb] at h1; rw [mrg_out hb' hpb'] at h2; exact H.inj k k' g hb hb' h1 h2
    · rw [mrg_out hb hpb] at h1; rw [he'] at h2; exact (hmix k k' g j' hb hpb h1 hj' he' h2).elim
    · rw [mrg_out hb' hpb'] at h2; rw [he] at h1; exact (hmix k' k g j hb' hpb' h2 hj he h1).elim
    · rw [he] at h1; rw [he'] at h2
      have := H'.inj j j' g hj hj' h1 h2
      subst this
      rcases hkj with ⟨a1, a2⟩ | ⟨a1, a2⟩ <;> rcases hkj' with ⟨b1, b2⟩ | ⟨b1, b2⟩
      · have c1 := posOf_get a1; have c2 := posOf_get b1; rw [c1] at c2; cases c2; rfl
      · have c1 := (List.getElem?_eq_some_iff.1 (posOf_get a1)).1; omega
      · have c1 := (List.getElem?_eq_some_iff.1 (posOf_get b1)).1; omega
      · omega
  · intro k g hk hr
    rcases hnew k hk with ⟨b, rfl, hb, hpb⟩ | ⟨j, hj, he, _, _⟩
    · rw [mrg_out hb hpb] at hr
      cases hg : πn g with
      | none => rfl
      | some vs =>
        rcases hpf g vs hg with h0 | ⟨j, _, hj⟩ | hge
        · rw [H.apart k g hb hr] at h0; cases h0
        · exact ((hsep k g hb hpb hr).1 j hj).elim
        · exact absurd (H.lt k hb g hr) (by omega)
    · rw [he] at hr; exact H'.apart j g hj hr
  · intro k hk
    unfold mrgH at hk
    rw [List.length_append, hmo, List.length_map, List.length_drop] at hk
    have h1 : ¬ (k < h.length) := by omega
    have h2 : ¬ (k < h.length + (h'.length - m.length)) := by omega
    simp only [mrgE, if_neg h1, if_neg h2]
theorem step_mrg {N : Nat} {πn : Pers} (H : HSat π ρ h w) (hn : nodupN m = true) (hl : allLt h.length m = true) (St : Step m.length (envOf ρ m) (subH h m m) w π2 ρ' h' w' π') (hml : m.length ≤ h'.length) (H' : HSat πn ρ' h' w')
    (hp : ∀ g vs, π g = some vs → πn g = some vs) (hpf : ∀ g vs, πn g = some vs → π g = some vs ∨ (∃ j, j < m.length ∧ own (envOf ρ m j) g) ∨ w.heap.size ≤ g) :
    Step N ρ h w π (mrgE h.length m h'.length ρ ρ') (mrgH h h' m) w' πn := by
  have hlen := subH_len (h := h) (m := m) m
  have hmo := mrgO_len (h := h) (h' := h') (m := m) h 0
  have hlocal : ∀ j g, own (envOf ρ m j) g → ∃ b, b < h.length ∧ own (ρ b) g := by
    intro j g hj
    obtain ⟨b, hb, h1⟩ := own_env hj
    exact ⟨b, allLt_ok hl j b hb, h1⟩
  refine ⟨St.os, St.tape, St.output, St.size, ?_, ?_, hp, ?_, ?_⟩
  · intro g hg hnn
    refine St.block g hg (fun j _ hj => ?_)
    obtain ⟨b, hb, hr⟩ := hlocal j g hj
    exact hnn b hb hr
  · intro k g hk hr
    unfold mrgE at hr
    split at hr
    · rename_i hkl
      split at hr
      · rename_i j hj
        have hjl := (List.getElem?_eq_some_iff.1 (posOf_get hj)).1
        rcases St.fresh j g (by omega) hr with ⟨i, _, hi⟩ | hge
        · obtain ⟨b, hb, hrb⟩ := hlocal i g hi; exact .inl ⟨b, hb, hrb⟩
        · exact .inr hge
      · exact .inl ⟨k, hkl, hr⟩
    · split at hr
      · rcases St.fresh _ g (by omega) hr with ⟨i, _, hi⟩ | hge
        · obtain ⟨b, hb, hrb⟩ := hlocal i g hi; exact .inl ⟨b, hb, hrb⟩
        · exact .inr hge
      · exact hr.elim
  · intro g vs hg
    rcases hpf g vs hg with h0 | ⟨j, _, hj⟩ | hge
    · exact .inl h0
    · obtain ⟨b, hb, hr⟩ := hlocal j g hj; exact .inr (.inl ⟨b, hb, hr⟩)
    · exact .inr (.inr hge)
  · intro k it κ _ hit hκ
    have hkl := (List.getElem?_eq_some_iff.1 hit).1
    have hlt : k < (mrgO h h' m 0 h).length := by rw [hmo]; exact hkl
    have hget := List.getElem?_eq_getElem hlt
    obtain ⟨x, hx, he⟩ := mrgO_get hget
    have hfull : (mrgH h h' m)[k]? = some (mrgO h h' m 0 h)[k] := by unfold mrgH; rw [List.getElem?_append_left hlt, hget]
    rw [hit] at hx
    cases hx
    rw [Nat.zero_add] at he
    cases hpk : posOf m k with
    | none =>
      rw [hpk] at he
      exact ⟨mrg_out hkl hpk, _, by rw [hfull, he], by rw [knd_ren]; exact hκ⟩
    | some j =>
      rw [hpk] at he
      have hj := posOf_get hpk
      have hjl := (List.getElem?_eq_some_iff.1 hj).1
      have hsub : (subH h m m)[j]? = some (renH (posOf m) it) := by
        have hlt : j < (subH h m m).length := by rw [hlen]; exact hjl
        have hg := List.getElem?_eq_getElem hlt
        obtain ⟨b', hb', he'⟩ := subH_get hg
        rw [hj] at hb'
        cases hb'
        rw [hg, he', hit]
        rfl
      obtain ⟨e1, it', e2, k2⟩ := St.keep j _ κ hjl hsub (by rw [knd_ren]; exact hκ)
      refine ⟨?_, renH (backN h.length m) it', ?_, by rw [knd_ren]; exact k2⟩
      · rw [mrg_loc hn hl hj, e1]; simp [envOf, hj]
      · rw [hfull, he]; simp only [nth_eq, e2]; rfl
end
end Go.Proofs.Ytloiimhmmcheoaa.Sx
namespace Go.Proofs.Ytloiimhmmcheoaa.Sx
open Go
set_option linter.unusedVariables false
set_option linter.unusedSimpArgs false

abbrev BR (α : Type) := Option (List Prop × List Nat × α)
/-- A slice of the call's own that is handed over to be read: as a row. -/
def brC (s : SS) : CV → BR CV
  | .view t b a n => match nth s.hp b with
    | some (.row _ t' xs) => if h : t' = t then some ([a + n ≤ xs.length], [b], .row t (vw (h ▸ xs : List t.T) a n)) else none
    | _ => none
  | c => some ([], [], c)
def brL (s : SS) : List CV → BR (List CV)
  | [] => some ([], [], [])
  | c :: r => match brC s c, brL s r with
    | some (o, b, x), some (os, bs, xs) => some (o ++ os, b ++ bs, x :: xs)
    | _, _ => none
def brP (s : SS) : PV → BR PV
  | .c c => match brC s c with
    | some (o, b, x) => some (o, b, .c x)
    | none => none
  | .agg l => match brL s l with
    | some (o, b, x) => some (o, b, .agg x)
    | none => none
  | .clo f l => some ([], [], .clo f l)
def brA (s : SS) : List Bool → List PV → BR (List PV)
  | _, [] => some ([], [], [])
  | own, p :: r => match (match own with | true :: _ => some ([], [], p) | _ => brP s p), brA s own.tail r with
    | some (o, b, x), some (os, bs, xs) => some (o ++ os, b ++ bs, x :: xs)
    | _, _ => none
def hits (ρ : Env) (g : Nat) : List Nat → Bool
  | [] => false
  | b :: r => (match ρ b with | some (g', _, _, l) => Nat.beq g' g || memN l g | none => false) || hits ρ g r
theorem hits_iff {ρ : Env} {g : Nat} : ∀ {bs : List Nat}, hits ρ g bs = true ↔ ∃ b, b ∈ bs ∧ own (ρ b) g
  | [] => by simp [hits]
  | b :: r => by
    have h0 : (match ρ b with | some (g', _, _, l) => Nat.beq g' g || memN l g | none => false) = true ↔ own (ρ b) g := by
      cases hr : ρ b with
      | none => simp [own]
      | some q =>
        obtain ⟨g', o, n, l⟩ := q
        simp only [own, Bool.or_eq_true, memN_iff]
        constructor
        · rintro (h | h)
          · exact .inl (beq_eq h).symm
          · exact .inr h
        · rintro (h | h)
          · subst h; exact .inl (Nat.beq_refl _)
          · exact .inr h
    simp only [hits, Bool.or_eq_true, hits_iff (bs := r), h0]
    constructor
    · rintro (h | ⟨c, hc, hr⟩)
      · exact ⟨b, by simp, h⟩
      · exact ⟨c, by simp [hc], hr⟩
    · rintro ⟨c, hc, hr⟩
      rcases List.mem_cons.1 hc with rfl | hc
      · exact .inl hr
      · exact .inr ⟨c, hc, hr⟩
/-- What lasts while the blocks bs are only read. -/
def brE (π : Pers) (ρ : Env) (w : World) (bs : List Nat) : Pers := fun g => match π g with
  | some vs => some vs
  | none => if hits ρ g bs = true then (match w.heap[g]? with | some (.cells vs _ _) => some vs | _ => none) else none
theorem brE_mono (π : Pers) (ρ : Env) (w : World) (bs : List Nat) : ∀ g vs, π g = some vs → brE π ρ w bs g = some vs := fun g vs h => by simp [brE, h]
theorem brE_nil (π : Pers) (ρ : Env) (w : World) : brE π ρ w [] = π := by
  funext g; unfold brE; split <;> simp_all [hits]
def disj : List Nat → List Nat → Bool
  | [], _ => true
  | b :: r, m => !memN m b && disj r m
theorem disj_ok : ∀ {bs m : List Nat}, disj bs m = true → ∀ b, b ∈ bs → b ∉ m
  | [], m, _, b, hb => by simp at hb
  | a :: r, m, h, b, hb => by
    simp only [disj, Bool.and_eq_true, Bool.not_eq_true'] at h
    rcases List.mem_cons.1 hb with rfl | hb
    · intro hm; rw [memN_iff.2 hm] at h; exact absurd h.1 (by simp)
    · exact disj_ok h.2 b hb
theorem hsat_br {π : Pers} {ρ : Env} {h : List HB} {w : World} (H : HSat π ρ h w) {m bs : List Nat} (hn : nodupN m = true) (hl : allLt h.length m = true) (hb : allLt h.length bs = true) (hd : disj bs m = true) : HSat (brE π ρ w bs) (envOf ρ m) (subH h m m) w := by
  have H0 := hsat_sub H hn hl
  refine ⟨fun k it hk => ?_, H0.lt, H0.inj, ?_, ?_, H0.out⟩
  · exact hb_keep (brE_mono π ρ w bs) (fun _ _ h => h) rfl (fun _ _ => rfl) it (H0.items k it hk)
  · intro k g hk hr
    have h0 := H0.apart k g hk hr
    unfold brE
    rw [h0]
    simp only
    split
    · rename_i hh
      obtain ⟨b, hbm, hrb⟩ := hits_iff.1 hh
      obtain ⟨c, hc, hr⟩ := own_env hr
      obtain ⟨i, hi⟩ := List.mem_iff_getElem?.1 hbm
      have := H.inj b c g (allLt_ok hb i b hi) (allLt_ok hl k c hc) hrb hr
      subst this
      exact absurd (List.mem_of_getElem? hc) (disj_ok hd b hbm)
    · rfl
  · intro g vs hg
    unfold brE at hg
    split at hg
    · rename_i vs' hv; simp only [Option.some.injEq] at hg; subst hg; exact H.pers g _ hv
    · split at hg
      · split at hg
        · rename_i vs' e f hv; simp only [Option.some.injEq] at hg; subst hg; exact ⟨e, f, hv⟩
        · cases hg
      · cases hg
def subsN : List Nat → List Nat → Bool
  | [], _ => true
  | b :: r, m => memN m b && subsN r m
theorem brC_ok {π : Pers} {ρ : Env} {s : SS} {a : Act} {w : World} (S : Sat π ρ s a w) {c c' : CV} {v : Value} {o : List Prop} {b : List Nat} (h : DenC π ρ c v) (hc : brC s c = some (o, b, c')) (ho : allP o) {bs : List Nat} (hb : ∀ x, x ∈ b → x ∈ bs) : DenC (brE π ρ w bs) ρ c' v := by
  unfold brC at hc
  split at hc
  · rename_i t b' i n
    split at hc
    · rename_i e t' xs hit
      split at hc
      · rename_i ht
        subst ht
        cases hc
        obtain ⟨han, _⟩ := ho
        have hvl := vw_len han
        rcases h with ⟨rfl, A, rfl⟩ | ⟨g, p, q, cc, hr, h1, h2, h3, rfl⟩
        · refine ⟨A, 0, by rw [hvl], by rw [hvl]; exact Nat.le_refl _, by simp [maxLen], .inl (by simp [vw])⟩
        · rw [nth_eq] at hit
          rcases S.hs.items b' _ hit with ⟨h4, _⟩ | ⟨g', o', vs, h4, h5, h6, h7, h8⟩
          · rw [h4] at hr; cases hr
          · have hap := S.hs.apart b' g' (List.getElem?_eq_some_iff.1 hit).1 (own_main h4)
            rw [h4] at hr
            simp only [Option.some.injEq, Prod.mk.injEq] at hr
            obtain ⟨rfl, rfl, rfl⟩ := hr
            refine ⟨_, cc, by rw [hvl], by rw [hvl]; exact h1, h2, .inr ⟨g', o' + i * t'.sz, vs, rfl, ?_, ?_⟩⟩
            · have hh : hits ρ g' bs = true := hits_iff.2 ⟨b', hb b' (by simp), own_main h4⟩
              simp [brE, hap, hh, h5]
            · intro k x hk
              have := rowAt_vw (a := i) (n := n) (show RowAt π t' vs.toList o' xs from h8) k x hk
              exact rep_mono (brE_mono π ρ w bs) t' x _ this
      · cases hc
    · cases hc
  · cases hc
    exact den_up (brE_mono π ρ w bs) (fun _ _ h => h) _ _ h
theorem allP_app {p q : List Prop} (h : allP (p ++ q)) : allP p ∧ allP q := by
  induction p with
  | nil => exact ⟨trivial, h⟩
  | cons x r ih => exact ⟨⟨h.1, (ih h.2).1⟩, (ih h.2).2⟩
theorem brL_ok {π : Pers} {ρ : Env} {s : SS} {a : Act} {w : World} (S : Sat π ρ s a w) {bs : List Nat} : ∀ {l l' : List CV} {vs : List Value} {o : List Prop} {b : List Nat}, All2 (DenC π ρ) l vs → brL s l = some (o, b, l') → allP o → (∀ x, x ∈ b → x ∈ bs) → All2 (DenC (brE π ρ w bs) ρ) l' vs
  | [], l', vs, o, b, h, hc, _, _ => by simp only [brL, Option.some.injEq, Prod.mk.injEq] at hc; obtain ⟨_, _, rfl⟩ := hc; cases vs with | nil => trivial | cons _ _ => exact h.elim
  | c :: r, l', [], o, b, h, _, _, _ => h.elim
  | c :: r, l', v :: vs, o, b, h, hc, ho, hb => by
    simp only [brL] at hc
    split at hc
    · rename_i o1 b1 x os b2 xs h1 h2
      cases hc
      obtain ⟨ho1, ho2⟩ := allP_app ho
      exact ⟨brC_ok S h.1 h1 ho1 (fun y hy => hb y (by simp [hy])), brL_ok S h.2 h2 ho2 (fun y hy => hb y (by simp [hy]))⟩
    · cases hc
theorem brP_ok {π : Pers} {ρ : Env} {s : SS} {a : Act} {w : World} (S : Sat π ρ s a w) {bs : List Nat} {c c' : PV} {v : Value} {o : List Prop} {b : List Nat} (h : DenP π ρ c v) (hc : brP s c = some (o, b, c')) (ho : allP o) (hb : ∀ x, x ∈ b → x ∈ bs) : DenP (brE π ρ w bs) ρ c' v := by
  cases c with
  | c x =>
    simp only [brP] at hc
    split at hc
    · rename_i o1 b1 y hy
      cases hc
      exact brC_ok S h hy ho hb
    · cases hc
  | agg l =>
    simp only [brP] at hc
    split at hc
    · rename_i o1 b1 y hy
      cases hc
      obtain ⟨vs, h1, h2⟩ := h
      exact ⟨vs, h1, brL_ok S h2 hy ho hb⟩
    · cases hc
  | clo f l =>
    simp only [brP, Option.some.injEq, Prod.mk.injEq] at hc
    obtain ⟨_, _, rfl⟩ := hc
    exact denp_up (brE_mono π ρ w bs) (fun _ _ h => h) _ _ h
theorem brA_ok {π : Pers} {ρ : Env} {s : SS} {a : Act} {w : World} (S : Sat π ρ s a w) {bs : List Nat} : ∀ {l l' : List PV} {own : List Bool} {vs : List Value} {o : List Prop} {b : List Nat}, All2 (DenP π ρ) l vs → brA s own l = some (o, b, l') → allP o → (∀ x, x ∈ b → x ∈ bs) → All2 (DenP (brE π ρ w bs) ρ) l' vs
  | [], l', own, vs, o, b, h, hc, _, _ => by simp only [brA, Option.some.injEq, Prod.mk.injEq] at hc; obtain ⟨_, _, rfl⟩ := hc; cases vs with | nil => trivial | cons _ _ => exact h.elim
  | c :: r, l', own, [], o, b, h, _, _, _ => h.elim
  | c :: r, l', own, v :: vs, o, b, h, hc, ho, hb => by
    simp only [brA] at hc
    split at hc
    · rename_i o1 b1 x os b2 xs h1 h2
      cases hc
      obtain ⟨ho1, ho2⟩ := allP_app ho
      refine ⟨?_, brA_ok S h.2 h2 ho2 (fun y hy => hb y (by simp [hy]))⟩
      split at h1
      · cases h1; exact denp_up (brE_mono π ρ w bs) (fun _ _ h => h) _ _ h.1
      · exact brP_ok S h.1 h1 ho1 (fun y hy => hb y (by simp [hy]))
    · cases hc

/-- The blocks that these cells lead to. -/
def refC : CV → Option Nat
  | .ptr b _ => some b | .rptr _ b _ _ => some b | .view _ b _ _ => some b | .mp b => some b | _ => none
def cellsOfP : PV → List CV | .c c => [c] | .agg l => l | .clo _ l => l
def flatten : List PV → List CV | [] => [] | p :: r => cellsOfP p ++ flatten r
def reach (h : List HB) : Nat → List CV → List Nat → List Nat
  | 0, _, seen => seen
  | _ + 1, [], seen => seen
  | k + 1, c :: r, seen => match refC c with
    | none => reach h k r seen
    | some b => bif memN seen b then reach h k r seen else match nth h b with
      | some (.cells _ cs) => reach h k (cs ++ r) (seen ++ [b])
      | some (.nest _ _ _ _ (some (_, cs))) => reach h k (cs ++ r) (seen ++ [b])
      | _ => reach h k r (seen ++ [b])
abbrev Tr := List PV → List HB → (SV → List HB → Prop) → Prop
def isE : List Nat → Bool | [] => true | _ => false
def putS (s : SS) (dst : Option Nat) (r : SV) (K : SS → Prop) : Prop :=
  match r with
  | .gd _ _ _ => False
  | r => putK s dst r K
def callP (s : SS) (own : List Bool) (tr : Tr) (args : List PV) (dst : Option Nat) (K : SS → Prop) : Prop :=
  match brA s own args with
  | some (ob, bs, args') =>
    let m := reach s.hp 1000 (flatten args') []
    bif nodupN m && allLt s.hp.length m && allLt s.hp.length bs && disj bs m then
      obl ob (tr (args'.map (renP (posOf m))) (subH s.hp m m) fun r h' =>
        bif (isE bs || (flatS r && flatHs h')) && Nat.ble m.length h'.length then
          putS { nt := s.nt, fr := renF (aftN s.hp m) s.fr, hp := mrgH s.hp h' m } dst (renS (backN s.hp.length m) r) K
        else False)
    else False
  | none => False
theorem all2_ren {π : Pers} {ρ ρ' : Env} {f : Nat → Option Nat} (hr : Ren f ρ ρ') {l : List PV} {vs : List Value} (h : All2 (DenP π ρ) l vs) : All2 (DenP π ρ') (l.map (renP f)) vs := all2_map (denp_ren hr) h
theorem callP_ok {N : Nat} {P : Program} {f : FuncId} {tr : Tr} (htr : ∀ args h Q, tr args h Q → FSpec P f args h Q) {π : Pers} {ρ : Env} {s : SS} {a : Act} {w : World} (S : Sat π ρ s a w) {own : List Bool} {args : List PV} {vs : List Value} (ha : All2 (DenP π ρ) args vs) {dst : Option Nat} {K : SS → Prop} (h : callP s own tr args dst K) :
    Calls P f vs.toArray w fun e w' => ∃ v, e = .returned v ∧ Out N P π ρ s w K (a.put dst v) w' := by
  unfold callP at h
  split at h
  · rename_i ob bs args' hbr
    dsimp only at h
    generalize hm : reach s.hp 1000 (flatten args') [] = m at h
    cases hq : (nodupN m && allLt s.hp.length m && allLt s.hp.length bs && disj bs m) with
    | false => rw [hq] at h; exact h.elim
    | true =>
      rw [hq] at h
      simp only [cond_true] at h
      simp only [Bool.and_eq_true] at hq
      obtain ⟨⟨⟨hn, hl⟩, hlb⟩, hdj⟩ := hq
      obtain ⟨ho, htr'⟩ := obl_out h
      have hsp := htr _ _ _ htr'
      have hargs := all2_ren (ren_env ρ m) (brA_ok S (bs := bs) ha hbr ho (fun x hx => hx))
      have hlen := subH_len (h := s.hp) (m := m) m
      refine (hsp (brE π ρ w bs) (envOf ρ m) w vs (hsat_br S.hs hn hl hlb hdj) hargs).mono ?_
      rintro e w' ⟨v, π', ρ', r, h', rfl, hden, H', St, hK⟩
      rw [hlen] at St
      refine ⟨v, rfl, ?_⟩
      cases hq2 : ((isE bs || (flatS r && flatHs h')) && Nat.ble m.length h'.length) with
      | false => rw [hq2] at hK; exact hK.elim
      | true =>
        rw [hq2] at hK
        simp only [cond_true] at hK
        simp only [Bool.and_eq_true, Bool.or_eq_true] at hq2
        obtain ⟨hfl, hle⟩ := hq2
        have hml := Nat.le_of_ble_eq_true hle
        -- what lasts behind the call
        have fin : ∀ πn : Pers, HSat πn ρ' h' w' → DenS πn ρ' r v → (∀ g vs, π g = some vs → πn g = some vs) → (∀ g vs, πn g = some vs → π g = some vs ∨ (∃ j, j < m.length ∧ Sx.own (envOf ρ m j) g) ∨ w.heap.size ≤ g) → Out N P π ρ s w K (a.put dst v) w' := by
          intro πn Hn hdn hp hpf
          have HM := hsat_mrg S.hs hn hl St Hn hml hp hpf
          have SM := step_mrg (N := N) S.hs hn hl St hml Hn hp hpf
          have hR2 := ren_aft S.hs hn St
          have S' : Sat πn (mrgE s.hp.length m h'.length ρ ρ') { nt := s.nt, fr := renF (aftN s.hp m) s.fr, hp := mrgH s.hp h' m } a w' := by
            refine ⟨HM, ?_, S.df, S.nt, once_ren S.on⟩
            intro i x hi
            obtain ⟨u, hu, rfl⟩ := lk_ren hi
            exact slot_ren hR2 _ (slot_up hp (fun _ _ h => h) u (S.fs i u hu))
          have hdr := dens_ren (ren_back (ρ := ρ) hn hl Hn) hdn
          generalize renS (backN s.hp.length m) r = r' at hK hdr
          cases r' with
          | gd j b x => exact hK.elim
          | p x =>
            obtain ⟨s', g1, g2, g3⟩ := putK_ok S' (x := x) hdr hK
            exact ⟨πn, _, s', g1, by rw [g3]; exact SM, g2⟩
          | tup l =>
            obtain ⟨s', g1, g2, g3⟩ := putK_tup S' (x := l) hdr hK
            exact ⟨πn, _, s', g1, by rw [g3]; exact SM, g2⟩
        rcases hfl with he | ⟨hf1, hf2⟩
        · have hbs : bs = [] := by cases bs with | nil => rfl | cons _ _ => simp [isE] at he
          subst hbs
          rw [brE_nil] at St
          refine fin π' H' hden St.pmono (fun g vs hg => ?_)
          rcases St.pfresh g vs hg with h0 | ⟨j, hj, hr⟩ | hge
          · exact .inl h0
          · exact .inr (.inl ⟨j, by omega, hr⟩)
          · exact .inr (.inr hge)
        · refine fin π ⟨?_, H'.lt, H'.inj, ?_, ?_, H'.out⟩ (dens_flat hf1 hden) (fun _ _ h => h) (fun _ _ h => .inl h)
          · intro k it hk
            exact hb_flat (flatHs_get hf2 hk) (H'.items k it hk)
          · intro k g hk hr
            have h0 := H'.apart k g hk hr
            cases hg : π g with
            | none => rfl
            | some vs => have := St.pmono g vs (brE_mono π ρ w bs g vs hg); rw [h0] at this; cases this
          · intro g vs hg
            exact H'.pers g vs (St.pmono g vs (brE_mono π ρ w bs g vs hg))
  · exact h.elim

/-! ### rows that nobody writes any more -/
def keepN (bs : List Nat) (b : Nat) : Option Nat := bif memN bs b then none else some b
def goneB (bs : List Nat) : Nat → List HB → List HB
  | _, [] => []
  | k, it :: r => (bif memN bs k then .gone else renH (keepN bs) it) :: goneB bs (k + 1) r
def frzS (bs : List Nat) (s : SS) : SS := match bs with
  | [] => s
  | _ => { nt := s.nt, fr := renF (keepN bs) s.fr, hp := goneB bs 0 s.hp }
def noCells (h : List HB) : List Nat → Bool
  | [] => true
  | b :: r => (match nth h b with | some (.cells _ _) => false | some (.map _ _ _ _ _) => false | some (.row _ (.fix _) _) => false | some _ => true | none => false) && noCells h r
theorem noCells_ok {h : List HB} : ∀ {bs : List Nat}, noCells h bs = true → ∀ b, b ∈ bs → b < h.length ∧ ∀ it κ, h[b]? = some it → knd it ≠ some κ
  | [], _, b, hb => by simp at hb
  | a :: r, hq, b, hb => by
    simp only [noCells, Bool.and_eq_true] at hq
    rcases List.mem_cons.1 hb with rfl | hb
    · obtain ⟨h1, _⟩ := hq
      rw [nth_eq] at h1
      cases hx : h[b]? with
      | none => rw [hx] at h1; cases h1
      | some it =>
        refine ⟨(List.getElem?_eq_some_iff.1 hx).1, fun y κ e hκ => ?_⟩
        rw [hx] at h1
        simp only [Option.some.injEq] at e
        subst e
        cases it with
        | cells t cs => cases h1
        | map ka kt va vt es => cases h1
        | row e t xs =>
          cases t with
          | fix u => cases h1
          | _ => cases hκ
        | _ => cases hκ
    · exact noCells_ok hq.2 b hb
theorem goneB_get {bs : List Nat} : ∀ {h : List HB} {k i : Nat} {it : HB}, (goneB bs k h)[i]? = some it → ∃ x, h[i]? = some x ∧ it = (bif memN bs (k + i) then .gone else renH (keepN bs) x)
  | [], k, i, it, h => by simp [goneB] at h
  | x :: r, k, 0, it, h => by simp only [goneB, List.getElem?_cons_zero, Option.some.injEq] at h; exact ⟨x, rfl, h.symm⟩
  | x :: r, k, i + 1, it, h => by
    simp only [goneB, List.getElem?_cons_succ] at h ⊢
    obtain ⟨y, h1, h2⟩ := goneB_get h
    exact ⟨y, h1, by rw [h2, show k + 1 + i = k + (i + 1) by omega]⟩
theorem goneB_len {bs : List Nat} : ∀ {h : List HB} {k : Nat}, (goneB bs k h).length = h.length
  | [], _ => rfl
  | _ :: r, k => by simp only [goneB, List.length_cons, goneB_len (h := r)]
theorem goneB_get' {bs : List Nat} {h : List HB} {i : Nat} {x : HB} (hi : h[i]? = some x) : (goneB bs 0 h)[i]? = some (bif memN bs i then .gone else renH (keepN bs) x) := by
  have hlt : i < (goneB bs 0 h).length := by rw [goneB_len]; exact (List.getElem?_eq_some_iff.1 hi).1
  obtain ⟨y, h1, h2⟩ := goneB_get (List.getElem?_eq_getElem hlt)
  rw [hi] at h1
  cases h1
  rw [List.getElem?_eq_getElem hlt, h2, Nat.zero_add]
def frzE (bs : List Nat) (ρ : Env) : Env := fun k => bif memN bs k then none else ρ k
theorem frzE_own {bs : List Nat} {ρ : Env} {k g : Nat} (h : own (frzE bs ρ k) g) : own (ρ k) g ∧ memN bs k = false := by
  unfold frzE at h
  cases hm : memN bs k with
  | true => rw [hm] at h; exact h.elim
  | false => rw [hm] at h; exact ⟨h, rfl⟩
theorem sat_frz {N : Nat} {π : Pers} {ρ : Env} {s : SS} {a : Act} {w : World} (S : Sat π ρ s a w) {bs : List Nat} (hb : noCells s.hp bs = true) :
    ∃ π' ρ', Sat π' ρ' (frzS bs s) a w ∧ Step N ρ s.hp w π ρ' (frzS bs s).hp w π' ∧ (∀ p v, DenP (brE π ρ w bs) ρ p v → DenP π' ρ' (renP (keepN bs) p) v) ∧ (∀ c v, DenC π ρ c v → DenC π' ρ' (renC (keepN bs) c) v) := by
  cases bs with
  | nil =>
    have hR : Ren (keepN []) ρ ρ := by intro b k x hk hx; simp only [keepN, memN, cond_false, Option.some.injEq] at hk; subst hk; exact hx
    exact ⟨π, ρ, S, Step.refl _ _ _ _ _, fun p v h => by rw [brE_nil] at h; exact denp_ren hR p v h, fun c v h => den_ren hR c v h⟩
  | cons b0 bs0 =>
    generalize hbs : b0 :: bs0 = bs at *
    have hfs : frzS bs s = { nt := s.nt, fr := renF (keepN bs) s.fr, hp := goneB bs 0 s.hp } := by subst hbs; rfl
    rw [hfs]
    have hR : Ren (keepN bs) ρ (frzE bs ρ) := by
      intro b k x hk hx
      unfold keepN at hk
      unfold frzE
      cases hm : memN bs b with
      | true => rw [hm] at hk; cases hk
      | false => rw [hm] at hk; simp only [cond_false, Option.some.injEq] at hk; subst hk; rw [hm]; exact hx
    have hmono := brE_mono π ρ w bs
    have hlen : (goneB bs 0 s.hp).length = s.hp.length := goneB_len
    have hpers : ∀ g vs, brE π ρ w bs g = some vs → (π g = some vs ∨ ∃ j, j < s.hp.length ∧ own (ρ j) g) ∧ ∃ e f, w.heap[g]? = some (.cells vs e f) := by
      intro g vs hg
      unfold brE at hg
      split at hg
      · rename_i vs' hv; simp only [Option.some.injEq] at hg; subst hg; exact ⟨.inl hv, S.hs.pers g _ hv⟩
      · split at hg
        · rename_i hh
          obtain ⟨b, hbm, hrb⟩ := hits_iff.1 hh
          split at hg
          · rename_i vs' e f hv; simp only [Option.some.injEq] at hg; subst hg; exact ⟨.inr ⟨b, (noCells_ok hb b hbm).1, hrb⟩, e, f, hv⟩
          · cases hg
        · cases hg
    have H : HSat (brE π ρ w bs) (frzE bs ρ) (goneB bs 0 s.hp) w := by
      refine ⟨?_, ?_, ?_, ?_, fun g vs hg => (hpers g vs hg).2, ?_⟩
      · intro k it hk
        obtain ⟨x, hx, rfl⟩ := goneB_get hk
        rw [Nat.zero_add]
        cases hm : memN bs k with
        | true => trivial
        | false =>
          have h0 := hb_keep (π' := brE π ρ w bs) (w' := w) hmono (fun _ _ h => h) rfl (fun _ _ => rfl) x (S.hs.items k x hx)
          exact hb_ren hR (by simp [frzE, hm]) (fun _ _ => rfl) h0
      · intro k hk g hr; rw [hlen] at hk; exact S.hs.lt k hk g (frzE_own hr).1
      · intro k k' g hk hk' h1 h2; rw [hlen] at hk hk'; exact S.hs.inj k k' g hk hk' (frzE_own h1).1 (frzE_own h2).1
      · intro k g hk hr
        rw [hlen] at hk
        obtain ⟨h1, h2⟩ := frzE_own hr
        have h0 := S.hs.apart k g hk h1
        unfold brE
        rw [h0]
        simp only
        split
        · rename_i hh
          obtain ⟨b, hbm, hrb⟩ := hits_iff.1 hh
          have := S.hs.inj k b g hk (noCells_ok hb b hbm).1 h1 hrb
          subst this
          rw [memN_iff.2 hbm] at h2; cases h2
        · rfl
      · intro k hk; rw [hlen] at hk; unfold frzE; rw [S.hs.out k hk]; cases memN bs k <;> rfl
    refine ⟨brE π ρ w bs, frzE bs ρ, ⟨H, ?_, S.df, S.nt, once_ren S.on⟩, ?_, fun p v h => denp_ren hR p v h, fun c v h => den_ren hR c v (den_up hmono (fun _ _ h => h) c v h)⟩
    · intro i v hi
      obtain ⟨u, hu, rfl⟩ := lk_ren hi
      exact slot_ren hR _ (slot_up hmono (fun _ _ h => h) u (S.fs i u hu))
    · refine ⟨rfl, rfl, rfl, Nat.le_refl _, fun _ _ _ => rfl, ?_, hmono, ?_, ?_⟩
      · intro k g hk hr
        simp only [hlen] at hk
        exact .inl ⟨k, hk, (frzE_own hr).1⟩
      · intro g vs hg
        rcases (hpers g vs hg).1 with h | h
        · exact .inl h
        · exact .inr (.inl h)
      · intro k it κ _ hk hκ
        have hm : memN bs k = false := by
          cases hm : memN bs k with
          | false => rfl
          | true => exact absurd hκ ((noCells_ok hb k (memN_iff.1 hm)).2 it κ hk)
        refine ⟨by simp [frzE, hm], renH (keepN bs) it, ?_, by rw [knd_ren]; exact hκ⟩
        simp only
        rw [goneB_get' hk, hm]
        rfl
/-- Parts, in which slices of the call's own are rows that nobody writes any more. -/
def brPs (s : SS) : List (Nat × PV) → BR (List (Nat × PV))
  | [] => some ([], [], [])
  | (i, p) :: r => match brP s p, brPs s r with
    | some (o, b, x), some (os, bs, xs) => some (o ++ os, b ++ bs, (i, x) :: xs)
    | _, _ => none
theorem brPs_ok {π : Pers} {ρ : Env} {s : SS} {a : Act} {w : World} (S : Sat π ρ s a w) {bs : List Nat} : ∀ {l l' : List (Nat × PV)} {vs : List (Nat × Value)} {o : List Prop} {b : List Nat}, All2 (fun p u => p.1 = u.1 ∧ DenP π ρ p.2 u.2) l vs → brPs s l = some (o, b, l') → allP o → (∀ x, x ∈ b → x ∈ bs) → All2 (fun p u => p.1 = u.1 ∧ DenP (brE π ρ w bs) ρ p.2 u.2) l' vs
  | [], l', vs, o, b, h, hc, _, _ => by simp only [brPs, Option.some.injEq, Prod.mk.injEq] at hc; obtain ⟨_, _, rfl⟩ := hc; cases vs with | nil => trivial | cons _ _ => exact h.elim
  | c :: r, l', [], o, b, h, _, _, _ => h.elim
  | (i, p) :: r, l', v :: vs, o, b, h, hc, ho, hb => by
    simp only [brPs] at hc
    split at hc
    · rename_i o1 b1 x os b2 xs h1 h2
      cases hc
      obtain ⟨ho1, ho2⟩ := allP_app ho
      exact ⟨⟨h.1.1, brP_ok S h.1.2 h1 ho1 (fun y hy => hb y (by simp [hy]))⟩, brPs_ok S h.2 h2 ho2 (fun y hy => hb y (by simp [hy]))⟩
    · cases hc
def renPs (f : Nat → Option Nat) (l : List (Nat × PV)) : List (Nat × PV) := l.map fun p => (p.1, renP f p.2)
/-- Whether the blocks hold no rows of data. -/
def flatAt (h : List HB) : List Nat → Bool
  | [] => true
  | b :: r => (match nth h b with | some it => flatH it | none => true) && flatAt h r
/-- A call; where what is handed over to be read can't be told apart behind it, it is read alone from now on. -/
def callF (s : SS) (own : List Bool) (tr : Tr) (args : List PV) (dst : Option Nat) (K : SS → Prop) : Prop :=
  match brA s own args with
  | some (ob, bs, args') => bif isE bs || flatAt s.hp (reach s.hp 1000 (flatten args') []) then callP s own tr args dst K
    else bif noCells s.hp bs then obl ob (callP (frzS bs s) (args'.map fun _ => true) tr (args'.map (renP (keepN bs))) dst K) else False
  | none => False
theorem callF_ok {N : Nat} {P : Program} {f : FuncId} {tr : Tr} (htr : ∀ args h Q, tr args h Q → FSpec P f args h Q) {π : Pers} {ρ : Env} {s : SS} {a : Act} {w : World} (S : Sat π ρ s a w) {own : List Bool} {args : List PV} {vs : List Value} (ha : All2 (DenP π ρ) args vs) {dst : Option Nat} {K : SS → Prop} (h : callF s own tr args dst K) :
    Calls P f vs.toArray w fun e w' => ∃ v, e = .returned v ∧ Out N P π ρ s w K (a.put dst v) w' := by
  unfold callF at h
  split at h
  · rename_i ob bs args' hbr
    cases hc : (isE bs || flatAt s.hp (reach s.hp 1000 (flatten args') [])) with
    | true => rw [hc] at h; exact callP_ok htr S ha h
    | false =>
      rw [hc] at h
      simp only [cond_false] at h
      cases hq : noCells s.hp bs with
      | false => rw [hq] at h; exact h.elim
      | true =>
        rw [hq] at h
        obtain ⟨ho, hK⟩ := obl_out h
        obtain ⟨π', ρ', S', St, hp', hc'⟩ := sat_frz (N := N) S hq
        have hd := brA_ok S (bs := bs) ha hbr ho (fun x hx => hx)
        refine (callP_ok (N := N) htr S' (all2_map hp' hd) hK).mono ?_
        rintro e w' ⟨v, rfl, π2, ρ2, s2, h2, h3, h4⟩
        exact ⟨v, rfl, π2, ρ2, s2, h2, St.trans h3, h4⟩
  · exact h.elim
end Go.Proofs.Ytloiimhmmcheoaa.Sx
namespace Go.Proofs.Ytloiimhmmcheoaa.Sx
open Go
set_option linter.unusedVariables false
set_option linter.unusedSimpArgs false

def atomB (fn : Func) (nm : String) : Bool := (fn.name == nm) && (fn.origin == "") && fn.body.isNone && !(fn.name == "runtime.NumGoroutine")
theorem next_none1 : Extern.allNextRows.lookup "sync/atomic.AddInt64" = none := by kernel_rfl
theorem next_none2 : Extern.allNextRows.lookup "sync/atomic.LoadInt64" = none := by kernel_rfl
theorem next_none0 : Extern.allNextRows.lookup "" = none := by kernel_rfl
theorem find_add {fn : Func} (h : atomB fn "sync/atomic.AddInt64" = true) : Extern.findNext fn = none ∧ Extern.find fn = some (Extern.Atomic.update (Op.intArith .add) .i64 true) := by
  simp only [atomB, Bool.and_eq_true, beq_iff_eq] at h
  obtain ⟨⟨⟨h1, h2⟩, _⟩, _⟩ := h
  unfold Extern.findNext Extern.find
  rw [h1, h2]
  constructor
  · simp only [next_none1, next_none0]; rfl
  · have e1 : Extern.allGenericRows.lookup "sync/atomic.AddInt64" = none := by kernel_rfl
    have e2 : Extern.allTypedRows.lookup "sync/atomic.AddInt64" = none := by kernel_rfl
    have e3 : Extern.allRows.lookup "sync/atomic.AddInt64" = some (Extern.Atomic.update (Op.intArith .add) .i64 true) := by kernel_rfl
    simp only [e1, e2, e3]; rfl
theorem find_load {fn : Func} (h : atomB fn "sync/atomic.LoadInt64" = true) : Extern.findNext fn = none ∧ Extern.find fn = some (Extern.Atomic.loadT (.int .i64)) := by
  simp only [atomB, Bool.and_eq_true, beq_iff_eq] at h
  obtain ⟨⟨⟨h1, h2⟩, _⟩, _⟩ := h
  unfold Extern.findNext Extern.find
  rw [h1, h2]
  constructor
  · simp only [next_none2, next_none0]; rfl
  · have e1 : Extern.allGenericRows.lookup "sync/atomic.LoadInt64" = none := by kernel_rfl
    have e2 : Extern.allTypedRows.lookup "sync/atomic.LoadInt64" = none := by kernel_rfl
    have e3 : Extern.allRows.lookup "sync/atomic.LoadInt64" = some (Extern.Atomic.loadT (.int .i64)) := by kernel_rfl
    simp only [e1, e2, e3]; rfl
/-- A call of a function without a body: an atomic load, an atomic sum. -/
def extnP (s : SS) (fn : Func) (args : List PV) (dst : Option Nat) (K : SS → Prop) : Prop :=
  match args with
  | [.c (.ptr b off)] => bif atomB fn "sync/atomic.LoadInt64" then (match nth s.hp b with
    | some (.cells _ c0) => (match nth c0 off with
      | some (.int .i64 v) => putK s dst (.p (.c (.int .i64 v))) K
      | _ => False)
    | _ => False) else False
  | [.c (.ptr b off), .c (.int .i64 d)] => bif atomB fn "sync/atomic.AddInt64" then (match nth s.hp b with
    | some (.cells t0 c0) => (match nth c0 off with
      | some (.int .i64 v) => putK { s with hp := s.hp.set b (.cells t0 (c0.set off (.int .i64 (IntKind.i64.wrap (v + d))))) } dst (.p (.c (.int .i64 (IntKind.i64.wrap (v + d))))) K
      | _ => False)
    | _ => False) else False
  | _ => False
theorem extnP_ok {N : Nat} {P : Program} {π : Pers} {ρ : Env} {s : SS} {a : Act} {w : World} (S : Sat π ρ s a w) {f : FuncId} {fn : Func} (hf : P.funcs[f]? = some fn) {args : List PV} {vs : List Value} (ha : All2 (DenP π ρ) args vs) {dst : Option Nat} {K : SS → Prop} (h : extnP s fn args dst K) :
    ∃ u w', (callFunc f vs.toArray).run P w = .ok (.value u) w' ∧ Out N P π ρ s w K (a.put dst u) w' := by
  unfold extnP at h
  split at h
  · rename_i b off
    cases hb : atomB fn "sync/atomic.LoadInt64" with
    | false => rw [hb] at h; exact h.elim
    | true =>
      rw [hb] at h
      simp only [cond_true] at h
      obtain ⟨hn, he⟩ := find_load hb
      simp only [atomB, Bool.and_eq_true, Bool.not_eq_true'] at hb
      split at h
      · rename_i t0 c0 hit
        split at h
        · rename_i v hv
          rw [nth_eq] at hit hv
          obtain ⟨g, cs, hr, hg, hc⟩ := S.hs.items b _ hit
          match vs, ha with
          | [x], ha =>
            obtain ⟨g', o', n', hr', rfl⟩ := ha.1
            rw [hr] at hr'
            cases hr'
            obtain ⟨u, hu, hd⟩ := all2_get hc off _ hv
            have hd : u = .int .i64 v := hd
            subst hd
            have hcell : w.cell? ⟨g, 0 + off, none⟩ = some (.int .i64 v) := by rw [Nat.zero_add, cell_of_row w g off cs t0 (0, 0) hg]; simpa using hu
            obtain ⟨s', g1, g2, g3⟩ := putK_ok S (u := .int .i64 v) (x := .c (.int .i64 v)) rfl h
            exact ⟨_, w, run_call_load hf hb.2 hb.1.2 hn .i64 he hcell, π, ρ, s', g1, by rw [g3]; exact Step.refl _ _ _ _ _, g2⟩
        · exact h.elim
      · exact h.elim
  · rename_i b off d
    cases hb : atomB fn "sync/atomic.AddInt64" with
    | false => rw [hb] at h; exact h.elim
    | true =>
      rw [hb] at h
      simp only [cond_true] at h
      obtain ⟨hn, he⟩ := find_add hb
      simp only [atomB, Bool.and_eq_true, Bool.not_eq_true'] at hb
      split at h
      · rename_i t0 c0 hit
        split at h
        · rename_i v hv
          rw [nth_eq] at hit hv
          have hbl := (List.getElem?_eq_some_iff.1 hit).1
          obtain ⟨g, cs, hr, hg, hc⟩ := S.hs.items b _ hit
          match vs, ha with
          | [x, y], ha =>
            obtain ⟨g', o', n', hr', rfl⟩ := ha.1
            have hy : y = .int .i64 d := ha.2.1
            subst hy
            rw [hr] at hr'
            cases hr'
            obtain ⟨u, hu, hd⟩ := all2_get hc off _ hv
            have hd : u = .int .i64 v := hd
            subst hd
            have hcell : w.cell? ⟨g, 0 + off, none⟩ = some (.int .i64 v) := by rw [Nat.zero_add, cell_of_row w g off cs t0 (0, 0) hg]; simpa using hu
            have hfz : w.frozen? ⟨g, 0 + off, none⟩ = false := frozen_of_row w g _ cs t0 hg
            have hrun : (callFunc f #[.pointer (some ⟨g, 0 + off, none⟩), .int .i64 d]).run P w = .ok (.value (.int .i64 (IntKind.i64.wrap (v + d)))) (w.setCell ⟨g, 0 + off, none⟩ (.int .i64 (IntKind.i64.wrap (v + d)))) := by
              rw [run_callFunc_extern hf hb.2 hb.1.2 hn he, Conc.run_add_entry hcell hfz]; rfl
            rw [Nat.zero_add, setCell_eq_setRow w g off cs t0 (0, 0) _ hg] at hrun
            have hw : ∀ k, k < w.heap.size → ¬ own (ρ b) k → (w.setRow g (cs.setIfInBounds off (.int .i64 (IntKind.i64.wrap (v + d))))).heap[k]? = w.heap[k]? := fun k hk hne => setRow_other w g k _ (fun e => hne (by rw [e]; exact own_main hr))
            have hput : HSat π ρ (s.hp.set b (.cells t0 (c0.set off (.int .i64 (IntKind.i64.wrap (v + d)))))) (w.setRow g (cs.setIfInBounds off (.int .i64 (IntKind.i64.wrap (v + d))))) := by
              refine hsat_put S.hs b _ (by simp) hw hbl ?_
              refine ⟨g, _, ?_, setRow_heap w g cs _ t0 (0, 0) hg, ?_⟩
              · rw [List.length_set]; exact hr
              · rw [Array.toList_setIfInBounds]; exact all2_set (show DenC π ρ (.int .i64 (IntKind.i64.wrap (v + d))) (.int .i64 (IntKind.i64.wrap (v + d))) from rfl) hc off
            have S1 := sat_heap S hput (fun _ _ h => h) (fun _ _ h => h)
            obtain ⟨s', g1, g2, g3⟩ := putK_ok S1 (u := .int .i64 (IntKind.i64.wrap (v + d))) (x := .c (.int .i64 (IntKind.i64.wrap (v + d)))) rfl h
            rw [Nat.zero_add]
            refine ⟨_, _, hrun, π, ρ, s', g1, ?_, g2⟩
            rw [g3]
            exact step_put S.hs b hbl (by simp) (keep_set b _ (fun x κ hh hκ => by rw [hit] at hh; cases hh; exact hκ)) rfl rfl rfl (by simp) hw
        · exact h.elim
      · exact h.elim
  · exact h.elim
end Go.Proofs.Ytloiimhmmcheoaa.Sx
namespace Go.Proofs.Ytloiimhmmcheoaa.Sx
open Go
set_option linter.unusedVariables false
set_option linter.unusedSimpArgs false

/-- '==' of data. -/
def eqT : (t : Ty) → t.T → t.T → Bool
  | .int _, a, b => (a : Int) == b
  | .bool, a, b => (a : Bool) == b
  | .str, a, b => strEq a b
  | .unit, _, _ => true
  | .prod s t, a, b => eqT s a.1 b.1 && eqT t a.2 b.2
  | .row _, _, _ => false
  | .fix _, _, _ => false
def Ty.key : Ty → Bool
  | .row _ => false | .fix _ => false | .prod a b => a.key && b.key | _ => true
theorem eqT_iff : ∀ (t : Ty), t.key = true → ∀ a b : t.T, eqT t a b = true ↔ a = b
  | .int _, _, a, b => by simp [eqT]
  | .bool, _, a, b => by simp [eqT]
  | .str, _, a, b => by simp only [eqT]; exact strEq_iff a b
  | .unit, _, a, b => by simp [eqT]
  | .prod s t, h, a, b => by
    simp only [Ty.key, Bool.and_eq_true] at h
    obtain ⟨a1, a2⟩ := a
    obtain ⟨b1, b2⟩ := b
    simp only [eqT, Bool.and_eq_true, eqT_iff s h.1, eqT_iff t h.2, Prod.mk.injEq]
  | .row _, h, _, _ => by simp [Ty.key] at h
  | .fix _, h, _, _ => by simp [Ty.key] at h
/-- A type of single cells that may be held against one another. -/
def leafK (P : Program) (T : TypeId) (t : Ty) : Bool :=
  match P.underlying T, t with
  | some (.int k), .int k' => decide (k' = k)
  | some .bool, .bool => true
  | some .string, .str => true
  | _, _ => false
/-- Fields from a cell on. -/
def fldK (P : Program) : List Field → Ty → Nat → Bool
  | [f], t, off => !(f.name == "_") && Nat.beq f.offset off && leafK P f.type t
  | f :: g :: r, .prod a b, off => !(f.name == "_") && Nat.beq f.offset off && leafK P f.type a && fldK P (g :: r) b (off + 1)
  | _, _, _ => false
/-- A key's type: whether its values are structs, and their data. -/
def keyK (P : Program) (T : TypeId) (ag : Bool) (t : Ty) : Bool :=
  match ag with
  | false => leafK P T t
  | true => match P.underlying T with
    | some (.struct fs) => !P.stoodInHeld T && fldK P fs.toList t 0
    | _ => false
section
variable {P : Program} {π : Pers}
theorem leaf_shape {T : TypeId} {t : Ty} (h : leafK P T t = true) : (∃ k, P.underlying T = some (.int k) ∧ t = .int k) ∨ (P.underlying T = some .bool ∧ t = .bool) ∨ (P.underlying T = some .string ∧ t = .str) := by
  unfold leafK at h
  split at h
  · rename_i k k' hu; have := of_decide_eq_true h; subst this; exact .inl ⟨_, hu, rfl⟩
  · rename_i hu; exact .inr (.inl ⟨hu, rfl⟩)
  · rename_i hu; exact .inr (.inr ⟨hu, rfl⟩)
  · cases h
theorem leaf_one {T : TypeId} {t : Ty} (h : leafK P T t = true) {x : t.T} {cs : List Value} (hx : Rep π t x cs) : ∃ v, cs = [v] := by
  rcases leaf_shape h with ⟨k, _, rfl⟩ | ⟨_, rfl⟩ | ⟨_, rfl⟩
  · exact ⟨_, hx⟩
  · exact ⟨_, hx⟩
  · exact ⟨_, hx.1⟩
theorem leaf_eq {T : TypeId} {t : Ty} (h : leafK P T t = true) {x y : t.T} {u v : Value} (hx : Rep π t x [u]) (hy : Rep π t y [v]) (d : Nat) (w : World) : (Op.equalIn (d + 1) T u v).run P w = .ok (eqT t x y) w := by
  rcases leaf_shape h with ⟨k, hu, rfl⟩ | ⟨hu, rfl⟩ | ⟨hu, rfl⟩
  · simp only [Rep, List.cons.injEq, and_true] at hx hy
    exact eqC_ok (π := π) (ρ := fun _ => none) (x := .int k x) (y := .int k y) hx hy (by simp [eqC, isIn, hu, eqT]) d w
  · simp only [Rep, List.cons.injEq, and_true] at hx hy
    exact eqC_ok (π := π) (ρ := fun _ => none) (x := .bool x) (y := .bool y) hx hy (by simp [eqC, isBl, hu, eqT]) d w
  · simp only [Rep, List.cons.injEq, and_true] at hx hy
    exact eqC_ok (π := π) (ρ := fun _ => none) (x := .str x) (y := .str y) hx hy (by simp [eqC, isSt, hu, eqT]) d w
theorem part_leaf {T : TypeId} {t : Ty} (h : leafK P T t = true) {vs : List Value} {off : Nat} {v : Value} (hv : vs[off]? = some v) (w : World) : (part T vs.toArray off).run P w = .ok v w := by
  have ha : isAggB P T = some false := by
    rcases leaf_shape h with ⟨k, hu, rfl⟩ | ⟨hu, rfl⟩ | ⟨hu, rfl⟩ <;> simp [isAggB, hu]
  simp [part, run_isAgg ha, hv]
theorem fld_eq {d : Nat} (w : World) : ∀ (fs : List Field) (t : Ty) (off : Nat) (x y : t.T) (us vs pre pre' : List Value), fldK P fs t off = true → pre.length = off → pre'.length = off → Rep π t x us → Rep π t y vs → (Op.eqFields (d + 1) (pre ++ us).toArray (pre' ++ vs).toArray fs).run P w = .ok (eqT t x y) w
  | [], t, off, x, y, us, vs, pre, pre', h, _, _, _, _ => by simp [fldK] at h
  | [f], t, off, x, y, us, vs, pre, pre', h, h1, h2, hx, hy => by
    simp only [fldK, Bool.and_eq_true, Bool.not_eq_true', beq_eq_false_iff_ne, ne_eq] at h
    obtain ⟨⟨hn, ho⟩, hl⟩ := h
    have ho := beq_eq ho
    obtain ⟨u, rfl⟩ := leaf_one hl hx
    obtain ⟨v, rfl⟩ := leaf_one hl hy
    have p1 := part_leaf hl (vs := pre ++ [u]) (off := f.offset) (v := u) (by rw [ho, ← h1, List.getElem?_append_right (Nat.le_refl _)]; simp) w
    have p2 := part_leaf hl (vs := pre' ++ [v]) (off := f.offset) (v := v) (by rw [ho, ← h2, List.getElem?_append_right (Nat.le_refl _)]; simp) w
    have he := leaf_eq hl hx hy d w
    rw [Op.eqFields]
    simp only [if_pos hn, Sem.run_bind, p1, p2, he, Result.andThen_ok]
    cases eqT t x y <;> simp [Op.eqFields]
  | f :: g :: r, .prod a b, off, x, y, us, vs, pre, pre', h, h1, h2, hx, hy => by
    simp only [fldK, Bool.and_eq_true, Bool.not_eq_true', beq_eq_false_iff_ne, ne_eq] at h
    obtain ⟨⟨⟨hn, ho⟩, hl⟩, hr⟩ := h
    have ho := beq_eq ho
    obtain ⟨c1, d1, rfl, hx1, hx2⟩ := hx
    obtain ⟨c2, d2, rfl, hy1, hy2⟩ := hy
    obtain ⟨u, rfl⟩ := leaf_one hl hx1
    obtain ⟨v, rfl⟩ := leaf_one hl hy1
    have p1 := part_leaf hl (vs := pre ++ ([u] ++ d1)) (off := f.offset) (v := u) (by rw [ho, ← h1, List.getElem?_append_right (Nat.le_refl _)]; simp) w
    have p2 := part_leaf hl (vs := pre' ++ ([v] ++ d2)) (off := f.offset) (v := v) (by rw [ho, ← h2, List.getElem?_append_right (Nat.le_refl _)]; simp) w
    have he := leaf_eq hl hx1 hy1 d w
    have ih := fld_eq (d := d) w (g :: r) b (off + 1) x.2 y.2 d1 d2 (pre ++ [u]) (pre' ++ [v]) hr (by simp [h1]) (by simp [h2]) hx2 hy2
    rw [List.append_assoc, List.append_assoc] at ih
    rw [Op.eqFields]
    simp only [if_pos hn, Sem.run_bind, p1, p2, he, Result.andThen_ok, eqT]
    cases hq : eqT a x.1 y.1
    · simp
    · simpa using ih
  | f :: g :: r, .int _, _, _, _, _, _, _, _, h, _, _, _, _ => by simp [fldK] at h
  | f :: g :: r, .bool, _, _, _, _, _, _, _, h, _, _, _, _ => by simp [fldK] at h
  | f :: g :: r, .str, _, _, _, _, _, _, _, h, _, _, _, _ => by simp [fldK] at h
  | f :: g :: r, .unit, _, _, _, _, _, _, _, h, _, _, _, _ => by simp [fldK] at h
  | f :: g :: r, .row _, _, _, _, _, _, _, _, h, _, _, _, _ => by simp [fldK] at h
  | f :: g :: r, .fix _, _, _, _, _, _, _, _, h, _, _, _, _ => by simp [fldK] at h
/-- '==' of keys. -/
theorem key_eq {T : TypeId} {ag : Bool} {t : Ty} (h : keyK P T ag t = true) {x y : t.T} {u v : Value} (hx : EntIs π ag t x u) (hy : EntIs π ag t y v) (w : World) : (Op.equal T u v).run P w = .ok (eqT t x y) w := by
  obtain ⟨cs, h1, h2⟩ := hx
  obtain ⟨ds, h3, h4⟩ := hy
  cases ag with
  | false =>
    simp only at h2 h4
    subst h2 h4
    exact leaf_eq h h1 h3 9999 w
  | true =>
    simp only at h2 h4
    subst h2 h4
    unfold keyK at h
    simp only at h
    split at h
    · rename_i fs hf
      simp only [Bool.and_eq_true, Bool.not_eq_true'] at h
      have hfo : P.fieldsOf T = fs := by simp [Program.fieldsOf, hf]
      unfold Op.equal
      rw [show Op.maxDepth = 9999 + 1 from rfl, run_equalIn_struct (P := P) w 9999 T _ _ (by rw [hfo]; exact hf) h.1, hfo]
      have := fld_eq (P := P) (d := 9998) w fs.toList t 0 x y cs ds [] [] h.2 rfl rfl h1 h3
      simpa using this
    · cases h
theorem check_leaf {T : TypeId} {t : Ty} (h : leafK P T t = true) {x : t.T} {v : Value} (hx : Rep π t x [v]) (e : Bool) (n : Nat) (w : World) : (Instr.checkKey e (n + 1) T v).run P w = .ok () w := by
  rcases leaf_shape h with ⟨k, hu, rfl⟩ | ⟨hu, rfl⟩ | ⟨hu, rfl⟩
  · simp only [Rep, List.cons.injEq, and_true] at hx
    subst hx
    simp [Instr.checkKey, run_underlying hu]
  · simp only [Rep, List.cons.injEq, and_true] at hx
    subst hx
    simp [Instr.checkKey, run_underlying hu]
  · simp only [Rep, List.cons.injEq, and_true] at hx
    obtain ⟨rfl, _⟩ := hx
    simp [Instr.checkKey, run_underlying hu]
theorem check_flds {e : Bool} {n : Nat} (w : World) : ∀ (fs : List Field) (t : Ty) (off : Nat) (x : t.T) (us pre : List Value), fldK P fs t off = true → pre.length = off → Rep π t x us →
    ((forIn fs PUnit.unit fun f _ => do if f.name ≠ "_" then (do Instr.checkKey e (n + 1) f.type (← part f.type (pre ++ us).toArray f.offset); pure (ForInStep.yield PUnit.unit)) else pure (ForInStep.yield PUnit.unit)) : Sem PUnit).run P w = .ok PUnit.unit w
  | [], t, off, x, us, pre, h, _, _ => by simp [fldK] at h
  | [f], t, off, x, us, pre, h, h1, hx => by
    simp only [fldK, Bool.and_eq_true, Bool.not_eq_true', beq_eq_false_iff_ne, ne_eq] at h
    obtain ⟨⟨hn, ho⟩, hl⟩ := h
    have ho := beq_eq ho
    obtain ⟨u, rfl⟩ := leaf_one hl hx
    have p1 := part_leaf hl (vs := pre ++ [u]) (off := f.offset) (v := u) (by rw [ho, ← h1, List.getElem?_append_right (Nat.le_refl _)]; simp) w
    have p2 := check_leaf hl hx e n w
    simp only [List.forIn_cons, List.forIn_nil, Sem.run_bind, hn, ne_eq, not_false_eq_true, if_true, Result.andThen_ok, p1, p2, Sem.run_pure]
  | f :: g :: r, .prod a b, off, x, us, pre, h, h1, hx => by
    simp only [fldK, Bool.and_eq_true, Bool.not_eq_true', beq_eq_false_iff_ne, ne_eq] at h
    obtain ⟨⟨⟨hn, ho⟩, hl⟩, hr⟩ := h
    have ho := beq_eq ho
    obtain ⟨c1, d1, rfl, hx1, hx2⟩ := hx
    obtain ⟨u, rfl⟩ := leaf_one hl hx1
    have p1 := part_leaf hl (vs := pre ++ ([u] ++ d1)) (off := f.offset) (v := u) (by rw [ho, ← h1, List.getElem?_append_right (Nat.le_refl _)]; simp) w
    have p2 := check_leaf hl hx1 e n w
    have ih := check_flds (e := e) (n := n) w (g :: r) b (off + 1) x.2 d1 (pre ++ [u]) hr (by simp [h1]) hx2
    rw [List.append_assoc] at ih
    rw [List.forIn_cons]
    simp only [Sem.run_bind, hn, ne_eq, not_false_eq_true, if_true, Result.andThen_ok, p1, p2, Sem.run_pure]
    exact ih
  | f :: g :: r, .int _, _, _, _, _, h, _, _ => by simp [fldK] at h
  | f :: g :: r, .bool, _, _, _, _, h, _, _ => by simp [fldK] at h
  | f :: g :: r, .str, _, _, _, _, h, _, _ => by simp [fldK] at h
  | f :: g :: r, .unit, _, _, _, _, h, _, _ => by simp [fldK] at h
  | f :: g :: r, .row _, _, _, _, _, h, _, _ => by simp [fldK] at h
  | f :: g :: r, .fix _, _, _, _, _, h, _, _ => by simp [fldK] at h
theorem key_check {T : TypeId} {ag : Bool} {t : Ty} (h : keyK P T ag t = true) {x : t.T} {u : Value} (hx : EntIs π ag t x u) (e : Bool) (w : World) : (Instr.checkKey e 10000 T u).run P w = .ok () w := by
  obtain ⟨cs, h1, h2⟩ := hx
  cases ag with
  | false =>
    simp only at h2
    subst h2
    exact check_leaf h h1 e 9999 w
  | true =>
    simp only at h2
    subst h2
    unfold keyK at h
    simp only at h
    split at h
    · rename_i fs hf
      simp only [Bool.and_eq_true, Bool.not_eq_true'] at h
      rw [show (10000 : Nat) = 9999 + 1 from rfl, Instr.checkKey]
      simp only [Sem.run_bind, run_underlying hf, Result.andThen_ok]
      rw [← Array.forIn_toList]
      have := check_flds (P := P) (e := e) (n := 9998) w fs.toList t 0 x cs [] h.2 rfl h1
      simp at this ⊢
      rw [this]
      rfl
    · cases h
/-! ### lookups -/
def lookM {kt : Ty} {α : Type} (k : kt.T) : List (kt.T × α) → Option α
  | [] => none
  | (x, v) :: r => if eqT kt k x = true then some v else lookM k r
def setM {kt : Ty} {α : Type} (k : kt.T) (v : α) : List (kt.T × α) → List (kt.T × α)
  | [] => [(k, v)]
  | (x, u) :: r => if eqT kt k x = true then (x, v) :: r else (x, u) :: setM k v r
abbrev EntR (π : Pers) (ka : Bool) (kt : Ty) (va : Bool) (vt : Ty) : kt.T × vt.T → MapEntry → Prop := fun p e => EntIs π ka kt p.1 e.key ∧ EntIs π va vt p.2 e.val
theorem find_asking {T : TypeId} {ka va : Bool} {kt vt : Ty} (h : keyK P T ka kt = true) {x : kt.T} {u : Value} (hx : EntIs π ka kt x u) : ∀ (es : List (kt.T × vt.T)) (ms : List MapEntry) (i : Nat), All2 (EntR π ka kt va vt) es ms →
    (lookM x es = none ∧ ∀ w : World, (Instr.findAsking T u ms i).run P w = .ok none w) ∨ ∃ j p e, es[j]? = some p ∧ ms[j]? = some e ∧ eqT kt x p.1 = true ∧ lookM x es = some p.2 ∧ (∀ v, setM x v es = es.set j (p.1, v)) ∧ ∀ w : World, (Instr.findAsking T u ms i).run P w = .ok (some (i + j, e.val)) w
  | [], [], i, _ => .inl ⟨rfl, by simp [Instr.findAsking]⟩
  | p :: es, e :: ms, i, ⟨h1, h2⟩ => by
    have he := fun w : World => key_eq h hx h1.1 w
    cases hq : eqT kt x p.1 with
    | true =>
      rw [hq] at he
      refine .inr ⟨0, p, e, rfl, rfl, hq, by simp [lookM, hq], fun v => by simp [setM, hq], ?_⟩
      simp [Instr.findAsking, he]
    | false =>
      rw [hq] at he
      rcases find_asking h hx es ms (i + 1) h2 with ⟨a1, a2⟩ | ⟨j, p', e', a1, a2, a3, a4, a5, a6⟩
      · exact .inl ⟨by simp [lookM, hq, a1], by simp [Instr.findAsking, he, a2]⟩
      · refine .inr ⟨j + 1, p', e', by simpa using a1, by simpa using a2, a3, by simp [lookM, hq, a4], fun v => by simp [setM, hq, a5], ?_⟩
        intro w
        simp only [Instr.findAsking, Sem.run_bind, he, Result.andThen_ok, Bool.false_eq_true, if_false, a6]
        rw [show i + 1 + j = i + (j + 1) by omega]
  | [], _ :: _, _, h => h.elim
  | _ :: _, [], _, h => h.elim
theorem find_now {T : TypeId} {kd : TypeDesc} {va : Bool} {kt vt : Ty} (hu : P.underlying T = some kd) (h : leafK P T kt = true) {x : kt.T} {u : Value} (hx : EntIs π false kt x u) : ∀ (es : List (kt.T × vt.T)) (ms : List MapEntry) (i : Nat), All2 (EntR π false kt va vt) es ms →
    (lookM x es = none ∧ Instr.findNow kd u ms i = some none) ∨ ∃ j p e, es[j]? = some p ∧ ms[j]? = some e ∧ eqT kt x p.1 = true ∧ lookM x es = some p.2 ∧ (∀ v, setM x v es = es.set j (p.1, v)) ∧ Instr.findNow kd u ms i = some (some (i + j, e.val))
  | [], [], i, _ => .inl ⟨rfl, by simp [Instr.findNow]⟩
  | p :: es, e :: ms, i, ⟨h1, h2⟩ => by
    have he : Instr.sameNow kd u e.key = some (eqT kt x p.1) := by
      obtain ⟨cs, b1, b2⟩ := hx
      obtain ⟨ds, b3, b4⟩ := h1.1
      simp only at b2 b4
      subst b2 b4
      rcases leaf_shape h with ⟨k, hu', rfl⟩ | ⟨hu', rfl⟩ | ⟨hu', rfl⟩ <;> (rw [hu'] at hu; cases hu)
      · simp only [Rep, List.cons.injEq, and_true] at b1 b3
        subst b1; rw [b3]; simp [Instr.sameNow, eqT]
      · simp only [Rep, List.cons.injEq, and_true] at b1 b3
        subst b1; rw [b3]; simp [Instr.sameNow, eqT]
      · simp only [Rep, List.cons.injEq, and_true] at b1 b3
        obtain ⟨rfl, _⟩ := b1
        rw [b3.1]
        simp only [Instr.sameNow, eqT, Option.some.injEq]
        exact Bool.eq_iff_iff.2 ((MapKept.bytes_beq x p.1).trans (strEq_iff x p.1).symm)
    cases hq : eqT kt x p.1 with
    | true =>
      rw [hq] at he
      exact .inr ⟨0, p, e, rfl, rfl, hq, by simp [lookM, hq], fun v => by simp [setM, hq], by simp [Instr.findNow, he]⟩
    | false =>
      rw [hq] at he
      rcases find_now hu h hx es ms (i + 1) h2 with ⟨a1, a2⟩ | ⟨j, p', e', a1, a2, a3, a4, a5, a6⟩
      · exact .inl ⟨by simp [lookM, hq, a1], by simp [Instr.findNow, he, a2]⟩
      · refine .inr ⟨j + 1, p', e', by simpa using a1, by simpa using a2, a3, by simp [lookM, hq, a4], fun v => by simp [setM, hq, a5], ?_⟩
        simp only [Instr.findNow, he, a6]
        rw [show i + 1 + j = i + (j + 1) by omega]
  | [], _ :: _, _, h => h.elim
  | _ :: _, [], _, h => h.elim
theorem find_key {T : TypeId} {ka va : Bool} {kt vt : Ty} (h : keyK P T ka kt = true) {x : kt.T} {u : Value} (hx : EntIs π ka kt x u) {es : List (kt.T × vt.T)} {ms : List MapEntry} (ha : All2 (EntR π ka kt va vt) es ms) :
    (lookM x es = none ∧ ∀ w : World, (Instr.findKey T u ms).run P w = .ok none w) ∨ ∃ j p e, es[j]? = some p ∧ ms[j]? = some e ∧ eqT kt x p.1 = true ∧ lookM x es = some p.2 ∧ (∀ v, setM x v es = es.set j (p.1, v)) ∧ ∀ w : World, (Instr.findKey T u ms).run P w = .ok (some (j, e.val)) w := by
  cases ka with
  | true =>
    have hu : ∃ fs, P.underlying T = some (.struct fs) := by
      unfold keyK at h
      simp only at h
      split at h
      · rename_i fs hf; exact ⟨fs, hf⟩
      · cases h
    obtain ⟨fs, hu⟩ := hu
    have hk : ∀ w : World, (Instr.findKey T u ms).run P w = (Instr.findAsking T u ms).run P w := fun w => run_findKey_eq w (by rw [hu]) u ms
    rcases find_asking h hx es ms 0 ha with ⟨a1, a2⟩ | ⟨j, p, e, a1, a2, a3, a4, a5, a6⟩
    · exact .inl ⟨a1, fun w => by rw [hk]; exact a2 w⟩
    · exact .inr ⟨j, p, e, a1, a2, a3, a4, a5, fun w => by rw [hk]; have := a6 w; rw [Nat.zero_add] at this; exact this⟩
  | false =>
    obtain ⟨kd, hu⟩ : ∃ kd, P.underlying T = some kd := by
      rcases leaf_shape h with ⟨k, hu, _⟩ | ⟨hu, _⟩ | ⟨hu, _⟩ <;> exact ⟨_, hu⟩
    rcases find_now hu h hx es ms 0 ha with ⟨a1, a2⟩ | ⟨j, p, e, a1, a2, a3, a4, a5, a6⟩
    · exact .inl ⟨a1, fun w => MapKept.run_findKey hu a2⟩
    · exact .inr ⟨j, p, e, a1, a2, a3, a4, a5, fun w => MapKept.run_findKey hu (by rw [Nat.zero_add] at a6; exact a6)⟩
/-- Data as a value of a map. -/
def pvE (ag : Bool) (t : Ty) (x : t.T) : PV := match ag with
  | true => .agg (toCV t x)
  | false => match toCV t x with | [c] => .c c | _ => .c .junk
theorem pvE_ok {ρ : Env} {ag : Bool} {t : Ty} {x : t.T} {v : Value} (h : EntIs π ag t x v) : DenP π ρ (pvE ag t x) v := by
  obtain ⟨cs, h1, h2⟩ := h
  cases ag with
  | true => simp only at h2; subst h2; exact ⟨cs, rfl, toCV_ok t x cs h1⟩
  | false =>
    simp only at h2
    subst h2
    have h3 := toCV_ok (ρ := ρ) t x [v] h1
    unfold pvE
    simp only
    split
    · rename_i c hc; rw [hc] at h3; exact h3.1
    · trivial
/-- The data of a key, or of what is put. -/
def dataOf (ag : Bool) (t : Ty) : PV → Option t.T
  | .agg cs => match ag, fromCV t cs with | true, some (x, []) => some x | _, _ => none
  | .c c => match ag, fromCV t [c] with | false, some (x, []) => some x | _, _ => none
  | _ => none
theorem dataOf_ok {ρ : Env} {ag : Bool} {t : Ty} {p : PV} {x : t.T} {v : Value} (hp : DenP π ρ p v) (h : dataOf ag t p = some x) : EntIs π ag t x v := by
  unfold dataOf at h
  split at h
  · rename_i cs
    split at h
    · rename_i y hy
      cases h
      obtain ⟨vs, rfl, hv⟩ := hp
      obtain ⟨v1, v2, h1, h2, h3⟩ := fromCV_ok t _ _ _ _ hv hy
      cases v2 with
      | nil => rw [List.append_nil] at h1; subst h1; exact ⟨_, h2, rfl⟩
      | cons _ _ => exact h3.elim
    · cases h
  · rename_i c
    split at h
    · rename_i y hy
      cases h
      obtain ⟨v1, v2, h1, h2, h3⟩ := fromCV_ok t [c] [v] _ _ ⟨hp, trivial⟩ hy
      cases v2 with
      | nil => rw [List.append_nil] at h1; subst h1; exact ⟨_, h2, rfl⟩
      | cons _ _ => exact h3.elim
    · cases h
  · cases h
def zeroT (P : Program) (T : TypeId) (ag : Bool) (t : Ty) : Option t.T := match P.info? T with
  | some i => match i.zero with
    | some z => match constP z with
      | some p => dataOf ag t p
      | none => none
    | none => none
  | none => none
theorem zeroT_ok {T : TypeId} {ag : Bool} {t : Ty} {x : t.T} (h : zeroT P T ag t = some x) : ∃ v, (∀ w : World, (zeroValue T).run P w = .ok v w) ∧ EntIs π ag t x v := by
  unfold zeroT at h
  split at h
  · rename_i i hi
    split at h
    · rename_i z hz
      split at h
      · rename_i p hp
        exact ⟨z, fun w => by simp [zeroValue, typeInfo, hi, hz], dataOf_ok (ρ := fun _ => none) (constP_ok hp) h⟩
      · cases h
    · cases h
  · cases h
def lookupV (P : Program) (s : SS) (T : TypeId) (m k : PV) : Option (PV × Bool × PV) :=
  match m with
  | .c (.mp b) => match nth s.hp b, P.underlying T with
    | some (.map ka kt va vt es), some (.map kT eT) => bif keyK P kT ka kt then
        (match dataOf ka kt k, zeroT P eT va vt with
        | some x, some z => some (pvE va vt ((lookM x es).getD z), (lookM x es).isSome, .c .junk)
        | _, _ => none)
      else none
    | _, _ => none
  | _ => none
theorem lookupV_ok {ρ : Env} {s : SS} {a : Act} {w : World} (S : Sat π ρ s a w) {T : TypeId} {m k : PV} {vm vk : Value} (hm : DenP π ρ m vm) (hk : DenP π ρ k vk) {r j : PV} {is : Bool} (h : lookupV P s T m k = some (r, is, j)) :
    ∃ v, DenP π ρ r v ∧ ∀ w', Alike (pz false π) ρ s.hp w w' → (Instr.lookup T vm vk false).run P w' = .ok v w' ∧ (Instr.lookup T vm vk true).run P w' = .ok (.tuple #[v, .bool is]) w' := by
  unfold lookupV at h
  split at h
  · rename_i b
    split at h
    · rename_i ka kt va vt es kT eT hb hT
      cases hkk : keyK P kT ka kt with
      | false => rw [hkk] at h; cases h
      | true =>
        rw [hkk] at h
        simp only [cond_true] at h
        split at h
        · rename_i x z hx hz
          cases h
          rw [nth_eq] at hb
          obtain ⟨g, ms, clock, h1, h2, h3⟩ := S.hs.items b _ hb
          obtain ⟨g', o', n', h4, rfl⟩ := hm
          rw [h1] at h4
          cases h4
          have hkx := dataOf_ok hk hx
          obtain ⟨zv, hzv, hz2⟩ := zeroT_ok (π := π) hz
          have hobj : ∀ w', Alike (pz false π) ρ s.hp w w' → w'.heap[g]? = some (.map ms clock) := fun w' hw => (hw g (.inr ⟨b, _, hb, by simp, own_main h1⟩)).trans h2
          have chk := fun (e : Bool) (w' : World) => key_check hkk hkx e w'
          rcases find_key hkk hkx h3 with ⟨a1, a2⟩ | ⟨j, p, e, a1, a2, a3, a4, a5, a6⟩
          · refine ⟨zv, by rw [a1]; exact pvE_ok hz2, fun w' hw => ?_⟩
            have hg := MapKept.run_getObj_map (P := P) (hobj w' hw)
            rw [a1]
            simp [Instr.lookup, run_underlying hT, hg, chk, a2, hzv]
          · obtain ⟨e', he', hR⟩ := all2_get h3 j p a1
            rw [a2] at he'
            cases he'
            refine ⟨e.val, by rw [a4]; exact pvE_ok hR.2, fun w' hw => ?_⟩
            have hg := MapKept.run_getObj_map (P := P) (hobj w' hw)
            rw [a4]
            simp [Instr.lookup, run_underlying hT, hg, chk, a6]
        · cases h
    · cases h
  · cases h
/-! ### what is put -/
theorem rep_unique : ∀ (t : Ty) (x : t.T) (cs ds : List Value), t.key = true → Rep π t x cs → Rep π t x ds → cs = ds
  | .int k, x, cs, ds, _, h1, h2 => by simp only [Rep] at h1 h2; rw [h1, h2]
  | .bool, x, cs, ds, _, h1, h2 => by simp only [Rep] at h1 h2; rw [h1, h2]
  | .str, x, cs, ds, _, h1, h2 => by simp only [Rep] at h1 h2; rw [h1.1, h2.1]
  | .unit, x, cs, ds, _, h1, h2 => by simp only [Rep] at h1 h2; rw [h1, h2]
  | .prod a b, x, cs, ds, h, h1, h2 => by
    simp only [Ty.key, Bool.and_eq_true] at h
    obtain ⟨c1, d1, rfl, h3, h4⟩ := h1
    obtain ⟨c2, d2, rfl, h5, h6⟩ := h2
    rw [rep_unique a _ _ _ h.1 h3 h5, rep_unique b _ _ _ h.2 h4 h6]
  | .row _, _, _, _, h, _, _ => by simp [Ty.key] at h
  | .fix _, _, _, _, h, _, _ => by simp [Ty.key] at h
theorem leaf_key {T : TypeId} {t : Ty} (h : leafK P T t = true) : t.key = true := by
  rcases leaf_shape h with ⟨k, _, rfl⟩ | ⟨_, rfl⟩ | ⟨_, rfl⟩ <;> rfl
theorem fld_key : ∀ (fs : List Field) (t : Ty) (off : Nat), fldK P fs t off = true → t.key = true
  | [], t, off, h => by simp [fldK] at h
  | [f], t, off, h => by simp only [fldK, Bool.and_eq_true] at h; exact leaf_key h.2
  | f :: g :: r, .prod a b, off, h => by
    simp only [fldK, Bool.and_eq_true] at h
    simp only [Ty.key, leaf_key h.1.2, fld_key (g :: r) b _ h.2, Bool.and_self]
  | f :: g :: r, .int _, _, h => by simp [fldK] at h
  | f :: g :: r, .bool, _, h => by simp [fldK] at h
  | f :: g :: r, .str, _, h => by simp [fldK] at h
  | f :: g :: r, .unit, _, h => by simp [fldK] at h
  | f :: g :: r, .row _, _, h => by simp [fldK] at h
  | f :: g :: r, .fix _, _, h => by simp [fldK] at h
theorem key_key {T : TypeId} {ag : Bool} {t : Ty} (h : keyK P T ag t = true) : t.key = true := by
  unfold keyK at h
  cases ag with
  | false => exact leaf_key h
  | true =>
    simp only at h
    split at h
    · simp only [Bool.and_eq_true] at h; exact fld_key _ _ _ h.2
    · cases h
theorem same_cells (n : Nat) : ∀ (t : Ty) (x : t.T) (cs : List Value), t.key = true → Rep π t x cs → ∀ v ∈ cs, Instr.sameBits n v v = true
  | .int k, x, cs, _, h, v, hv => by simp only [Rep] at h; subst h; simp at hv; subst hv; cases n <;> simp [Instr.sameBits]
  | .bool, x, cs, _, h, v, hv => by simp only [Rep] at h; subst h; simp at hv; subst hv; cases n <;> simp [Instr.sameBits]
  | .str, x, cs, _, h, v, hv => by obtain ⟨rfl, _⟩ := h; simp at hv; subst hv; cases n <;> simp [Instr.sameBits, MapKept.bytes_beq]
  | .unit, x, cs, _, h, v, hv => by simp only [Rep] at h; subst h; simp at hv
  | .prod a b, x, cs, hk, h, v, hv => by
    simp only [Ty.key, Bool.and_eq_true] at hk
    obtain ⟨c, d, rfl, h1, h2⟩ := h
    rcases List.mem_append.1 hv with hv | hv
    · exact same_cells n a _ _ hk.1 h1 v hv
    · exact same_cells n b _ _ hk.2 h2 v hv
  | .row _, _, _, h, _, _, _ => by simp [Ty.key] at h
  | .fix _, _, _, h, _, _, _ => by simp [Ty.key] at h
theorem key_same {ag : Bool} {t : Ty} (hk : t.key = true) {x : t.T} {u v : Value} (h1 : EntIs π ag t x u) (h2 : EntIs π ag t x v) : u = v ∧ Instr.sameBits 10000 v v = true := by
  obtain ⟨cs, a1, a2⟩ := h1
  obtain ⟨ds, b1, b2⟩ := h2
  have e := rep_unique t x cs ds hk a1 b1
  subst e
  cases ag with
  | false =>
    simp only at a2 b2
    subst a2
    simp only [List.cons.injEq, and_true] at b2
    subst b2
    exact ⟨rfl, same_cells _ t x _ hk a1 _ (by simp)⟩
  | true =>
    simp only at a2 b2
    subst a2 b2
    refine ⟨rfl, ?_⟩
    have := same_cells (π := π) 9999 t x cs hk a1
    have hz : ∀ l : List Value, (∀ v ∈ l, Instr.sameBits 9999 v v = true) → ((l.zip l).all fun (x, y) => Instr.sameBits 9999 x y) = true := by
      intro l
      induction l with
      | nil => intro _; rfl
      | cons a r ih => intro h; simp only [List.zip_cons_cons, List.all_cons, Bool.and_eq_true]; exact ⟨h a (by simp), ih (fun v hv => h v (by simp [hv]))⟩
    rw [show (10000 : Nat) = 9999 + 1 from rfl, Instr.sameBits]
    simp only [beq_self_eq_true, Bool.true_and]
    exact hz _ this
theorem all2_set' {α β : Type} {R : α → β → Prop} {f : β → β} {b : β} : ∀ {l : List α} {m : List β} (i : Nat) (a : α), All2 R l m → m[i]? = some b → R a (f b) → All2 R (l.set i a) (m.modify i f)
  | [], [], _, _, _, h, _ => by simp at h
  | _ :: _, c :: _, 0, a, h, hi, hf => by simp at hi; subst hi; exact ⟨hf, h.2⟩
  | _ :: l, _ :: m, i + 1, a, h, hi, hf => by simp only [List.getElem?_cons_succ] at hi; exact ⟨h.1, all2_set' i a h.2 hi hf⟩
  | [], _ :: _, _, _, h, _, _ => h.elim
  | _ :: _, [], _, _, h, _, _ => h.elim
theorem setM_none {kt : Ty} {α : Type} {k : kt.T} {v : α} : ∀ {es : List (kt.T × α)}, lookM k es = none → setM k v es = es ++ [(k, v)]
  | [], _ => rfl
  | (x, u) :: r, h => by
    simp only [lookM] at h
    split at h
    · cases h
    · rename_i hq
      simp only [setM, if_neg hq, setM_none h, List.cons_append]
def mapUpV (P : Program) (s : SS) (T : TypeId) (m k v : Option PV) (K : SS → Prop) : Prop :=
  match m, k, v with
  | some (.c (.mp b)), some k, some v => match nth s.hp b, P.underlying T with
    | some (.map ka kt va vt es), some (.map kT eT) => bif keyK P kT ka kt then
        (match dataOf ka kt k, dataOf va vt v with
        | some x, some y => K { s with hp := s.hp.set b (.map ka kt va vt (setM x y es)) }
        | _, _ => False)
      else False
    | _, _ => False
  | _, _, _ => False
theorem mapUpV_ok {N : Nat} {ρ : Env} {s : SS} {a : Act} {w : World} (S : Sat π ρ s a w) {T : TypeId} {m k v : Option PV} {vm vk vv : Value} (hm : ∀ p, m = some p → DenP π ρ p vm) (hk : ∀ p, k = some p → DenP π ρ p vk) (hv : ∀ p, v = some p → DenP π ρ p vv) {K : SS → Prop} (h : mapUpV P s T m k v K) :
    ∃ w', (Instr.mapUpdate T vm vk vv).run P w = .ok () w' ∧ Out N P π ρ s w K a w' := by
  unfold mapUpV at h
  split at h
  · rename_i b pk pv
    split at h
    · rename_i ka kt va vt es kT eT hb hT
      cases hkk : keyK P kT ka kt with
      | false => rw [hkk] at h; exact h.elim
      | true =>
        rw [hkk] at h
        simp only [cond_true] at h
        split at h
        · rename_i x y hx hy
          rw [nth_eq] at hb
          have hbl := (List.getElem?_eq_some_iff.1 hb).1
          obtain ⟨g, ms, clock, h1, h2, h3⟩ := S.hs.items b _ hb
          obtain ⟨g', o', n', h4, rfl⟩ := hm _ rfl
          rw [h1] at h4
          cases h4
          have hkx := dataOf_ok (hk _ rfl) hx
          have hvy := dataOf_ok (hv _ rfl) hy
          have hget := MapKept.run_getObj_map (P := P) h2
          have fin : ∀ ms' clock', (Instr.mapUpdate T (.map (some g)) vk vv).run P w = .ok () { w with heap := w.heap.setIfInBounds g (.map ms' clock') } → All2 (EntR π ka kt va vt) (setM x y es) ms'.toList → ∃ w', (Instr.mapUpdate T (.map (some g)) vk vv).run P w = .ok () w' ∧ Out N P π ρ s w K a w' := by
            intro ms' clock' hrun hall
            have hset := MapKept.heap_set (o' := .map ms' clock') h2
            have hw : ∀ q, q < w.heap.size → ¬ own (ρ b) q → ({ w with heap := w.heap.setIfInBounds g (.map ms' clock') } : World).heap[q]? = w.heap[q]? := fun q _ hq => hset.2 q (fun e => hq (by rw [e]; exact own_main h1))
            exact ⟨_, hrun, π, ρ, _, sat_heap S (hsat_put S.hs b (.map ka kt va vt (setM x y es)) (by simp) hw hbl ⟨g, ms', clock', h1, hset.1, hall⟩) (fun _ _ h => h) (fun _ _ h => h), step_put S.hs b hbl (by simp) (keep_set b _ (fun x κ hh hκ => by rw [hb] at hh; cases hh; exact hκ)) rfl rfl rfl (by simp) hw, h⟩
          rcases find_key hkk hkx h3 with ⟨a1, a2⟩ | ⟨j, p, e, a1, a2, a3, a4, a5, a6⟩
          · refine fin (ms.push { key := vk, val := vv, born := clock }) (clock + 1) ?_ ?_
            · simp [Instr.mapUpdate, run_underlying hT, hget, key_check hkk hkx, a2, MapKept.run_setObj_map _ h2]
            · rw [setM_none a1, Array.toList_push]
              exact all2_append h3 ⟨⟨hkx, hvy⟩, trivial⟩
          · obtain ⟨e', he', hR⟩ := all2_get h3 j p a1
            rw [a2] at he'
            cases he'
            have hxe := (eqT_iff kt (key_key hkk) _ _).1 a3
            have hR1 := hR.1
            rw [← hxe] at hR1
            obtain ⟨e1, e2⟩ := key_same (key_key hkk) hR1 hkx
            have hms : ms[j]? = some e := by rw [← Array.getElem?_toList]; exact a2
            refine fin (ms.modify j fun e => { e with key := vk, val := vv }) clock ?_ ?_
            · have hst : (Instr.keyThatStays e.key vk).run P w = .ok vk w := by rw [e1]; simp [Instr.keyThatStays, e2]
              simp [Instr.mapUpdate, run_underlying hT, hget, key_check hkk hkx, a6, hms, hst, MapKept.run_setObj_map _ h2]
            · rw [a5, Array.toList_modify]
              refine all2_set' j _ h3 a2 ⟨?_, hvy⟩
              simp only
              rw [← hxe]
              exact hkx
        · exact h.elim
    · exact h.elim
  · exact h.elim
/-- A new map. -/
def makeMapP (P : Program) (s : SS) (T : TypeId) (dst : Option Nat) (K : SS → Prop) : Prop :=
  match P.underlying T with
  | some (.map kT eT) => match tyId P 9 kT, isAggB P kT, tyId P 9 eT, isAggB P eT with
    | some kt, some ka, some vt, some va => putK { s with hp := s.hp ++ [.map ka kt va vt []] } dst (.p (.c (.mp s.hp.length))) K
    | _, _, _, _ => False
  | _ => False
theorem makeMapP_ok {N : Nat} {ρ : Env} {s : SS} {a : Act} {w : World} (S : Sat π ρ s a w) {T : TypeId} {dst : Option Nat} {K : SS → Prop} (h : makeMapP P s T dst K) : ∃ u w', (Instr.makeMap T none).run P w = .ok u w' ∧ Out N P π ρ s w K (a.put dst u) w' := by
  unfold makeMapP at h
  split at h
  · rename_i kT eT hT
    split at h
    · rename_i kt ka vt va _ _ _ _
      have hup := upE_new S.hs (some (w.heap.size, 0, 0, []))
      have H := hsat_new (w' := w.alloc (.map #[] 0)) S.hs (.map ka kt va vt []) (some (w.heap.size, 0, 0, [])) (by simp) (fun g hg => heap_alloc_old w _ g hg) (fun g h => by rw [own_one h]; exact ⟨Nat.le_refl _, by simp⟩) ⟨w.heap.size, #[], 0, updE_same _ _ _, heap_new _, trivial⟩
      have S' := sat_heap S H (fun _ _ h => h) hup
      obtain ⟨s', g1, g2, g3⟩ := putK_ok (u := .map (some w.heap.size)) (x := .c (.mp s.hp.length)) S' ⟨w.heap.size, 0, (0, []), updE_same _ _ _, rfl⟩ h
      refine ⟨_, _, ?_, π, _, s', g1, by rw [g3]; exact step_new S.hs _ _ _ (fun g h => by rw [own_one h]; exact Nat.le_refl _), g2⟩
      simp [Instr.makeMap, newObj]
      rfl
    · exact h.elim
  · exact h.elim
end
end Go.Proofs.Ytloiimhmmcheoaa.Sx
