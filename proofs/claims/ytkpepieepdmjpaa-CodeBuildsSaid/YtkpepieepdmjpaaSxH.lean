/- A machine of abstract states over the model, part H: stores, structs and slices that are written out. No condition. -/
import Derived.Test.YtkpepieepdmjpaaSxG
import Derived.Laws.Tables
namespace Go.Proofs.Ytkpepieepdmjpaa.Sx
open Go
set_option linter.unusedVariables false
set_option linter.unusedSimpArgs false

theorem splice_get {α : Type} {l n : List α} {o : Nat} (h : o + n.length ≤ l.length) (i : Nat) : (splice l o n)[i]? = if i < o then l[i]? else if i < o + n.length then n[i - o]? else l[i]? := by
  unfold splice
  rw [List.append_assoc]
  by_cases h1 : i < o
  · rw [if_pos h1, List.getElem?_append_left (by rw [List.length_take]; omega), List.getElem?_take, if_pos h1]
  · rw [if_neg h1, List.getElem?_append_right (by rw [List.length_take]; omega), List.length_take, Nat.min_eq_left (by omega)]
    by_cases h2 : i < o + n.length
    · rw [if_pos h2, List.getElem?_append_left (by omega)]
    · rw [if_neg h2, List.getElem?_append_right (by omega), List.getElem?_drop]
      congr 1
      omega
theorem seg_get' {l : List Value} {o n i : Nat} (hi : i < n) : (seg l o n)[i]? = l[o + i]? := by
  unfold seg
  rw [List.getElem?_take, if_pos hi, List.getElem?_drop]
theorem seg_len {l : List Value} {o n : Nat} (h : o + n ≤ l.length) : (seg l o n).length = n := by
  unfold seg; rw [List.length_take, List.length_drop]; omega
theorem seg_other {l n : List Value} {o q sz : Nat} (h : o + n.length ≤ l.length) (hq : q + sz ≤ o ∨ o + n.length ≤ q) : seg (splice l o n) q sz = seg l q sz := by
  apply List.ext_getElem?
  intro i
  by_cases hi : i < sz
  · rw [seg_get' hi, seg_get' hi, splice_get h]
    split
    · rfl
    · split
      · omega
      · rfl
  · rw [List.getElem?_eq_none (by unfold seg; rw [List.length_take]; omega), List.getElem?_eq_none (by unfold seg; rw [List.length_take]; omega)]
theorem seg_same {l n : List Value} {p j sz : Nat} (h : p + sz ≤ l.length) (hj : j + n.length ≤ sz) : seg (splice l (p + j) n) p sz = splice (seg l p sz) j n := by
  have hl := seg_len h
  apply List.ext_getElem?
  intro i
  by_cases hi : i < sz
  · rw [seg_get' hi, splice_get (by omega), splice_get (by omega)]
    by_cases h1 : i < j
    · rw [if_pos (by omega), if_pos h1, seg_get' hi]
    · rw [if_neg (by omega), if_neg h1]
      by_cases h2 : i < j + n.length
      · rw [if_pos (by omega), if_pos h2]; congr 1; omega
      · rw [if_neg (by omega), if_neg h2, seg_get' hi]
  · rw [List.getElem?_eq_none (by unfold seg; rw [List.length_take]; omega), List.getElem?_eq_none (by rw [splice_len (by omega)]; omega)]

def storeP (P : Program) (s : SS) (t : TypeId) (ad v : Option PV) (K : SS → Prop) : Prop :=
  match ad, v with
  | some a, some p => match cellsP p, szOf P t with
    | some cs, some n => bif Nat.beq cs.length n then
        match a with
        | .c (.ptr b off) => match nth s.hp b with
          | some (.cells t0 c0) => bif Nat.ble (off + n) c0.length then K { s with hp := s.hp.set b (.cells t0 (splice c0 off cs)) } else False
          | _ => False
        | .c (.rptr ty b i j) => match nth s.hp b with
          | some (.row e ty' xs) => bif decide (ty = ty') && Nat.ble (j + n) ty.sz then
              match fromCV ty' (splice (toCV ty' (xs.getD i ty'.dft)) j cs) with
              | some (x', []) => i < xs.length ∧ K { s with hp := s.hp.set b (.row e ty' (xs.set i x')) }
              | _ => False
            else False
          | some (.nest e bx fs xs (some (q, hs))) => bif Nat.beq ty.sz (nsz bx fs) && Nat.ble (j + n) hs.length then
              i = q ∧ i < xs.length ∧ K { s with hp := s.hp.set b (.nest e bx fs xs (some (q, splice hs j cs))) }
            else False
          | _ => False
        | _ => False
      else False
    | _, _ => False
  | _, _ => False
theorem run_storeAt {P : Program} {t : TypeId} {n g o : Nat} {v : Value} {w : World} {cur : Array Value} {t0 : TypeId} (hn : szOf P t = some n) (hg : w.heap[g]? = some (.cells cur t0 (0, 0))) (hl : v.cells.toList.length = n) (hfit : o + n ≤ cur.size) (h1 : ∀ u ∈ v.cells.toList, u.oneCell' = true) :
    (Instr.storeAt t (.pointer (some ⟨g, o, none⟩)) v).run P w = .ok () (w.setRow g (splice cur.toList o v.cells.toList).toArray) := by
  have hst := run_storeCells_at P g o t0 v.cells.toList 0 cur w hg (by rw [hl]; simpa using hfit) h1
  have hs : v.cells.size = n := by rw [← hl, Array.length_toList]
  simp only [Nat.add_zero] at hst
  simp [Instr.storeAt, Instr.sureAddr, storeVar, run_sizeOf hn, hs, hst, splice]
theorem urun {P : Program} {w w' : World} {s : Sem Unit} (h : s.run P w = .ok () w') : (do s; pure .skip : Sem Next).run P w = .ok .skip w' := by
  simp [h]
theorem storeP_ok {N : Nat} {P : Program} {π : Pers} {ρ : Env} {s : SS} {a : Act} {w : World} (S : Sat π ρ s a w) {t : TypeId} {ad v : Option PV} {va vv : Value} (ha : ∀ p, ad = some p → DenP π ρ p va) (hv : ∀ p, v = some p → DenP π ρ p vv) {K : SS → Prop} (h : storeP P s t ad v K) :
    ∃ w', (Instr.storeAt t va vv).run P w = .ok () w' ∧ Out N P π ρ s w K a w' := by
  unfold storeP at h
  split at h
  · rename_i x p
    split at h
    · rename_i cs n hcs hn
      cases hb : Nat.beq cs.length n with
      | false => rw [hb] at h; exact h.elim
      | true =>
        rw [hb] at h
        have hcn := beq_eq hb
        obtain ⟨hc, h1⟩ := cellsP_ok (hv p rfl) hcs
        have hlen : vv.cells.toList.length = n := by rw [← all2_len hc, hcn]
        simp only [cond_true] at h
        split at h
        · rename_i b off
          split at h
          · rename_i t0 c0 hit
            cases hfit : Nat.ble (off + n) c0.length with
            | false => rw [hfit] at h; exact h.elim
            | true =>
              rw [hfit] at h
              simp only [cond_true] at h
              rw [nth_eq] at hit
              have hbl := (List.getElem?_eq_some_iff.1 hit).1
              obtain ⟨g, vs, hr, hg, hcells⟩ := S.hs.items b _ hit
              obtain ⟨g', o', n', hr', hva⟩ := ha _ rfl
              rw [hr] at hr'
              cases hr'
              simp only [Nat.zero_add] at hva
              subst hva
              have hle := Nat.le_of_ble_eq_true hfit
              rw [all2_len hcells, Array.length_toList] at hle
              have hrun := run_storeAt (P := P) hn hg hlen hle h1
              have hw : ∀ k, k < w.heap.size → ¬ own (ρ b) k → (w.setRow g (splice vs.toList off vv.cells.toList).toArray).heap[k]? = w.heap[k]? := fun k hk hne => setRow_other w g k _ (fun e => hne (by rw [e]; exact own_main hr))
              refine ⟨_, hrun, π, ρ, _, sat_heap S (hsat_put S.hs b _ (by simp) hw hbl ?_) (fun _ _ h => h) (fun _ _ h => h), step_put S.hs b hbl (by simp) (keep_set b _ (fun x κ hh hκ => by rw [hit] at hh; cases hh; exact hκ)) rfl rfl rfl (by simp) hw, h⟩
              refine ⟨g, (splice vs.toList off vv.cells.toList).toArray, ?_, setRow_heap w g vs _ t0 (0, 0) hg, ?_⟩
              · rw [splice_len (by rw [hcn]; exact Nat.le_of_ble_eq_true hfit)]; exact hr
              · exact all2_splice hcells hc off
          · exact h.elim
        · rename_i ty b i j
          split at h
          · rename_i e ty' xs hit
            cases hq : (decide (ty = ty') && Nat.ble (j + n) ty.sz) with
            | false => rw [hq] at h; exact h.elim
            | true =>
              rw [hq] at h
              simp only [cond_true] at h
              simp only [Bool.and_eq_true, decide_eq_true_eq] at hq
              obtain ⟨rfl, hjn⟩ := hq
              have hjn := Nat.le_of_ble_eq_true hjn
              split at h
              · rename_i x' hx'
                obtain ⟨hi, hK⟩ := h
                rw [nth_eq] at hit
                have hbl := (List.getElem?_eq_some_iff.1 hit).1
                obtain ⟨g', o', n', hr', hva⟩ := ha _ rfl
                subst hva
                rcases S.hs.items b _ hit with ⟨h2, h3⟩ | ⟨g, o, vs, hr, hg, hfit, hmx, hel⟩
                · rw [h2] at hr'; cases hr'
                · rw [hr] at hr'
                  simp only [Option.some.injEq, Prod.mk.injEq] at hr'
                  obtain ⟨rfl, rfl, rfl⟩ := hr'
                  have hmul : (i + 1) * ty.sz ≤ xs.length * ty.sz := Nat.mul_le_mul_right _ hi
                  rw [Nat.add_mul, Nat.one_mul] at hmul
                  have hle : o + i * ty.sz + j + n ≤ vs.size := by omega
                  have hrun := run_storeAt (P := P) hn hg hlen hle h1
                  have hw : ∀ k, k < w.heap.size → ¬ own (ρ b) k → (w.setRow g (splice vs.toList (o + i * ty.sz + j) vv.cells.toList).toArray).heap[k]? = w.heap[k]? := fun k hk hne => setRow_other w g k _ (fun e => hne (by rw [e]; exact own_main hr))
                  have hsl : vs.toList.length = vs.size := Array.length_toList
                  have hspl := splice_len (l := vs.toList) (n := vv.cells.toList) (o := o + i * ty.sz + j) (by omega)
                  refine ⟨_, hrun, π, ρ, _, sat_heap S (hsat_put S.hs b _ (by simp) hw hbl ?_) (fun _ _ h => h) (fun _ _ h => h), step_put S.hs b hbl (by simp) (keep_set b _ (fun x κ hh hκ => by rw [hit] at hh; cases hh; rw [knd_same _ xs]; exact hκ)) rfl rfl rfl (by simp) hw, hK⟩
                  refine .inr ⟨g, o, (splice vs.toList (o + i * ty.sz + j) vv.cells.toList).toArray, ?_, setRow_heap w g vs _ e (0, 0) hg, ?_, by simpa using hmx, ?_⟩
                  · rw [List.size_toArray, hspl, hsl]; exact hr
                  · rw [List.size_toArray, hspl, hsl, List.length_set]; exact hfit
                  · intro k y hk
                    rw [List.getElem?_set] at hk
                    by_cases hik : i = k
                    · subst hik
                      rw [if_pos rfl, if_pos hi] at hk
                      simp only [Option.some.injEq] at hk
                      subst hk
                      have hget : xs[i]? = some (xs.getD i ty.dft) := by rw [List.getD_eq_getElem?_getD, List.getElem?_eq_getElem hi]; rfl
                      have hrep := hel i _ hget
                      simp only
                      rw [seg_same (by omega) (by omega)]
                      obtain ⟨v1, v2, hv12, hrep', hnil⟩ := fromCV_ok (ρ := ρ) ty _ _ _ _ (all2_splice (toCV_ok (ρ := ρ) ty _ _ hrep) hc j) hx'
                      cases v2 with
                      | nil => rw [hv12, List.append_nil]; exact hrep'
                      | cons q qs => exact hnil.elim
                    · rw [if_neg hik] at hk
                      simp only
                      rw [seg_other (by omega) ?_]
                      · exact hel k y hk
                      · rcases Nat.lt_or_gt_of_ne hik with hlt | hgt
                        · have : (i + 1) * ty.sz ≤ k * ty.sz := Nat.mul_le_mul_right _ hlt
                          rw [Nat.add_mul, Nat.one_mul] at this
                          right; omega
                        · have : (k + 1) * ty.sz ≤ i * ty.sz := Nat.mul_le_mul_right _ hgt
                          rw [Nat.add_mul, Nat.one_mul] at this
                          left; omega
              · exact h.elim
          · rename_i e bx fs xs q hs hit
            cases hq : (Nat.beq ty.sz (nsz bx fs) && Nat.ble (j + n) hs.length) with
            | false => rw [hq] at h; exact h.elim
            | true =>
              rw [hq] at h
              simp only [cond_true] at h
              simp only [Bool.and_eq_true] at hq
              obtain ⟨hsz, hjn⟩ := hq
              have hsz := beq_eq hsz
              have hjn := Nat.le_of_ble_eq_true hjn
              obtain ⟨hiq, hi, hK⟩ := h
              subst hiq
              rw [nth_eq] at hit
              have hbl := (List.getElem?_eq_some_iff.1 hit).1
              obtain ⟨g', o', n', hr', hva⟩ := ha _ rfl
              subst hva
              rcases S.hs.items b _ hit with ⟨h2, h3, _⟩ | ⟨g, o, vs, Ls, hr, hg, hfit, hmx, hLl, hnd, hel⟩
              · rw [h2] at hr'; cases hr'
              · rw [hr] at hr'
                simp only [Option.some.injEq, Prod.mk.injEq] at hr'
                obtain ⟨rfl, rfl, rfl⟩ := hr'
                have hLi : i < Ls.length := by omega
                have hseg : All2 (DenC π ρ) hs (seg vs.toList (o + i * nsz bx fs) (nsz bx fs)) := by
                  rcases hel i _ _ (List.getElem?_eq_getElem hi) (List.getElem?_eq_getElem hLi) with ⟨_, _, h⟩ | ⟨hne, _⟩
                  · exact h
                  · exact absurd rfl hne
                have hmul : (i + 1) * nsz bx fs ≤ xs.length * nsz bx fs := Nat.mul_le_mul_right _ hi
                rw [Nat.add_mul, Nat.one_mul] at hmul
                have hsl : vs.toList.length = vs.size := Array.length_toList
                have hhl : hs.length = nsz bx fs := by rw [all2_len hseg, seg_len (by omega)]
                have hle : o + i * ty.sz + j + n ≤ vs.size := by rw [hsz]; omega
                have hrun := run_storeAt (P := P) hn hg hlen hle h1
                have hw : ∀ k, k < w.heap.size → ¬ own (ρ b) k → (w.setRow g (splice vs.toList (o + i * ty.sz + j) vv.cells.toList).toArray).heap[k]? = w.heap[k]? := fun k hk hne => setRow_other w g k _ (fun e => hne (by rw [e]; exact own_main hr))
                have hspl := splice_len (l := vs.toList) (n := vv.cells.toList) (o := o + i * ty.sz + j) (by omega)
                refine ⟨_, hrun, π, ρ, _, sat_heap S (hsat_put S.hs b _ (by simp) hw hbl ?_) (fun _ _ h => h) (fun _ _ h => h), step_put S.hs b hbl (by simp) (keep_set b _ (fun x κ hh hκ => by rw [hit] at hh; cases hh; exact hκ)) rfl rfl rfl (by simp) hw, hK⟩
                have hgL : g ∉ Ls.flatten := (List.nodup_cons.1 hnd).1
                refine .inr ⟨g, o, (splice vs.toList (o + i * ty.sz + j) vv.cells.toList).toArray, Ls, ?_, setRow_heap w g vs _ e (0, 0) hg, ?_, hmx, hLl, hnd, ?_⟩
                · rw [List.size_toArray, hspl, hsl]; exact hr
                · rw [List.size_toArray, hspl, hsl]; exact hfit
                · intro k y L hk hL
                  by_cases hik : k = i
                  · subst hik
                    rcases hel k y L hk hL with ⟨_, h5, h6⟩ | ⟨hne, _⟩
                    · refine .inl ⟨rfl, h5, ?_⟩
                      simp only
                      rw [hsz, seg_same (by omega) (by omega)]
                      exact all2_splice hseg hc j
                    · exact absurd rfl hne
                  · rcases hel k y L hk hL with ⟨h4, _⟩ | ⟨_, h5⟩
                    · exact absurd h4 hik
                    · refine .inr ⟨hik, ?_⟩
                      simp only
                      rw [hsz, seg_other (by omega) ?_]
                      · exact repN_keep (fun _ _ h => h) (fun g' hg' => setRow_other w g g' _ (fun e => hgL (by rw [← e]; exact mem_flat hL hg'))) h5
                      · rcases Nat.lt_or_gt_of_ne hik with hlt | hgt
                        · have : (k + 1) * nsz bx fs ≤ i * nsz bx fs := Nat.mul_le_mul_right _ hlt
                          rw [Nat.add_mul, Nat.one_mul] at this
                          left; omega
                        · have : (i + 1) * nsz bx fs ≤ k * nsz bx fs := Nat.mul_le_mul_right _ hgt
                          rw [Nat.add_mul, Nat.one_mul] at this
                          right; omega
          · exact h.elim
        · exact h.elim
    · exact h.elim
  · exact h.elim

/-! ### structs and slices that are written out -/
def fillC (place : Nat → Option (Nat × Nat)) (cells : List CV) : List (Nat × PV) → Option (List CV)
  | [] => some cells
  | (i, p) :: rest => match place i, cellsP p with
    | some (off, size), some cs => bif Nat.beq cs.length size && Nat.ble (off + size) cells.length then fillC place (splice cells off cs) rest else none
    | _, _ => none
theorem foldl_splice (off : Nat) : ∀ (vs : List Value) (k : Nat) (cur : Array Value), off + k + vs.length ≤ cur.size →
    ((vs.zipIdx k).foldl (fun cs p => cs.setIfInBounds (off + p.2) p.1) cur).toList = splice cur.toList (off + k) vs
  | [], k, cur, _ => by simp [splice]
  | v :: vs, k, cur, h => by
    simp only [List.length_cons] at h
    simp only [List.zipIdx_cons, List.foldl_cons]
    rw [foldl_splice off vs (k + 1) _ (by simpa using by omega)]
    have hl : cur.toList.length = cur.size := Array.length_toList
    apply List.ext_getElem?
    intro i
    rw [splice_get (by simp; omega), splice_get (by simp; omega)]
    simp only [Array.toList_setIfInBounds, List.getElem?_set, List.length_cons]
    by_cases h1 : i < off + k
    · rw [if_pos (by omega), if_pos h1, if_neg (by omega)]
    · rw [if_neg h1]
      by_cases h2 : i = off + k
      · subst h2
        rw [if_pos (by omega), if_pos rfl, if_pos (by omega), if_pos (by omega)]
        simp
      · rw [if_neg (by omega)]
        by_cases h3 : i < off + k + (vs.length + 1)
        · rw [if_pos (by omega), if_pos h3, show i - (off + k) = (i - (off + (k + 1))) + 1 by omega, List.getElem?_cons_succ]
        · rw [if_neg (by omega), if_neg h3, if_neg (by omega)]
theorem fill_ok {π : Pers} {ρ : Env} (place : Nat → Option (Nat × Nat)) : ∀ (ps : List (Nat × PV)) (us : List (Nat × Value)) (cells r : List CV) (vs : Array Value), All2 (fun p u => p.1 = u.1 ∧ DenP π ρ p.2 u.2) ps us → All2 (DenC π ρ) cells vs.toList → fillC place cells ps = some r →
    ∃ ws : Array Value, Instr.fill place vs us = some ws ∧ All2 (DenC π ρ) r ws.toList
  | [], [], cells, r, vs, _, hc, h => by simp only [fillC, Option.some.injEq] at h; subst h; exact ⟨vs, rfl, hc⟩
  | (i, p) :: ps, (i', u) :: us, cells, r, vs, hp, hc, h => by
    obtain ⟨⟨hi, hd⟩, hp'⟩ := hp
    simp only at hi hd
    subst hi
    simp only [fillC] at h
    split at h
    · rename_i off size cs hpl hcs
      cases hq : (Nat.beq cs.length size && Nat.ble (off + size) cells.length) with
      | false => rw [hq] at h; cases h
      | true =>
        rw [hq] at h
        simp only [cond_true] at h
        simp only [Bool.and_eq_true] at hq
        have e1 := beq_eq hq.1
        have e2 := Nat.le_of_ble_eq_true hq.2
        obtain ⟨hcc, h1⟩ := cellsP_ok hd hcs
        have hul : u.cells.size = size := by rw [← Array.length_toList, ← all2_len hcc, e1]
        have hvl : cells.length = vs.size := by rw [all2_len hc, Array.length_toList]
        have hsp : (u.cells.zipIdx.foldl (fun cs p => cs.setIfInBounds (off + p.2) p.1) vs).toList = splice vs.toList off u.cells.toList := by
          have := foldl_splice off u.cells.toList 0 vs (by rw [Array.length_toList]; omega)
          rw [← Array.foldl_toList, Array.toList_zipIdx]
          simpa using this
        obtain ⟨ws, hw, hr⟩ := fill_ok place ps us _ r (u.cells.zipIdx.foldl (fun cs p => cs.setIfInBounds (off + p.2) p.1) vs) hp' (by rw [hsp]; exact all2_splice hc hcc off) h
        refine ⟨ws, ?_, hr⟩
        have hnn : ¬ ((u.cells.size ≠ size || decide (off + u.cells.size > vs.size)) = true) := by simp; omega
        simp only [Instr.fill, hpl]
        rw [if_neg hnn]
        exact hw
    · cases h
  | [], _ :: _, _, _, _, hp, _, _ => hp.elim
  | _ :: _, [], _, _, _, hp, _, _ => hp.elim
def evParts (s : SS) (gs : List (Nat × Bool)) : List (Nat × Operand) → Option (List (Nat × PV))
  | [] => some []
  | (i, x) :: r => match evL s gs x, evParts s gs r with
    | some p, some ps => some ((i, p) :: ps)
    | _, _ => none
theorem evParts_ok {π : Pers} {ρ : Env} {s : SS} {a : Act} {w : World} (S : Sat π ρ s a w) {gs : List (Nat × Bool)} (hg : GH gs a.tmps) : ∀ (l : List (Nat × Operand)) (ps : List (Nat × PV)), evParts s gs l = some ps → All2 (fun p u => p.1 = u.1 ∧ DenP π ρ p.2 u.2) ps (l.map fun (i, x) => (i, a.eval x))
  | [], ps, h => by simp only [evParts, Option.some.injEq] at h; subst h; trivial
  | (i, x) :: r, ps, h => by
    simp only [evParts] at h
    split at h
    · rename_i p ps' hp hps
      cases h
      exact ⟨⟨rfl, evL_ok S hg hp⟩, evParts_ok S hg r ps' hps⟩
    · cases h
def placesOf (P : Program) : List Field → Option (List (Nat × Nat))
  | [] => some []
  | f :: fs => match szOf P f.type, placesOf P fs with
    | some n, some r => some ((f.offset, n) :: r)
    | _, _ => none
theorem placesOf_ok {P : Program} : ∀ (fs : List Field) (r : List (Nat × Nat)), placesOf P fs = some r → fs.mapM (fun f => (P.info? f.type).map fun i => (f.offset, i.size)) = some r
  | [], r, h => by simp only [placesOf, Option.some.injEq] at h; subst h; rfl
  | f :: fs, r, h => by
    simp only [placesOf] at h
    split at h
    · rename_i n r' hn hr
      cases h
      unfold szOf at hn
      split at hn
      · rename_i i hi
        simp only [Option.some.injEq] at hn
        subst hn
        simp [List.mapM_cons, hi, placesOf_ok fs r' hr]
      · cases hn
    · cases h
def buildP (P : Program) (t : TypeId) (ps : Option (List (Nat × PV))) : Option PV :=
  match ps, zeroCs P t with
  | some ps, some zc => match P.underlying t with
    | some (.struct fields) => match placesOf P fields.toList with
      | some places => match fillC (fun i => nth places i) zc ps with
        | some cs => some (.agg cs)
        | none => none
      | none => none
    | some (.array _ e) => match szOf P e with
      | some n => match fillC (fun i => some (i * n, n)) zc ps with
        | some cs => some (.agg cs)
        | none => none
      | none => none
    | _ => none
  | _, _ => none
theorem buildP_all {P : Program} {π : Pers} {ρ : Env} {t : TypeId} {ps : Option (List (Nat × PV))} {parts : Array (Nat × Value)} (hp : ∀ l, ps = some l → All2 (fun p u => p.1 = u.1 ∧ DenP π ρ p.2 u.2) l parts.toList) {r : PV} (h : buildP P t ps = some r) :
    ∃ u, (∀ w, (Instr.build t parts).run P w = .ok u w) ∧ DenP π ρ r u := by
  unfold buildP at h
  split at h
  · rename_i l zc hzc
    unfold zeroCs at hzc
    split at hzc
    · rename_i it hit
      split at hzc
      · rename_i z hz
        have hz0 := (constCs_ok (π := π) (ρ := ρ) hzc).1
        split at h
        · rename_i fields hf
          split at h
          · rename_i places hpl
            split at h
            · rename_i cs hcs
              cases h
              obtain ⟨ws, h1, h2⟩ := fill_ok _ l parts.toList _ _ z.cells (hp l rfl) hz0 hcs
              refine ⟨.agg ws, fun w => run_build w t parts ws ?_, ws.toList, by simp, h2⟩
              unfold Program.built
              simp only [hit, hf, hz, placesOf_ok _ _ hpl]
              rw [← h1]
              congr 1
              funext i
              simp [nth_eq]
            · cases h
          · cases h
        · rename_i len e hf
          split at h
          · rename_i n hn
            split at h
            · rename_i cs hcs
              cases h
              obtain ⟨ws, h1, h2⟩ := fill_ok _ l parts.toList _ _ z.cells (hp l rfl) hz0 hcs
              refine ⟨.agg ws, fun w => run_build w t parts ws ?_, ws.toList, by simp, h2⟩
              unfold szOf at hn
              split at hn
              · rename_i ie hie
                simp only [Option.some.injEq] at hn
                subst hn
                unfold Program.built
                simp only [hit, hf, hz, hie]
                exact h1
              · cases hn
            · cases h
          · cases h
        · cases h
      · cases hzc
    · cases hzc
  · cases h
theorem buildP_ok {P : Program} {π : Pers} {ρ : Env} (w : World) {t : TypeId} {ps : Option (List (Nat × PV))} {parts : Array (Nat × Value)} (hp : ∀ l, ps = some l → All2 (fun p u => p.1 = u.1 ∧ DenP π ρ p.2 u.2) l parts.toList) {r : PV} (h : buildP P t ps = some r) :
    ∃ u, (Instr.build t parts).run P w = .ok u w ∧ DenP π ρ r u := by
  obtain ⟨u, h1, h2⟩ := buildP_all hp h
  exact ⟨u, h1 w, h2⟩
/-- The operations that only read, and those that put a struct together. -/
def pureX (P : Program) (s : SS) (gs : List (Nat × Bool)) (o : Oper) : PR :=
  match o.op with
  | .build t parts => oneP (buildP P t (evParts s gs parts.toList))
  | _ => pureOp P s gs o
theorem pureX_u {P : Program} {π : Pers} {ρ : Env} {s : SS} {a : Act} {w : World} (S : Sat π ρ s a w) {gs : List (Nat × Bool)} (hg : GH gs a.tmps) {o : Oper} {ob fc : List Prop} {r : PV} (h : pureX P s gs o = some (ob, fc, r)) (ho : allP ob) :
    allP fc ∧ ∃ u, (∀ w', Alike (pz (eL s gs o) π) ρ s.hp w w' → (execOp a.eval o).run P w' = .ok (.value u) w') ∧ DenP π ρ r u := by
  unfold pureX at h
  split at h
  · rename_i t parts heq
    unfold oneP at h
    split at h
    · rename_i p hp
      cases h
      obtain ⟨u, h1, h2⟩ := buildP_all (parts := parts.map fun (i, x) => (i, a.eval x)) (fun l hl => by rw [Array.toList_map]; exact evParts_ok S hg _ l hl) hp
      refine ⟨trivial, u, fun w' _ => ?_, h2⟩
      unfold execOp
      rw [heq]
      exact vrun (h1 w')
    · cases h
  · exact pureOp_u S hg h ho
theorem pureX_ok {P : Program} {π : Pers} {ρ : Env} {s : SS} {a : Act} {w : World} (S : Sat π ρ s a w) {gs : List (Nat × Bool)} (hg : GH gs a.tmps) {o : Oper} {ob fc : List Prop} {r : PV} (h : pureX P s gs o = some (ob, fc, r)) (ho : allP ob) :
    allP fc ∧ ∃ u, (execOp a.eval o).run P w = .ok (.value u) w ∧ DenP π ρ r u := by
  obtain ⟨h1, u, h2, h3⟩ := pureX_u S hg h ho
  exact ⟨h1, u, h2 w (Alike.refl _ _ _ _), h3⟩
end Go.Proofs.Ytkpepieepdmjpaa.Sx
