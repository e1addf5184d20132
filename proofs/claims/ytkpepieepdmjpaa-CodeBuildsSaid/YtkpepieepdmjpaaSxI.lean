/- A machine of abstract states over the model, part I: append, copy, make. No condition. -/
import Derived.Test.YtkpepieepdmjpaaSxH
import Derived.Laws.MakeOwn
namespace Go.Proofs.Ytkpepieepdmjpaa.Sx
open Go
set_option linter.unusedVariables false
set_option linter.unusedSimpArgs false

theorem vw_len {α : Type} {xs : List α} {a n : Nat} (h : a + n ≤ xs.length) : (vw xs a n).length = n := by unfold vw; rw [List.length_take, List.length_drop]; omega
theorem vw_all {α : Type} (xs : List α) : vw xs 0 xs.length = xs := by simp [vw]
theorem vw_get {α : Type} {xs : List α} {a n i : Nat} {x : α} (h : (vw xs a n)[i]? = some x) : xs[a + i]? = some x := by
  unfold vw at h
  rw [List.getElem?_take] at h
  split at h
  · rwa [List.getElem?_drop] at h
  · cases h
theorem seg_seg {l : List Value} {o m i n : Nat} (h : i + n ≤ m) : seg (seg l o m) i n = seg l (o + i) n := by
  apply List.ext_getElem?
  intro k
  by_cases hk : k < n
  · rw [seg_get' hk, seg_get' hk, seg_get' (by omega)]; congr 1; omega
  · rw [List.getElem?_eq_none (by unfold seg; rw [List.length_take]; omega), List.getElem?_eq_none (by unfold seg; rw [List.length_take]; omega)]
theorem rowAt_fit {π : Pers} {t : Ty} {l : List Value} {o : Nat} {xs : List t.T} (h : RowAt π t l o xs) (hs : 0 < t.sz) (hn : xs ≠ []) : o + xs.length * t.sz ≤ l.length := by
  have hp := List.length_pos_iff.2 hn
  have hlast : xs[xs.length - 1]? = some xs[xs.length - 1] := List.getElem?_eq_getElem (by omega)
  have := rep_len t _ _ (h _ _ hlast)
  unfold seg at this
  rw [List.length_take, List.length_drop] at this
  have e : xs.length * t.sz = (xs.length - 1) * t.sz + t.sz := by
    rw [← Nat.succ_mul]; congr 1; omega
  omega
theorem rowAt_seg {π : Pers} {t : Ty} {l : List Value} {o : Nat} {xs : List t.T} (h : RowAt π t l o xs) : RowAt π t (seg l o (xs.length * t.sz)) 0 xs := by
  intro i x hi
  have hlt := (List.getElem?_eq_some_iff.1 hi).1
  have hm : (i + 1) * t.sz ≤ xs.length * t.sz := Nat.mul_le_mul_right _ hlt
  rw [Nat.add_mul, Nat.one_mul] at hm
  rw [Nat.zero_add, seg_seg (by omega)]
  exact h i x hi
theorem rowAt_vw {π : Pers} {t : Ty} {l : List Value} {o a n : Nat} {xs : List t.T} (h : RowAt π t l o xs) : RowAt π t l (o + a * t.sz) (vw xs a n) := by
  intro i x hi
  have := h _ _ (vw_get hi)
  rwa [Nat.add_mul, ← Nat.add_assoc] at this
theorem rowAt_one {π : Pers} {t : Ty} {l : List Value} {xs : List t.T} (h : RowAt π t l 0 xs) (hl : l.length = xs.length * t.sz) : ∀ u ∈ l, u.oneCell' = true := by
  intro u hu
  obtain ⟨k, hk, rfl⟩ := List.mem_iff_getElem.1 hu
  have hs : 0 < t.sz := by
    rcases Nat.eq_zero_or_pos t.sz with h0 | h0
    · rw [h0, Nat.mul_zero] at hl; omega
    · exact h0
  have hq : k / t.sz < xs.length := by rw [Nat.div_lt_iff_lt_mul hs]; omega
  have hr := h (k / t.sz) _ (List.getElem?_eq_getElem hq)
  refine rep_one t _ _ hr _ ?_
  have hm := Nat.mod_lt k hs
  have hd := Nat.div_add_mod k t.sz
  rw [Nat.mul_comm] at hd
  have : (seg l (0 + k / t.sz * t.sz) t.sz)[k % t.sz]? = some l[k] := by
    rw [seg_get' hm, show 0 + k / t.sz * t.sz + k % t.sz = k by omega]
    exact List.getElem?_eq_getElem hk
  exact List.mem_of_getElem? this
theorem rowAt_append {π : Pers} {t : Ty} {l m : List Value} {xs ys : List t.T} (h : RowAt π t l 0 xs) (h' : RowAt π t m 0 ys) (hl : l.length = xs.length * t.sz) (hm : m.length = ys.length * t.sz) (r : List Value) : RowAt π t (l ++ m ++ r) 0 (xs ++ ys) := by
  intro i x hi
  rw [Nat.zero_add]
  have hseg : ∀ {q k : Nat} {a b c : List Value}, k + q ≤ b.length → seg (a ++ b ++ c) (a.length + k) q = seg b k q := by
    intro q k a b c hh
    apply List.ext_getElem?
    intro j
    by_cases hj : j < q
    · rw [seg_get' hj, seg_get' hj, List.getElem?_append_left (by rw [List.length_append]; omega), List.getElem?_append_right (by omega)]
      congr 1; omega
    · rw [List.getElem?_eq_none (by unfold seg; rw [List.length_take]; omega), List.getElem?_eq_none (by unfold seg; rw [List.length_take]; omega)]
  by_cases hx : i < xs.length
  · rw [List.getElem?_append_left hx] at hi
    have := h i x hi
    rw [Nat.zero_add] at this
    have hm2 : (i + 1) * t.sz ≤ xs.length * t.sz := Nat.mul_le_mul_right _ hx
    rw [Nat.add_mul, Nat.one_mul] at hm2
    have e := hseg (q := t.sz) (k := i * t.sz) (a := []) (b := l) (c := m ++ r) (by omega)
    simp only [List.nil_append, List.length_nil, Nat.zero_add] at e
    rw [List.append_assoc, e]
    exact this
  · rw [List.getElem?_append_right (by omega)] at hi
    have := h' _ x hi
    rw [Nat.zero_add] at this
    have hlt := (List.getElem?_eq_some_iff.1 hi).1
    have hm2 : (i - xs.length + 1) * t.sz ≤ ys.length * t.sz := Nat.mul_le_mul_right _ hlt
    rw [Nat.add_mul, Nat.one_mul] at hm2
    have e := hseg (q := t.sz) (k := (i - xs.length) * t.sz) (a := l) (b := m) (c := r) (by omega)
    rw [show i * t.sz = l.length + (i - xs.length) * t.sz by rw [hl, ← Nat.add_mul]; congr 1; omega, e]
    exact this

def tyOf : PV → Option Ty
  | .c (.row t _) => some t
  | .c (.view t _ _ _) => some t
  | _ => none
/-- The row that a slice shows, at a type. -/
def srcRow (s : SS) (ty : Ty) : PV → Option (List Prop × List ty.T)
  | .c (.row t xs) => if h : t = ty then some ([], h ▸ xs) else none
  | .c (.view t b a n) => match nth s.hp b with
    | some (.row _ t' xs) => bif decide (t = ty) then (if h : t' = ty then some ([a + n ≤ xs.length], vw (h ▸ xs) a n) else none) else none
    | _ => none
  | .c .nils => some ([], ([] : List ty.T))
  | _ => none
theorem firstCells_at {P : Program} {size m k g o c : Nat} {w w' : World} {vs : List Value} {cur : Array Value} {e : TypeId} {f : Nat × Nat} (hw : w'.heap = w.heap) (hg : w.heap[g]? = some (.cells cur e f)) (hv : vs = seg cur.toList o (m * size)) (hl : vs.length = m * size) (hk : k ≤ m) :
    (Builtin.firstCells size k (.slice (some ⟨g, o, none⟩) m c)).run P w' = .ok (vs.take (k * size)).toArray w' := by
  refine run_firstCells_some (P := P) w' size k ⟨g, o, none⟩ m c _ (by rw [List.length_take, hl]; exact Nat.min_eq_left (Nat.mul_le_mul_right _ hk)) (fun j v hj => ?_)
  subst hv
  rw [List.getElem?_take] at hj
  split at hj
  · rw [Addr.add_lit, cell_of_row w' g _ cur e f (by rw [hw]; exact hg)]
    simpa using seg_get hj
  · cases hj
theorem srcRow_all {P : Program} {π : Pers} {ρ : Env} {s : SS} {a : Act} {w : World} (S : Sat π ρ s a w) {ty : Ty} (hsz : 0 < ty.sz) {x : PV} {v : Value} (hx : DenP π ρ x v) {ob : List Prop} {ys : List ty.T} (h : srcRow s ty x = some (ob, ys)) (ho : allP ob) :
    ∃ A c news, v = .slice A ys.length c ∧ ys.length ≤ c ∧ c ≤ maxLen ∧ news.length = ys.length * ty.sz ∧ RowAt π ty news 0 ys ∧ ∀ w' k, w'.heap = w.heap → k ≤ ys.length → (Builtin.firstCells ty.sz k v).run P w' = .ok (news.take (k * ty.sz)).toArray w' := by
  have hnil : ∀ (A : Option Addr) (c : Nat) (w' : World) (k : Nat), k ≤ 0 → (Builtin.firstCells ty.sz k (.slice A 0 c)).run P w' = .ok (([] : List Value).take (k * ty.sz)).toArray w' := by
    intro A c w' k hk
    obtain rfl : k = 0 := by omega
    cases A <;> simp [Builtin.firstCells, loadCells, loadCellsFrom]
  unfold srcRow at h
  split at h
  · rename_i t xs
    split at h
    · rename_i ht
      subst ht
      cases h
      obtain ⟨A, c, rfl, h1, h2, h3⟩ := hx
      rcases h3 with rfl | ⟨g, o, vs, rfl, h4, h5⟩
      · exact ⟨A, c, [], rfl, h1, h2, by simp, fun i x hi => by simp at hi, fun w' k _ hk => hnil A c w' k hk⟩
      · by_cases hn : xs = []
        · subst hn
          exact ⟨_, c, [], rfl, h1, h2, by simp, fun i x hi => by simp at hi, fun w' k _ hk => hnil _ c w' k hk⟩
        · obtain ⟨e, f, he⟩ := S.hs.pers.1 g vs h4
          have hra : RowAt π t vs.toList o xs := h5
          have hfit := rowAt_fit hra hsz hn
          exact ⟨_, c, seg vs.toList o (xs.length * t.sz), rfl, h1, h2, seg_len hfit, rowAt_seg hra, fun w' k hw hk => firstCells_at hw he rfl (seg_len hfit) hk⟩
    · cases h
  · rename_i t b i n
    split at h
    · rename_i e t' xs hit
      cases hd : decide (t = ty) with
      | false => rw [hd] at h; cases h
      | true =>
        rw [hd] at h
        have := of_decide_eq_true hd
        subst this
        simp only [cond_true] at h
        split at h
        · rename_i ht
          subst ht
          cases h
          obtain ⟨ho, _⟩ := ho
          have hvl := vw_len ho
          rcases hx with ⟨rfl, A, rfl⟩ | ⟨g, o, m, c, hr, h1, h2, h3, rfl⟩
          · refine ⟨A, 0, [], by rw [hvl], by rw [hvl]; exact Nat.le_refl _, by simp [maxLen], by rw [hvl]; simp, fun i x hi => ?_, fun w' k _ hk => by rw [hvl] at hk; exact hnil A 0 w' k hk⟩
            have := (List.getElem?_eq_some_iff.1 hi).1
            rw [hvl] at this; omega
          · rw [nth_eq] at hit
            rcases S.hs.items b _ hit with ⟨h4, h5⟩ | ⟨g', o', vs, h4, h5, h6, h7, h8⟩
            · rw [h4] at hr; cases hr
            · rw [h4] at hr
              simp only [Option.some.injEq, Prod.mk.injEq] at hr
              obtain ⟨rfl, rfl, rfl⟩ := hr
              have hra : RowAt π t' vs.toList (o' + i * t'.sz) (vw xs i n) := rowAt_vw h8
              have hfit : o' + i * t'.sz + (vw xs i n).length * t'.sz ≤ vs.toList.length := by
                rw [hvl, Nat.add_assoc, ← Nat.add_mul, Array.length_toList]
                exact Nat.le_trans (Nat.add_le_add_left (Nat.mul_le_mul_right _ ho) _) h6
              refine ⟨_, c, seg vs.toList (o' + i * t'.sz) ((vw xs i n).length * t'.sz), by rw [hvl], by rw [hvl]; exact h1, h2, seg_len hfit, rowAt_seg hra, fun w' k hw hk => ?_⟩
              rw [hvl] at hfit hk ⊢
              exact firstCells_at hw h5 rfl (seg_len hfit) hk
        · cases h
    · cases h
  · cases h
    simp only [DenP, DenC] at hx
    subst hx
    exact ⟨none, 0, [], rfl, Nat.le_refl _, by simp [maxLen], by simp, fun i x hi => by simp at hi, fun w' k _ hk => hnil none 0 w' k hk⟩
  · cases h

theorem srcRow_ok {P : Program} {π : Pers} {ρ : Env} {s : SS} {a : Act} {w : World} (S : Sat π ρ s a w) {ty : Ty} (hsz : 0 < ty.sz) {x : PV} {v : Value} (hx : DenP π ρ x v) {ob : List Prop} {ys : List ty.T} (h : srcRow s ty x = some (ob, ys)) (ho : allP ob) :
    ∃ A c news, v = .slice A ys.length c ∧ ys.length ≤ c ∧ c ≤ maxLen ∧ news.length = ys.length * ty.sz ∧ RowAt π ty news 0 ys ∧ ∀ w', w'.heap = w.heap → (Builtin.firstCells ty.sz ys.length v).run P w' = .ok news.toArray w' := by
  obtain ⟨A, c, news, h1, h2, h3, h4, h5, h6⟩ := srcRow_all (P := P) S hsz hx h ho
  refine ⟨A, c, news, h1, h2, h3, h4, h5, fun w' hw => ?_⟩
  have := h6 w' ys.length hw (Nat.le_refl _)
  rwa [← h4, List.take_length] at this

section
variable {P : Program} {t1 t2 ty e e2 : TypeId} {i : TypeInfo} {z : Value}
theorem run_app_room (ht : P.underlying t1 = some (.slice e)) (ht2 : P.underlying t2 = some (.slice e2)) (hi : P.info? e = some i) {g o n c m : Nat} {x : Value} {A2 : Option Addr} {c2 : Nat} {w : World} {news : List Value} {cur : Array Value} (hx : x = .slice A2 m c2)
    (hf : (Builtin.firstCells i.size m x).run P w = .ok news.toArray w) (hroom : n + m ≤ c) (hg : w.heap[g]? = some (.cells cur e (0, 0))) (hfit : o + n * i.size + news.length ≤ cur.size) (h1 : ∀ u ∈ news, u.oneCell' = true) :
    (Builtin.append_ #[t1, t2] ty #[.slice (some ⟨g, o, none⟩) n c, x]).run P w = .ok (.slice (some ⟨g, o, none⟩) (n + m) c) (w.setRow g (splice cur.toList (o + n * i.size) news).toArray) := by
  subst hx
  have hst := run_storeCells_at P g (o + n * i.size) e news 0 cur w hg (by simpa using hfit) h1
  simp only [Nat.add_zero] at hst
  simp [Builtin.append_, run_underlying ht, run_underlying ht2, sizeOf, typeInfo, hi, Builtin.lenOf, hroom, hf, Addr.add_lit, hst, splice]
theorem run_app_none (ht : P.underlying t1 = some (.slice e)) (ht2 : P.underlying t2 = some (.slice e2)) (hi : P.info? e = some i) {A : Option Addr} {n c : Nat} {x : Value} {A2 : Option Addr} {c2 : Nat} {w : World} (hx : x = .slice A2 0 c2)
    (hf : (Builtin.firstCells i.size 0 x).run P w = .ok #[] w) (hroom : n ≤ c) :
    (Builtin.append_ #[t1, t2] ty #[.slice A n c, x]).run P w = .ok (.slice A n c) w := by
  subst hx
  cases A <;> simp [Builtin.append_, run_underlying ht, run_underlying ht2, sizeOf, typeInfo, hi, Builtin.lenOf, hroom, hf, storeCells]
theorem run_app_grow (ht : P.underlying t1 = some (.slice e)) (ht2 : P.underlying t2 = some (.slice e2)) (hi : P.info? e = some i) (hz : i.zero = some z) {A : Option Addr} {n c m : Nat} {x : Value} {A2 : Option Addr} {c2 : Nat} {w : World} {news olds : List Value} (hx : x = .slice A2 m c2)
    (hf : (Builtin.firstCells i.size m x).run P w.drew = .ok news.toArray w.drew) (hfo : (Builtin.firstCells i.size n (.slice A n c)).run P w.drew = .ok olds.toArray w.drew)
    (hg : c < n + m) (h63 : n + m ≤ maxLen) (hb : (n + m) * i.bytes ≤ 140737488355328) :
    (Builtin.append_ #[t1, t2] ty #[.slice A n c, x]).run P w = .ok (.slice (some ⟨w.heap.size, 0, none⟩) (n + m) (grownCap w (n + m) c e))
      (w.drew.alloc (.cells (olds.toArray ++ news.toArray ++ Builtin.zeroCells z.cells (grownCap w (n + m) c e - (n + m))) e)) := by
  subst hx
  have hn : ¬ (n + m ≤ c) := by omega
  have h63' : ¬ (9223372036854775807 < ((n : Int) + (m : Int))) := by simp only [maxLen] at h63; omega
  have h48' : ¬ (281474976710656 < Builtin.nextslicecap (n + m) c * i.bytes) := by have := growslice_fits hg hb; omega
  simp [Builtin.append_, run_underlying ht, run_underlying ht2, sizeOf, typeInfo, zeroValue, hi, hz, Builtin.lenOf, hn, h63', h48', Question.forced, hf, hfo, newRow, grownCap]
  congr 2
  apply Array.ext'
  simp [List.append_assoc]
end
end Go.Proofs.Ytkpepieepdmjpaa.Sx
