/- A machine of abstract states over the model, part Kc: copy. No condition. -/
import Derived.Test.YtkpepieepdmjpaaSxK
namespace Go.Proofs.Ytkpepieepdmjpaa.Sx
open Go
set_option linter.unusedVariables false
set_option linter.unusedSimpArgs false

/-! ### copy -/
def copyP (P : Program) (s : SS) (t1 t2 : TypeId) (d x : Option PV) (dst : Option Nat) (K : SS → Prop) : Prop :=
  match d, x with
  | some (.c (.view t b a n)), some x => match P.underlying t1, P.underlying t2 with
    | some (.slice e), some (.slice _) => match szOf P e, nth s.hp b, srcRow s t x with
      | some sz, some (.row e' t' xs), some (ob, ys) => bif Nat.beq sz t.sz && Nat.blt 0 t.sz then
          (if h : t' = t then
            obl ob (a + n ≤ xs.length ∧ putK { s with hp := s.hp.set b (.row e' t (splice (h ▸ xs : List t.T) a (ys.take (min ys.length n)))) } dst (.p (.c (.int .i64 (min ys.length n : Nat)))) K)
          else False) else False
      | _, _, _ => False
    | _, _ => False
  | some (.c .nils), some (.c (.row _ _)) => match P.underlying t1, P.underlying t2 with
    | some (.slice e), some (.slice _) => match szOf P e with
      | some _ => putK s dst (.p (.c (.int .i64 0))) K
      | none => False
    | _, _ => False
  | _, _ => False
theorem set_same {α : Type} {l : List α} {b : Nat} {x : α} (h : l[b]? = some x) : l.set b x = l := by
  apply List.ext_getElem?
  intro k
  rw [List.getElem?_set]
  by_cases hk : b = k
  · subst hk; rw [if_pos rfl, if_pos (List.getElem?_eq_some_iff.1 h).1, h]
  · rw [if_neg hk]
theorem copyP_ok {N : Nat} {P : Program} {π : Pers} {ρ : Env} {s : SS} {a : Act} {w : World} (S : Sat π ρ s a w) {t1 t2 ty0 : TypeId} {d x : Option PV} {vd vx : Value} (hd : ∀ p, d = some p → DenP π ρ p vd) (hx : ∀ p, x = some p → DenP π ρ p vx) {dst : Option Nat} {K : SS → Prop} (h : copyP P s t1 t2 d x dst K) :
    ∃ u w', (Builtin.copy_ #[t1, t2] ty0 #[vd, vx]).run P w = .ok u w' ∧ Out N P π ρ s w K (a.put dst u) w' := by
  unfold copyP at h
  split at h
  · rename_i t b a0 n px
    split at h
    · rename_i e e2 ht ht2
      split at h
      · rename_i sz e' t' xs ob ys hsz0 hit hsrc
        cases hq : (Nat.beq sz t.sz && Nat.blt 0 t.sz) with
        | false => rw [hq] at h; exact h.elim
        | true =>
          rw [hq] at h
          simp only [cond_true] at h
          simp only [Bool.and_eq_true] at hq
          have hsize := beq_eq hq.1
          subst hsize
          have hsz : 0 < t.sz := by have := hq.2; simpa [Nat.blt_eq] using this
          split at h
          · rename_i ht'
            subst ht'
            obtain ⟨ho, han, hK⟩ := obl_out h
            simp only at hK
            obtain ⟨A2, c2, news, hvx, hyc, hcm, hnl, hra, hfc⟩ := srcRow_all (P := P) S hsz (hx _ rfl) hsrc ho
            rw [nth_eq] at hit
            have hbl := (List.getElem?_eq_some_iff.1 hit).1
            have hkl : min ys.length n ≤ ys.length := Nat.min_le_left _ _
            have hf := hfc w (min ys.length n) rfl hkl
            have htl : (news.take (min ys.length n * t'.sz)).length = min ys.length n * t'.sz := by
              rw [List.length_take, hnl]; exact Nat.min_eq_left (Nat.mul_le_mul_right _ hkl)
            have h1 : ∀ u ∈ news.take (min ys.length n * t'.sz), u.oneCell' = true := fun u hu => rowAt_one hra hnl u (List.mem_of_mem_take hu)
            rcases hd _ rfl with ⟨hn0, A, hvd⟩ | ⟨g, o, m, c, hr, h1', h2, h3, hvd⟩
            · subst hn0
              have hm0 : min ys.length 0 = 0 := by simp
              have hspl : splice xs a0 (ys.take (min ys.length 0)) = xs := by simp [splice]
              rw [hspl] at hK
              have hs : s.hp.set b (.row e' t' xs) = s.hp := set_same hit
              have H : HSat π ρ (s.hp.set b (.row e' t' xs)) w := by rw [hs]; exact S.hs
              have S' := sat_heap S H (fun _ _ h => h) (fun _ _ h => h)
              obtain ⟨s', g1, g2, g3⟩ := putK_ok (x := .c (.int .i64 ((min ys.length 0 : Nat) : Int))) (u := .int .i64 0) S' (by simp [DenP, DenC]) hK
              refine ⟨.int .i64 0, w, ?_, π, ρ, s', g1, by rw [g3]; simp only; rw [hs]; exact Step.refl _ _ _ _ _, g2⟩
              rw [hm0] at hf
              subst hvd hvx
              cases A <;> simp [Builtin.copy_, run_underlying ht, Builtin.lenOf, run_sizeOf hsz0, hf, storeCells, goInt]
            · rcases S.hs.items b _ hit with ⟨h4, h5⟩ | ⟨g', o', vs, h4, h5, h6, h7, h8⟩
              · rw [h4] at hr; cases hr
              · rw [h4] at hr
                simp only [Option.some.injEq, Prod.mk.injEq] at hr
                obtain ⟨rfl, rfl, rfl⟩ := hr
                have hsl : vs.toList.length = vs.size := Array.length_toList
                have hke : min ys.length n ≤ n := Nat.min_le_right _ _
                have hbig : (a0 + min ys.length n) * t'.sz ≤ xs.length * t'.sz := Nat.mul_le_mul_right _ (by omega)
                rw [Nat.add_mul] at hbig
                have hfit : o' + a0 * t'.sz + (news.take (min ys.length n * t'.sz)).length ≤ vs.size := by rw [htl]; omega
                have hst := run_storeCells_at P g' (o' + a0 * t'.sz) e' (news.take (min ys.length n * t'.sz)) 0 vs w h5 (by simpa using hfit) h1
                simp only [Nat.add_zero] at hst
                have hw : ∀ k, k < w.heap.size → ¬ own (ρ b) k → (w.setRow g' (splice vs.toList (o' + a0 * t'.sz) (news.take (min ys.length n * t'.sz))).toArray).heap[k]? = w.heap[k]? := fun k hk hne => setRow_other w g' k _ (fun e => hne (by rw [e]; exact own_main h4))
                have hspl := splice_len (l := vs.toList) (n := news.take (min ys.length n * t'.sz)) (o := o' + a0 * t'.sz) (by rw [hsl]; exact hfit)
                have hyt : (ys.take (min ys.length n)).length = min ys.length n := by rw [List.length_take]; omega
                have hspx := splice_len (l := xs) (n := ys.take (min ys.length n)) (o := a0) (by rw [hyt]; omega)
                have hit' : HBIs π ρ (w.setRow g' (splice vs.toList (o' + a0 * t'.sz) (news.take (min ys.length n * t'.sz))).toArray) b (.row e' t' (splice xs a0 (ys.take (min ys.length n)))) := by
                  refine .inr ⟨g', o', (splice vs.toList (o' + a0 * t'.sz) (news.take (min ys.length n * t'.sz))).toArray, ?_, setRow_heap w g' vs _ e' (0, 0) h5, ?_, by rw [hspx]; exact h7, ?_⟩
                  · rw [List.size_toArray.trans (hspl.trans hsl)]; exact h4
                  · rw [List.size_toArray.trans (hspl.trans hsl), hspx]; exact h6
                  · intro i y hi
                    simp only
                    rw [splice_get (by rw [hyt]; omega), hyt] at hi
                    by_cases hia : i < a0
                    · rw [if_pos hia] at hi
                      have : (i + 1) * t'.sz ≤ a0 * t'.sz := Nat.mul_le_mul_right _ hia
                      rw [Nat.add_mul, Nat.one_mul] at this
                      rw [seg_other (by rw [hsl]; exact hfit) (.inl (by omega))]
                      exact h8 i y hi
                    · rw [if_neg hia] at hi
                      by_cases hik : i < a0 + min ys.length n
                      · rw [if_pos hik, List.getElem?_take, if_pos (by omega)] at hi
                        have hrep := hra _ _ hi
                        rw [Nat.zero_add] at hrep
                        have hlt : i - a0 < min ys.length n := by omega
                        have : (i - a0 + 1) * t'.sz ≤ min ys.length n * t'.sz := Nat.mul_le_mul_right _ hlt
                        rw [Nat.add_mul, Nat.one_mul] at this
                        have e1 : o' + i * t'.sz = o' + a0 * t'.sz + (i - a0) * t'.sz := by rw [Nat.add_assoc, ← Nat.add_mul]; congr 2; omega
                        have e2 : seg (splice vs.toList (o' + a0 * t'.sz) (news.take (min ys.length n * t'.sz))) (o' + a0 * t'.sz + (i - a0) * t'.sz) t'.sz = seg news ((i - a0) * t'.sz) t'.sz := by
                          apply List.ext_getElem?
                          intro j
                          by_cases hj : j < t'.sz
                          · rw [seg_get' hj, seg_get' hj, splice_get (by rw [hsl]; exact hfit), if_neg (by omega), if_pos (by rw [htl]; omega), List.getElem?_take, if_pos (by omega)]
                            congr 1; omega
                          · rw [List.getElem?_eq_none (by unfold seg; rw [List.length_take]; omega), List.getElem?_eq_none (by unfold seg; rw [List.length_take]; omega)]
                        rw [e1, e2]
                        exact hrep
                      · rw [if_neg hik] at hi
                        have : (a0 + min ys.length n) * t'.sz ≤ i * t'.sz := Nat.mul_le_mul_right _ (by omega)
                        rw [Nat.add_mul] at this
                        rw [seg_other (by rw [hsl]; exact hfit) (.inr (by rw [htl]; omega))]
                        exact h8 i y hi
                have S' := sat_heap S (hsat_put S.hs b (.row e' t' (splice xs a0 (ys.take (min ys.length n)))) (by simp) hw hbl hit') (fun _ _ h => h) (fun _ _ h => h)
                obtain ⟨s', g1, g2, g3⟩ := putK_ok (x := .c (.int .i64 ((min ys.length n : Nat) : Int))) (u := .int .i64 ((min ys.length n : Nat) : Int)) S' rfl hK
                refine ⟨_, _, ?_, π, ρ, s', g1, by rw [g3]; exact step_put S.hs b hbl (by simp) (keep_set b _ (fun x κ hh hκ => by rw [hit] at hh; cases hh; rw [knd_same _ xs]; exact hκ)) rfl rfl rfl (by simp) hw, g2⟩
                subst hvd hvx
                have hmin : Nat.min ys.length n = min ys.length n := rfl
                simp [Builtin.copy_, run_underlying ht, Builtin.lenOf, run_sizeOf hsz0, hmin, hf, hst, goInt, splice]
          · exact h.elim
      · exact h.elim
    · exact h.elim
  · rename_i ty ys
    split at h
    · rename_i e e2 ht ht2
      split at h
      · rename_i sz hsz0
        have hvd := hd _ rfl
        simp only [DenP, DenC] at hvd
        obtain ⟨A, c, hvx, _⟩ := hx _ rfl
        subst hvd hvx
        obtain ⟨s', g1, g2, g3⟩ := putK_ok (x := .c (.int .i64 0)) (u := .int .i64 0) S rfl h
        refine ⟨.int .i64 0, w, ?_, π, ρ, s', g1, by rw [g3]; exact Step.refl _ _ _ _ _, g2⟩
        cases A <;> simp [Builtin.copy_, run_underlying ht, Builtin.lenOf, run_sizeOf hsz0, Builtin.firstCells, loadCells, loadCellsFrom, goInt]
      · exact h.elim
    · exact h.elim
  · exact h.elim

end Go.Proofs.Ytkpepieepdmjpaa.Sx
