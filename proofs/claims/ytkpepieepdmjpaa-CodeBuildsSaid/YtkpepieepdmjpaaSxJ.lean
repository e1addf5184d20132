/- A machine of abstract states over the model, part J: append. No condition. -/
import Derived.Test.YtkpepieepdmjpaaSxI
namespace Go.Proofs.Ytkpepieepdmjpaa.Sx
open Go
set_option linter.unusedVariables false
set_option linter.unusedSimpArgs false

def orTy : Option Ty → Option Ty → Option Ty | some t, _ => some t | none, o => o
def appP (P : Program) (s : SS) (t1 t2 : TypeId) (d x : Option PV) (dst : Option Nat) (K : SS → Prop) : Prop :=
  match d, x with
  | some d, some x => match P.underlying t1, P.underlying t2 with
    | some (.slice e), some (.slice _) => match P.info? e with
      | some i => match i.zero, orTy (tyOf d) (tyOf x) with
        | some z, some ty => bif Nat.beq i.size ty.sz && Nat.beq z.cells.size ty.sz && Nat.blt 0 ty.sz && Nat.blt 0 i.bytes then
            match srcRow s ty x with
            | some (ob, ys) => match d with
              | .c .nils => obl ob (ys.length * i.bytes ≤ 140737488355328 ∧ putK { s with hp := s.hp ++ [.row e ty ys] } dst (.p (.c (.view ty s.hp.length 0 ys.length))) K)
              | .c (.view t b a n) => match nth s.hp b with
                | some (.row e' t' xs) => bif Nat.beq e' e && decide (t = ty) && !(isFix ty) then
                    (if h : t' = ty then
                      obl ob (a + n ≤ xs.length ∧ (vw (h ▸ xs : List ty.T) a n ++ ys).length * i.bytes ≤ 140737488355328 ∧
                        putK { s with fr := jkF b s.fr, hp := (s.hp.map (jkH b)).set b (.row e ty (vw (h ▸ xs : List ty.T) a n ++ ys)) } dst (.p (.c (.view ty b 0 (vw (h ▸ xs : List ty.T) a n ++ ys).length))) K)
                    else False) else False
                | _ => False
              | _ => False
            | none => False
          else False
        | _, _ => False
      | none => False
    | _, _ => False
  | _, _ => False
theorem grown_ok {π : Pers} {ρ : Env} {e : TypeId} {ty : Ty} {C : List ty.T} {l : List Value} {w : World} {k cap : Nat} {zs : Array Value} (hsz : 0 < ty.sz) (hr : RowAt π ty l 0 C) (hl : l.length = C.length * ty.sz) (hz : l.length + zs.size = cap * ty.sz) (hc : C.length ≤ cap) (hm : cap ≤ maxLen) (hk : ρ k = some (w.heap.size, 0, cap * ty.sz, [])) :
    HBIs π ρ (w.drew.alloc (.cells (l.toArray ++ zs) e)) k (.row e ty C) ∧ DenC π ρ (.view ty k 0 C.length) (.slice (some ⟨w.heap.size, 0, none⟩) C.length cap) := by
  have hs : (l.toArray ++ zs).size = cap * ty.sz := by rw [Array.size_append, List.size_toArray]; exact hz
  refine ⟨.inr ⟨w.heap.size, 0, l.toArray ++ zs, by rw [hs]; exact hk, heap_alloc_new w.drew _, by rw [hs, Nat.zero_add]; exact Nat.mul_le_mul_right _ hc, Nat.le_trans hc hm, ?_⟩, .inr ⟨w.heap.size, 0, (cap * ty.sz, []), cap, hk, hc, hm, by simp, by simp⟩⟩
  intro i x hi
  have := rowAt_append (m := []) (ys := []) hr (fun i x hi => by simp at hi) hl (by simp) zs.toList i x (by simpa using hi)
  simpa using this
theorem appP_ok {N : Nat} {P : Program} {π : Pers} {ρ : Env} {s : SS} {a : Act} {w : World} (S : Sat π ρ s a w) {t1 t2 ty0 : TypeId} {d x : Option PV} {vd vx : Value} (hd : ∀ p, d = some p → DenP π ρ p vd) (hx : ∀ p, x = some p → DenP π ρ p vx) {dst : Option Nat} {K : SS → Prop} (h : appP P s t1 t2 d x dst K) :
    ∃ u w', (Builtin.append_ #[t1, t2] ty0 #[vd, vx]).run P w = .ok u w' ∧ Out N P π ρ s w K (a.put dst u) w' := by
  unfold appP at h
  split at h
  · rename_i pd px
    split at h
    · rename_i e e2 ht ht2
      split at h
      · rename_i i hi
        split at h
        · rename_i z ty hz hty
          cases hq : (Nat.beq i.size ty.sz && Nat.beq z.cells.size ty.sz && Nat.blt 0 ty.sz && Nat.blt 0 i.bytes) with
          | false => rw [hq] at h; exact h.elim
          | true =>
            rw [hq] at h
            simp only [cond_true] at h
            simp only [Bool.and_eq_true] at hq
            have hsize := beq_eq hq.1.1.1
            have hzs := beq_eq hq.1.1.2
            have hsz : 0 < ty.sz := by have := hq.1.2; simpa [Nat.blt_eq] using this
            have hby : 0 < i.bytes := by have := hq.2; simpa [Nat.blt_eq] using this
            split at h
            · rename_i ob ys hsrc
              split at h
              · obtain ⟨ho, hb, hK⟩ := obl_out h
                obtain ⟨A2, c2, news, hvx, hyc, hcm, hnl, hra, hfc⟩ := srcRow_ok (P := P) S hsz (hx _ rfl) hsrc ho
                have hvd := hd _ rfl
                simp only [DenP, DenC] at hvd
                subst hvd
                rw [← hsize] at hfc
                by_cases hy : ys = []
                · subst hy
                  have hrun := run_app_none (ty := ty0) (A := none) (n := 0) (c := 0) ht ht2 hi hvx (by have := hfc w rfl; rwa [List.eq_nil_of_length_eq_zero (show news.length = 0 by simpa using hnl)] at this) (Nat.le_refl _)
                  have H := hsat_new (w' := w) S.hs (.row e ty ([] : List ty.T)) none (Nat.le_refl _) (fun _ _ => rfl) (fun g h => h.elim) (.inl ⟨updE_same _ _ _, rfl⟩)
                  have S' := sat_heap S H (fun _ _ h => h) (upE_new S.hs none)
                  obtain ⟨s', g1, g2, g3⟩ := putK_ok (u := .slice none 0 0) (x := .c (.view ty s.hp.length 0 ([] : List ty.T).length)) S' (.inl ⟨rfl, none, rfl⟩) hK
                  refine ⟨_, _, hrun, π, _, s', g1, ?_, g2⟩
                  rw [g3]
                  refine ⟨rfl, rfl, rfl, Nat.le_refl _, fun _ _ _ => rfl, ?_, fun _ _ h => h, fun _ _ h => .inl h, keep_new _ _⟩
                  intro k g hk hr
                  simp only [List.length_append, List.length_cons, List.length_nil] at hk
                  by_cases hkb : k = s.hp.length
                  · subst hkb; rw [updE_same] at hr; exact hr.elim
                  · rw [updE_other _ _ hkb] at hr; exact .inl ⟨k, by omega, hr⟩
                · have hpos := List.length_pos_iff.2 hy
                  have hm63 : 0 + ys.length ≤ maxLen := by omega
                  have hgc := grownCap_le_maxLen w (0 + ys.length) 0 e hm63
                  have hge := grownCap_ge w (0 + ys.length) 0 e
                  have hrun := run_app_grow (ty := ty0) (A := none) (n := 0) (c := 0) (olds := []) ht ht2 hi hz hvx (hfc w.drew rfl) (by simp [Builtin.firstCells]) (by omega) hm63 (by rw [Nat.zero_add]; exact hb)
                  have hzc : news.length + (Builtin.zeroCells z.cells (grownCap w (0 + ys.length) 0 e - (0 + ys.length))).size = grownCap w (0 + ys.length) 0 e * ty.sz := by
                    rw [size_zeroCells, hzs, hnl, ← Nat.add_mul]; congr 1; omega
                  have G := grown_ok (e := e) (w := w) (k := s.hp.length) (ρ := updE ρ s.hp.length (some (w.heap.size, 0, grownCap w (0 + ys.length) 0 e * ty.sz, []))) hsz hra hnl hzc (by omega) hgc (updE_same _ _ _)
                  simp only [List.nil_append, Array.empty_append, Nat.zero_add] at hrun G
                  have H := hsat_new S.hs (.row e ty ys) (some (w.heap.size, 0, grownCap w ys.length 0 e * ty.sz, [])) (by simp) (fun g hg => heap_alloc_old w.drew _ g hg) (fun g h => by rw [own_one h]; exact ⟨Nat.le_refl _, by simp⟩) G.1
                  have S' := sat_heap S H (fun _ _ h => h) (upE_new S.hs _)
                  obtain ⟨s', g1, g2, g3⟩ := putK_ok (x := .c (.view ty s.hp.length 0 ys.length)) S' G.2 hK
                  refine ⟨_, _, hrun, π, _, s', g1, ?_, g2⟩
                  rw [g3]
                  refine ⟨rfl, rfl, rfl, by simp, fun g hg _ => heap_alloc_old w.drew _ g hg, ?_, fun _ _ h => h, fun _ _ h => .inl h, keep_new _ _⟩
                  intro k g hk hr
                  simp only [List.length_append, List.length_cons, List.length_nil] at hk
                  by_cases hkb : k = s.hp.length
                  · subst hkb; rw [updE_same] at hr; rw [own_one hr]; exact .inr (Nat.le_refl _)
                  · rw [updE_other _ _ hkb] at hr; exact .inl ⟨k, by omega, hr⟩
              · rename_i t b a0 n
                split at h
                · rename_i e' t' xs hit
                  cases hq2 : (Nat.beq e' e && decide (t = ty) && !(isFix ty)) with
                  | false => rw [hq2] at h; exact h.elim
                  | true =>
                    rw [hq2] at h
                    simp only [cond_true] at h
                    simp only [Bool.and_eq_true, decide_eq_true_eq, Bool.not_eq_true'] at hq2
                    obtain ⟨⟨he, rfl⟩, hfx⟩ := hq2
                    have he := beq_eq he
                    subst he
                    split at h
                    · rename_i ht'
                      subst ht'
                      obtain ⟨ho, han, hb, hK⟩ := obl_out h
                      simp only at hb hK
                      obtain ⟨A2, c2, news, hvx, hyc, hcm, hnl, hra, hfc⟩ := srcRow_ok (P := P) S hsz (hx _ rfl) hsrc ho
                      rw [← hsize] at hfc
                      have hvl := vw_len han
                      have hCl : (vw xs a0 n ++ ys).length = n + ys.length := by rw [List.length_append, hvl]
                      rw [nth_eq] at hit
                      have hbl := (List.getElem?_eq_some_iff.1 hit).1
                      have hne : ∀ k, k ≠ b → ∀ r, updE ρ b r k = ρ k := fun k hk r => updE_other ρ r hk
                      have hfin : ∀ (r : Option (Nat × Nat × Nat × List Nat)) (w' : World) (u : Value), w.heap.size ≤ w'.heap.size → (∀ g, g < w.heap.size → ¬ own (ρ b) g → w'.heap[g]? = w.heap[g]?) →
                          (∀ g, own r g → (own (ρ b) g ∨ w.heap.size ≤ g) ∧ g < w'.heap.size) → HBIs π (updE ρ b r) w' b (.row e' t' (vw xs a0 n ++ ys)) → DenC π (updE ρ b r) (.view t' b 0 (vw xs a0 n ++ ys).length) u → w'.os = w.os → w'.tape = w.tape → w'.output = w.output →
                          Out N P π ρ s w K (a.put dst u) w' := by
                        intro r w' u hs hw hr hit' hden e1 e2 e3
                        have H := hsat_move S.hs b (.row e' t' (vw xs a0 n ++ ys)) r hs hw hbl hr hit'
                        have S' := sat_jk (b := b) S H (fun k hk => updE_other ρ r hk)
                        obtain ⟨s', g1, g2, g3⟩ := putK_ok (x := .c (.view t' b 0 (vw xs a0 n ++ ys).length)) S' hden hK
                        refine ⟨π, _, s', g1, ?_, g2⟩
                        rw [g3]
                        refine ⟨e1, e2, e3, hs, fun g hg hn => hw g hg (hn b hbl), ?_, fun _ _ h => h, fun _ _ h => .inl h, keep_move b _ _ (fun x κ hh hκ => by rw [hit] at hh; cases hh; rw [knd_row hfx] at hκ; cases hκ)⟩
                        intro k g hk hr'
                        simp only [List.length_set, List.length_map] at hk
                        by_cases hkb : k = b
                        · subst hkb
                          rw [updE_same] at hr'
                          rcases (hr g hr').1 with hpq | hge
                          · exact .inl ⟨k, hk, hpq⟩
                          · exact .inr hge
                        · rw [updE_other _ _ hkb] at hr'; exact .inl ⟨k, hk, hr'⟩
                      have hgrow : ∀ (A : Option Addr) (c : Nat) (olds : List Value), vd = .slice A n c → c < n + ys.length → (Builtin.firstCells i.size n (.slice A n c)).run P w.drew = .ok olds.toArray w.drew → olds.length = n * t'.sz → RowAt π t' olds 0 (vw xs a0 n) → n + ys.length ≤ maxLen →
                          ∃ u w', (Builtin.append_ #[t1, t2] ty0 #[vd, vx]).run P w = .ok u w' ∧ Out N P π ρ s w K (a.put dst u) w' := by
                        intro A c olds hvd hlt hfo hol hro hm63
                        have hgc := grownCap_le_maxLen w (n + ys.length) c e' hm63
                        have hge := grownCap_ge w (n + ys.length) c e'
                        have hrun := run_app_grow (ty := ty0) (A := A) (n := n) (c := c) (olds := olds) ht ht2 hi hz hvx (hfc w.drew rfl) hfo hlt hm63 (by rw [← hCl]; exact hb)
                        have hrC : RowAt π t' (olds ++ news) 0 (vw xs a0 n ++ ys) := by
                          have := rowAt_append hro hra (by rw [hol, hvl]) hnl []
                          simpa using this
                        have hlC : (olds ++ news).length = (vw xs a0 n ++ ys).length * t'.sz := by rw [List.length_append, hol, hnl, hCl, Nat.add_mul]
                        have hzc : (olds ++ news).length + (Builtin.zeroCells z.cells (grownCap w (n + ys.length) c e' - (n + ys.length))).size = grownCap w (n + ys.length) c e' * t'.sz := by
                          rw [size_zeroCells, hzs, hlC, hCl, ← Nat.add_mul]; congr 1; omega
                        have G := grown_ok (e := e') (w := w) (k := b) (ρ := updE ρ b (some (w.heap.size, 0, grownCap w (n + ys.length) c e' * t'.sz, []))) hsz hrC hlC hzc (by rw [hCl]; exact hge) hgc (updE_same _ _ _)
                        have hobj : olds.toArray ++ news.toArray ++ Builtin.zeroCells z.cells (grownCap w (n + ys.length) c e' - (n + ys.length)) = (olds ++ news).toArray ++ Builtin.zeroCells z.cells (grownCap w (n + ys.length) c e' - (n + ys.length)) := by
                          apply Array.ext'; simp [List.append_assoc]
                        rw [hobj] at hrun
                        refine ⟨_, _, by rw [hvd]; exact hrun, ?_⟩
                        refine hfin (some (w.heap.size, 0, grownCap w (n + ys.length) c e' * t'.sz, [])) _ _ (by simp) (fun g hg _ => heap_alloc_old w.drew _ g hg) (fun g h => by rw [own_one h]; exact ⟨.inr (Nat.le_refl _), by simp⟩) G.1 ?_ rfl rfl rfl
                        have G2 := G.2
                        rw [hCl] at G2 ⊢
                        exact G2
                      rcases hd _ rfl with ⟨hn0, A, hvd⟩ | ⟨g, o, m, c, hr, h1, h2, h3, hvd⟩
                      · subst hn0
                        have hv0 : vw xs a0 0 = [] := by simp [vw]
                        by_cases hy : ys = []
                        · subst hy
                          have hrun := run_app_none (ty := ty0) (A := A) (n := 0) (c := 0) ht ht2 hi hvx (by have := hfc w rfl; rwa [List.eq_nil_of_length_eq_zero (show news.length = 0 by simpa using hnl)] at this) (Nat.le_refl _)
                          refine ⟨_, _, by rw [hvd]; exact hrun, hfin none w _ (Nat.le_refl _) (fun _ _ _ => rfl) (fun g h => h.elim) (.inl ⟨updE_same _ _ _, by rw [hv0]; rfl⟩) (.inl ⟨by rw [hv0]; rfl, A, rfl⟩) rfl rfl rfl⟩
                        · have hpos := List.length_pos_iff.2 hy
                          exact hgrow A 0 [] hvd (by omega) (by cases A <;> simp [Builtin.firstCells, loadCells, loadCellsFrom]) (by simp) (by rw [hv0]; intro i x hi; simp at hi) (by omega)
                      · rcases S.hs.items b _ hit with ⟨h4, h5⟩ | ⟨g', o', vs, h4, h5, h6, h7, h8⟩
                        · rw [h4] at hr; cases hr
                        · rw [h4] at hr
                          simp only [Option.some.injEq, Prod.mk.injEq] at hr
                          obtain ⟨rfl, rfl, rfl⟩ := hr
                          have hbase : o' + a0 * t'.sz + n * t'.sz ≤ vs.size := by
                            rw [Nat.add_assoc, ← Nat.add_mul]
                            exact Nat.le_trans (Nat.add_le_add_left (Nat.mul_le_mul_right _ (by omega)) _) h3
                          have holds : RowAt π t' (seg vs.toList (o' + a0 * t'.sz) (n * t'.sz)) 0 (vw xs a0 n) := by
                            have := rowAt_seg (rowAt_vw (a := a0) (n := n) (show RowAt π t' vs.toList o' xs from h8))
                            rwa [hvl] at this
                          by_cases hroom : n + ys.length ≤ c
                          · have hnews1 := rowAt_one hra hnl
                            have hfit : o' + a0 * t'.sz + n * i.size + news.length ≤ vs.size := by
                              rw [hsize, hnl, Nat.add_assoc, Nat.add_assoc, ← Nat.add_mul, ← Nat.add_mul]
                              exact Nat.le_trans (Nat.add_le_add_left (Nat.mul_le_mul_right _ (by omega)) _) h3
                            have hrun := run_app_room (ty := ty0) ht ht2 hi hvx (hfc w rfl) hroom h5 hfit hnews1
                            have hsl : vs.toList.length = vs.size := Array.length_toList
                            have hspl := splice_len (l := vs.toList) (n := news) (o := o' + a0 * t'.sz + n * i.size) (by rw [hsl]; exact hfit)
                            refine ⟨_, _, by rw [hvd]; exact hrun, hfin (some (g', o' + a0 * t'.sz, vs.size, [])) _ _ (by simp) (fun k hk hn => setRow_other w g' k _ (fun e => hn (by rw [e]; exact own_main h4))) (fun g h => by rw [own_one h]; exact ⟨.inl (own_main h4), by have := S.hs.lt b hbl _ (own_main h4); simpa using this⟩) ?_ ?_ rfl rfl rfl⟩
                            · refine .inr ⟨g', o' + a0 * t'.sz, (splice vs.toList (o' + a0 * t'.sz + n * i.size) news).toArray, ?_, setRow_heap w g' vs _ e' (0, 0) h5, ?_, ?_, ?_⟩
                              · rw [List.size_toArray.trans (hspl.trans hsl)]; exact updE_same _ _ _
                              · rw [List.size_toArray.trans (hspl.trans hsl), hCl, Nat.add_assoc, ← Nat.add_mul]
                                exact Nat.le_trans (Nat.add_le_add_left (Nat.mul_le_mul_right _ (by omega)) _) h3
                              · rw [hCl]; omega
                              · intro k y hk
                                simp only
                                by_cases hkn : k < n
                                · rw [List.getElem?_append_left (by omega)] at hk
                                  have hkm : (k + 1) * t'.sz ≤ n * t'.sz := Nat.mul_le_mul_right _ hkn
                                  rw [Nat.add_mul, Nat.one_mul] at hkm
                                  rw [seg_other (by rw [hsl]; exact hfit) (.inl (by rw [hsize]; omega))]
                                  have := h8 _ _ (vw_get hk)
                                  rwa [Nat.add_mul, ← Nat.add_assoc] at this
                                · rw [List.getElem?_append_right (by omega), hvl] at hk
                                  have hlt := (List.getElem?_eq_some_iff.1 hk).1
                                  have hkm : (k - n + 1) * t'.sz ≤ ys.length * t'.sz := Nat.mul_le_mul_right _ hlt
                                  rw [Nat.add_mul, Nat.one_mul] at hkm
                                  have := hra _ _ hk
                                  rw [Nat.zero_add] at this
                                  have e1 : o' + a0 * t'.sz + k * t'.sz = o' + a0 * t'.sz + n * i.size + (k - n) * t'.sz := by
                                    rw [hsize, Nat.add_assoc (o' + a0 * t'.sz), ← Nat.add_mul]; congr 2; omega
                                  rw [e1]
                                  have e2 : seg (splice vs.toList (o' + a0 * t'.sz + n * i.size) news) (o' + a0 * t'.sz + n * i.size + (k - n) * t'.sz) t'.sz = seg news ((k - n) * t'.sz) t'.sz := by
                                    apply List.ext_getElem?
                                    intro j
                                    by_cases hj : j < t'.sz
                                    · rw [seg_get' hj, seg_get' hj, splice_get (by rw [hsl]; exact hfit), if_neg (by omega), if_pos (by omega)]
                                      congr 1; omega
                                    · rw [List.getElem?_eq_none (by unfold seg; rw [List.length_take]; omega), List.getElem?_eq_none (by unfold seg; rw [List.length_take]; omega)]
                                  rw [e2]
                                  exact this
                            · refine .inr ⟨g', o' + a0 * t'.sz, (vs.size, []), c, updE_same _ _ _, by rw [hCl]; exact hroom, h2, ?_, by rw [hCl]; simp⟩
                              rw [Nat.zero_add, Nat.add_assoc, ← Nat.add_mul]; exact h3
                          · refine hgrow _ c (seg vs.toList (o' + a0 * t'.sz) (n * t'.sz)) hvd (by omega) ?_ (seg_len (by rw [Array.length_toList]; exact hbase)) holds ?_
                            · rw [hsize]
                              have hse := seg_len (l := vs.toList) (o := o' + a0 * t'.sz) (n := n * t'.sz) (by rw [Array.length_toList]; exact hbase)
                              have := firstCells_at (P := P) (w' := w.drew) (c := c) rfl h5 rfl hse (Nat.le_refl n)
                              rwa [List.take_of_length_le (Nat.le_of_eq hse)] at this
                            · have hle : (n + ys.length) * 1 ≤ (n + ys.length) * i.bytes := Nat.mul_le_mul_left _ hby
                              rw [hCl] at hb
                              simp only [maxLen]; omega
                    · exact h.elim
                · exact h.elim
              · exact h.elim
            · exact h.elim
          
        · exact h.elim
      · exact h.elim
    · exact h.elim
  · exact h.elim
end Go.Proofs.Ytkpepieepdmjpaa.Sx
