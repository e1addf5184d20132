/- Chapter 11 (code): a function's body in two parts; sorting and compacting of rows that stay where they are. No condition. -/
import Derived.Test.YtckijackbldkhaaF
namespace Go.Proofs.Ytckijackbldkhaa.Ch
open Go Go.Proofs Go.Shelf Go.Sort Go.Proofs.Ytckijackbldkhaa.Sx
set_option linter.unusedVariables false
set_option linter.unusedSimpArgs false

section
variable {P : Program} {Γ : Gam} {Λ : Lam}
/-- A function does what its body does. -/
theorem spec_ofW {f : FuncId} {fn : Func} {c : Code} (hf : P.funcs[f]? = some fn) (hb : fn.body = some c) {args : List PV} {h : List HB} {Q : SV → List HB → Prop} (hn : Nat.ble args.length fn.ntmps = true)
    (hx : W h.length P c { nt := fn.ntmps, fr := argsF 0 args, hp := h } (retQ P fn.results.toList h.length Q)) : FSpec P f args h Q := by
  intro π ρ w vs hs ha
  refine calls_of_wp hf hb ?_
  have hlen := all2_len ha
  have hle := Nat.le_of_ble_eq_true hn
  have S : Sat π ρ { nt := fn.ntmps, fr := argsF 0 args, hp := h } { tmps := vs.toArray ++ Array.replicate (fn.ntmps - vs.toArray.size) undef, defers := [] } w := by
    refine ⟨hs, ?_, rfl, ?_, argsF_once⟩
    · intro i v hi
      obtain ⟨p, h1, rfl, _⟩ := argsF_lk hi
      rw [Nat.sub_zero] at h1
      obtain ⟨u, hu, hd⟩ := all2_get ha i p h1
      refine ⟨u, ?_, hd⟩
      have hlt := (List.getElem?_eq_some_iff.1 hu).1
      simp only
      rw [Array.getElem?_append_left (by simpa using hlt)]
      simpa using hu
    · simp; omega
  refine wp_mono (hx π ρ _ w S) ?_
  rintro e a' w' ⟨π', ρ', s', S', St, hq⟩
  have fin : (match resOf P s' fn.results.toList with
    | some l => let m := names h.length s' (flatten l)
      bif okN h.length s'.hp.length m then Q (renS (posOf m) (tupOf l)) (subH s'.hp m m) else False
    | none => False) → a'.defers = [] ∧ ∃ v, (results fn a'.tmps).run P w' = .ok v w' ∧ (fun e w' => ∃ v π' ρ' r h', e = Ending.returned v ∧ DenS π' ρ' r v ∧ HSat π' ρ' h' w' ∧ Step h.length ρ h w π ρ' h' w' π' ∧ Q r h') (.returned v) w' := by
    intro hq
    split at hq
    · rename_i l hres
      dsimp only at hq
      generalize names h.length s' (flatten l) = m at hq
      cases hm : okN h.length s'.hp.length m with
      | false => rw [hm] at hq; exact hq.elim
      | true =>
        rw [hm] at hq
        simp only [cond_true] at hq
        obtain ⟨us, h1, h2⟩ := resOf_ok S' _ l hres
        obtain ⟨v, h3, h4⟩ := results_ok (P := P) (w := w') h1 h2
        refine ⟨S'.df, v, h3, v, π', envOf ρ' m, _, _, rfl, dens_ren (ren_env ρ' m) h4, ?_, ?_, hq⟩
        · simp only [okN, Bool.and_eq_true] at hm
          exact hsat_sub S'.hs hm.1.1 hm.1.2
        · simp only [okN, Bool.and_eq_true] at hm
          have hlen := subH_len (h := s'.hp) (m := m) m
          refine ⟨St.os, St.tape, St.output, St.size, St.block, ?_, St.pmono, St.pfresh, ?_⟩
          · intro k g hk hr
            obtain ⟨b, hb, hr'⟩ := own_env hr
            exact St.fresh b g (allLt_ok hm.1.2 k b hb) hr'
          · intro k it κ hk hit hκ
            obtain ⟨e1, it', e2, k2⟩ := St.keep k it κ hk hit hκ
            have hmk := isPre_ok hm.2 k hk
            have hlt : k < (subH s'.hp m m).length := by rw [hlen]; exact (List.getElem?_eq_some_iff.1 hmk).1
            have hget := List.getElem?_eq_getElem hlt
            obtain ⟨b, hb, he⟩ := subH_get hget
            rw [hmk] at hb
            cases hb
            refine ⟨by rw [← e1]; simp [envOf, hmk], renH (posOf m) it', ?_, by rw [knd_ren]; exact k2⟩
            rw [hget, he, e2]
            rfl
    · exact hq.elim
  cases e with
  | normal => exact fin hq
  | ret => exact fin hq
  | exit id => exact hq.elim
  | goto l => exact hq.elim
  | panic c => exact hq.elim
  | outgrown => exact hq.elim


end
/-- The first n pieces of a body, then R. -/
def sxCut (P : Program) (Γ : Gam) (Λ : Lam) : Nat → Code → Nat → SS → (SS → Prop) → (Exit → SS → Prop) → Prop
  | 0, _, _, s, R, _ => R s
  | n + 1, .seq x y, k, s, R, Q => sx P Γ Λ x k s (thenQ (fun s' => sxCut P Γ Λ n y k s' R Q) Q)
  | _, _, _, _, _, _ => False
def cutC : Nat → Code → Code
  | 0, c => c
  | n + 1, .seq _ y => cutC n y
  | _, c => c
theorem sxCut_ok {N : Nat} {P : Program} {Γ : Gam} {Λ : Lam} (hΓ : GOK P Γ) : ∀ (n : Nat) (c : Code) (k : Nat) (s : SS) (R : SS → Prop) (Q : Exit → SS → Prop), LOK N P Λ (loopsOf c k) → (∀ s, R s → W N P (cutC n c) s Q) → sxCut P Γ Λ n c k s R Q → W N P c s Q
  | 0, c, k, s, R, Q, _, hr, h => hr s h
  | n + 1, c, k, s, R, Q, hl, hr, h => by
    cases c with
    | seq x y =>
      intro π ρ a w S
      have hx := sx_ok hΓ x k s _ (fun k' c hc => hl k' c (by simp only [loopsOf, List.mem_append]; exact .inl hc)) h π ρ a w S
      refine wp_seq (wp_mono hx ?_)
      rintro e a' w' ⟨π', ρ', s', S', St, hq⟩
      cases e with
      | normal =>
        have hy := sxCut_ok hΓ n y k s' R Q (fun k' c hc => hl k' c (by simp only [loopsOf, List.mem_append]; exact .inr hc)) hr hq π' ρ' a' w' S'
        refine wp_mono hy ?_
        rintro e a2 w2 ⟨π2, ρ2, s2, S2, St2, hq2⟩
        exact ⟨π2, ρ2, s2, S2, St.trans St2, hq2⟩
      | _ => exact ⟨π', ρ', s', S', St, hq⟩
    | _ => exact h.elim
theorem W_cqS {N : Nat} {P : Program} {c : Code} {s : SS} {L : List Nat} {Q : Exit → SS → Prop} (h : cq N L (fun t => W N P c t Q) s) : W N P c s Q := by
  unfold cq at h
  split at h
  · rename_i t ht
    intro π ρ a w S
    obtain ⟨ρ2, S2, hst⟩ := canon_ok ht S
    refine wp_mono (h π ρ2 a w S2) ?_
    rintro e a' w' ⟨π', ρ', s', S', St, hq⟩
    exact ⟨π', ρ', s', S', (hst (Step.refl _ _ _ _ _)).trans St, hq⟩
  · exact h.elim
noncomputable def codeOf (fn : Func) : Code := match fn.body with | some c => c | none => .skip
def hdC : Nat → Code → Code
  | 0, .seq x _ => x
  | n + 1, .seq _ y => hdC n y
  | _, c => c
abbrev tF : Ty := .fix tI
theorem inplaceF_spec {P : Program} {f : FuncId} {e : TypeId} {xs : List Int} {a n : Nat} (han : a + n ≤ xs.length) {ys : List Int} (hy : ys.length = n) (resV : Option Addr → Nat → Value) {r : SV} {Q : SV → List HB → Prop}
    (hk0 : n = 0 → ∀ (w : World) (A : Option Addr) (cap : Nat), Calls P f #[.slice A 0 cap] w fun x w' => x = .returned (resV A cap) ∧ w' = w)
    (hk : ∀ (w : World) (blk off cap : Nat), Holds (Value.int .i64) w blk off (vw xs a n).toArray → blk < w.heap.size → n ≤ cap → n ≤ maxLen → Calls P f #[.slice (some ⟨blk, off, none⟩) n cap] w fun x w' => x = .returned (resV (some ⟨blk, off, none⟩) cap) ∧ ∃ q os, w' = grow (putRow (Value.int .i64) (Sort.ahead w q) blk off ys.toArray) os)
    (hr0 : n = 0 → ∀ π ρ A c, DenC π ρ (.view tF 0 a 0) (.slice A 0 c) → DenS π ρ r (resV A c))
    (hr : ∀ π ρ g o m c, ρ 0 = some (g, o, m) → n ≤ c → c ≤ maxLen → o + (a + c) * 1 ≤ m.1 → DenS π ρ r (resV (some ⟨g, o + a * 1, none⟩) c))
    (hq : Q r [.row e tF (inPl xs a n ys)]) : FSpec P f [.c (.view tF 0 a n)] [.row e tF xs] Q := by
  intro π ρ w vs hs ha
  match vs, ha with
  | [v], ha =>
    have hv : DenC π ρ (.view tF 0 a n) v := ha.1
    by_cases hn : n = 0
    · subst hn
      have hy0 : ys = [] := List.length_eq_zero_iff.1 hy
      have e0 : inPl xs a 0 ys = xs := by unfold inPl; rw [hy0, List.append_nil, Nat.add_zero, List.take_append_drop]
      obtain ⟨A, c, rfl⟩ : ∃ A c, v = .slice A 0 c := by
        rcases hv with ⟨_, A, h⟩ | ⟨g, o, m, c, _, _, _, _, h⟩
        · exact ⟨A, 0, h⟩
        · exact ⟨_, c, h⟩
      refine (hk0 rfl w A c).mono ?_
      rintro _ w' ⟨rfl, rfl⟩
      exact ⟨_, π, ρ, r, _, rfl, hr0 rfl π ρ A c hv, hs, Step.refl _ _ _ _ _, by rw [← e0]; exact hq⟩
    · rcases hv with ⟨h0, _⟩ | ⟨g, o, m, c, h1, h2, h3, h4, rfl⟩
      · exact absurd h0 hn
      have hit := hs.items 0 _ rfl
      rcases hit with ⟨h5, _⟩ | ⟨g', o', us, h5, h6, h7, h8, h9⟩
      · rw [h5] at h1; cases h1
      rw [h5] at h1
      cases h1
      have hsz : tI.sz = 1 := rfl
      have h9 : ∀ (i : Nat) (x : Int), xs[i]? = some x → Rep π tI x (seg us.toList (o + i * tI.sz) tI.sz) := h9
      have h7 : o + xs.length * tI.sz ≤ us.size := h7
      have h4 : o + (a + c) * tI.sz ≤ us.size := h4
      have hcell : ∀ j x, xs[j]? = some x → us[o + j]? = some (.int .i64 x) := fun j x hj => by
        have := rep_int.1 (h9 j x hj)
        rw [hsz, Nat.mul_one] at this
        simpa using this
      have hus : o + xs.length ≤ us.size := by rw [hsz, Nat.mul_one] at h7; exact h7
      have hlt : g < w.heap.size := (Array.getElem?_eq_some_iff.1 h6).1
      have hvl : (vw xs a n).length = n := vw_len han
      have hH : Holds (Value.int .i64) w g (o + a * 1) (vw xs a n).toArray := by
        intro j hj
        have hj' : j < n := by simpa [hvl] using hj
        have hxj : xs[a + j]? = some ((vw xs a n)[j]'(by omega)) := vw_get (List.getElem?_eq_getElem (by omega))
        refine ⟨?_, frozen_of_row w g _ us e h6⟩
        rw [cell_of_row w g _ us e (0, 0) h6, getElem!_pos ((vw xs a n).toArray) j hj, List.getElem_toArray, Nat.mul_one, Nat.add_assoc]
        exact hcell _ _ hxj
      refine (hk w g (o + a * 1) c hH hlt h2 (Nat.le_trans h2 h3)).mono ?_
      rintro _ w' ⟨rfl, q, os, rfl⟩
      have hh : ∀ k, k < w.heap.size → (grow (putRow (Value.int .i64) (Sort.ahead w q) g (o + a * 1) ys.toArray) os).heap[k]? = (putRow (Value.int .i64) (Sort.ahead w q) g (o + a * 1) ys.toArray).heap[k]? := fun k hk => by
        show ((putRow (Value.int .i64) (Sort.ahead w q) g (o + a * 1) ys.toArray).heap ++ os)[k]? = _
        rw [Array.getElem?_append_left (by rw [size_putRow]; exact hk)]
      have hsize : w.heap.size ≤ (grow (putRow (Value.int .i64) (Sort.ahead w q) g (o + a * 1) ys.toArray) os).heap.size := by
        show _ ≤ ((putRow (Value.int .i64) (Sort.ahead w q) g (o + a * 1) ys.toArray).heap ++ os).size
        rw [Array.size_append, size_putRow]; exact Nat.le_add_right _ _
      have hw : ∀ k, k < w.heap.size → ¬ own (ρ 0) k → (grow (putRow (Value.int .i64) (Sort.ahead w q) g (o + a * 1) ys.toArray) os).heap[k]? = w.heap[k]? := fun k hk hne => by
        rw [hh k hk, putRow_not _ _ _ _ _ (fun e => hne (by rw [e]; exact own_main h5))]; rfl
      have hg' : (grow (putRow (Value.int .i64) (Sort.ahead w q) g (o + a * 1) ys.toArray) os).heap[g]? = some (.cells (putCells (Value.int .i64) (o + a * 1) ys.toArray us) e (0, 0)) := by
        rw [hh g hlt]; exact putRow_at _ _ _ _ h6
      have hps : (putCells (Value.int .i64) (o + a * 1) ys.toArray us).size = us.size := by unfold putCells; rw [Array.size_mapIdx]
      have hput : HSat π ρ [.row e tF (inPl xs a n ys)] (grow (putRow (Value.int .i64) (Sort.ahead w q) g (o + a * 1) ys.toArray) os) := by
        refine hsat_put hs 0 _ hsize hw (by simp) (.inr ⟨g, o, _, by rw [hps]; exact h5, hg', by rw [inPl_len han hy, hps]; exact h7, by rw [inPl_len han hy]; exact h8, fun i x hi => show Rep π tI x (seg _ (o + i * tI.sz) tI.sz) from rep_int.2 ?_⟩)
        rw [hsz, Array.getElem?_toList, putCells_get]
        have e1 : o + i * 1 = o + i := by omega
        have e2 : o + a * 1 = o + a := by omega
        rw [e1, e2]
        rw [inPl_get han hy] at hi
        by_cases hc : a ≤ i ∧ i < a + n
        · rw [if_pos hc] at hi
          rw [if_pos (by omega), if_pos (by omega), List.getD_eq_getElem?_getD, show o + i - (o + a) = i - a by omega, hi]; rfl
        · rw [if_neg hc] at hi
          rw [if_neg (by omega)]
          exact hcell i x hi
      refine ⟨_, π, ρ, r, _, rfl, hr π ρ g o (us.size, []) c h5 h2 h3 h4, hput, ?_, hq⟩
      exact step_put hs 0 (by simp) (by simp) (keep_set 0 _ (fun x κ hh hκ => by simp at hh; subst hh; exact hκ)) rfl rfl rfl hsize hw
noncomputable def sortF_t : Tr := trH [.cell (.view tF 0)] [.row 3 tF] fun x y Q => (x.1.1 + x.1.2 ≤ y.1.length ∧ y.1.length ≤ 1000000) ∧ Q (.tup []) [.row 3 tF (inPl y.1 x.1.1 x.1.2 (sortV (vw y.1 x.1.1 x.1.2)))]
noncomputable def compF_t : Tr := trH [.cell (.view tF 0)] [.row 3 tF] fun x y Q => (x.1.1 + x.1.2 ≤ y.1.length ∧ y.1.length ≤ 1000000) ∧ Q (.p (.c (.view tF 0 x.1.1 (compV (vw y.1 x.1.1 x.1.2)).length))) [.row 3 tF (inPl y.1 x.1.1 x.1.2 (compV (vw y.1 x.1.1 x.1.2) ++ List.replicate (x.1.2 - (compV (vw y.1 x.1.1 x.1.2)).length) 0))]
theorem sortF_ok : ∀ args h Q, sortF_t args h Q → FSpec Try.prog 20 args h Q := trH_ok fun (((a, n), _) : (Nat × Nat) × Unit) ((xs, _) : List Int × Unit) Q ⟨⟨han, hl⟩, h⟩ => by
  dsimp only at han hl h
  have hvl : (vw xs a n).length = n := vw_len han
  refine inplaceF_spec (e := 3) han (ys := sortV (vw xs a n)) (by unfold sortV; rw [List.length_mergeSort, hvl]) (fun _ _ => .tuple #[]) ?_ ?_ ?_ ?_ h
  · intro _ w A cap
    exact Any.slices_Sort_int_none lays189 A cap w
  · intro w blk off cap hH hblk _ _
    have := calls_of_every_depth fun D => AnyS.slices_Sort_int_in lays189 D blk off cap (vw xs a n) w hH hblk (by omega)
    rw [hvl] at this
    refine this.mono ?_
    rintro _ w' ⟨rfl, q, os, rfl⟩
    exact ⟨rfl, q, os, rfl⟩
  · intro _ π ρ A c _; exact ⟨[], rfl, trivial⟩
  · intro π ρ g o m c _ _ _ _; exact ⟨[], rfl, trivial⟩
theorem compF_ok : ∀ args h Q, compF_t args h Q → FSpec Try.prog 21 args h Q := trH_ok fun (((a, n), _) : (Nat × Nat) × Unit) ((xs, _) : List Int × Unit) Q ⟨⟨han, hl⟩, h⟩ => by
  dsimp only at han hl h
  have hvl : (vw xs a n).length = n := vw_len han
  have hcl : (compV (vw xs a n)).length ≤ n := by have := Lib.compact_length_le (vw xs a n); rw [hvl] at this; exact this
  refine inplaceF_spec (e := 3) han (ys := compV (vw xs a n) ++ List.replicate (n - (compV (vw xs a n)).length) 0) (by rw [List.length_append, List.length_replicate]; omega) (fun A c => .slice A (compV (vw xs a n)).length c) ?_ ?_ ?_ ?_ h
  · intro h0 w A cap
    have : (compV (vw xs a n)).length = 0 := by omega
    rw [this]
    exact Any.slices_Compact_int_empty lays2_20 A cap w
  · intro w blk off cap hH hblk hcap _
    have := Any.slices_Compact_int lays2_20 blk off cap (vw xs a n) w hH (by omega) (by omega)
    rw [hvl] at this
    refine this.mono ?_
    rintro _ w' ⟨rfl, q, rfl⟩
    exact ⟨rfl, q, #[], by rw [grow_nil]; rfl⟩
  · intro h0 π ρ A c hd
    have : (compV (vw xs a n)).length = 0 := by omega
    rw [this]
    exact hd
  · intro π ρ g o m c h1 h2 h3 h4
    exact .inr ⟨g, o, m, c, h1, by omega, h3, h4, rfl⟩

@[reducible] noncomputable def stNF (out : List Int) : SS := { nt := 47, fr := [(5, .p (.c (.view tF 0 0 out.length)))], hp := [.row 3 tF out] }
@[reducible] noncomputable def stNV (out : List Int) : SS := { nt := 47, fr := [(5, .p (.c (.view tI 0 0 out.length)))], hp := [.row 3 tI out] }
theorem W_nf {c : Code} {out : List Int} {Q : Exit → SS → Prop} (h : W 0 Try.prog c (stNF out) Q) : W 0 Try.prog c (stNV out) Q := by
  refine W_fix 0 (Nat.le_refl _) ?_
  intro π ρ a w S
  refine h π ρ a w ⟨S.hs, fun i v hi => ?_, S.df, S.nt, rfl⟩
  simp only [lk] at hi
  cases hb : Nat.beq 5 i with
  | false => rw [hb] at hi; cases hi
  | true =>
    rw [hb] at hi
    simp only [cond_true, Option.some.injEq] at hi
    subst hi
    have := S.fs i (.p (.c (.view tI 0 0 out.length))) (by simp [lk, hb])
    exact this
end Go.Proofs.Ytckijackbldkhaa.Ch
