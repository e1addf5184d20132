/- A machine of abstract states over the model, part P: functions and loops. No condition. -/
import Derived.Test.YtkpepieepdmjpaaSxOc
namespace Go.Proofs.Ytkpepieepdmjpaa.Sx
open Go
set_option linter.unusedVariables false
set_option linter.unusedSimpArgs false

theorem results_ok {P : Program} {π : Pers} {ρ : Env} {fn : Func} {T : Array Value} {w : World} {l : List PV} {us : List Value} (hr : (fn.results.toList.mapM (resM T)).run P w = .ok us w) (h : All2 (DenP π ρ) l us) : ∃ v, (results fn T).run P w = .ok v w ∧ DenS π ρ (tupOf l) v := by
  have e : results fn T = (do let vs ← fn.results.mapM (resM T); pure (if h : vs.size = 1 then vs[0] else .tuple vs)) := by
    unfold results
    congr 2
  rw [e]
  simp only [Array.mapM_eq_mapM_toList]
  simp only [Sem.run_bind, Sem.run_map, hr, Result.andThen_ok, Sem.run_pure]
  match l, us, h with
  | [], [], _ => exact ⟨_, rfl, [], rfl, trivial⟩
  | [x], [u], h => exact ⟨_, rfl, h.1⟩
  | x :: y :: r, u :: v :: us, h => exact ⟨_, rfl, u :: v :: us, by simp, h⟩
variable {P : Program} {Γ : Gam} {Λ : Lam}
/-- A function does what its body does. -/
theorem spec_of (hΓ : GOK P Γ) {f : FuncId} {fn : Func} {c : Code} (hf : P.funcs[f]? = some fn) (hb : fn.body = some c) {args : List PV} {h : List HB} {Q : SV → List HB → Prop} (hn : Nat.ble args.length fn.ntmps = true) (hl : LOK h.length P Λ (loopsOf c 0))
    (hx : sx P Γ Λ c 0 { nt := fn.ntmps, fr := argsF 0 args, hp := h } (retQ P fn.results.toList h.length Q)) : FSpec P f args h Q := by
  intro π ρ w vs hs ha
  refine calls_of_wp hf hb ?_
  have hlen := all2_len ha
  have hle := Nat.le_of_ble_eq_true hn
  have S : Sat π ρ { nt := fn.ntmps, fr := argsF 0 args, hp := h } { tmps := vs.toArray ++ Array.replicate (fn.ntmps - vs.toArray.size) undef, defers := [] } w := by
    refine ⟨hs, ?_, rfl, ?_, argsF_once⟩
    · intro i v hi
      obtain ⟨p, h1, rfl, _⟩ := argsF_lk hi
      rw [Nat.sub_zero] at h1
      obtain ⟨u, hu, hd⟩ := all2_get ha i p h1
      refine ⟨u, ?_, hd⟩
      have hlt := (List.getElem?_eq_some_iff.1 hu).1
      simp only
      rw [Array.getElem?_append_left (by simpa using hlt)]
      simpa using hu
    · simp; omega
  refine wp_mono (sx_ok (N := h.length) hΓ c 0 _ _ hl hx π ρ _ w S) ?_
  rintro e a' w' ⟨π', ρ', s', S', St, hq⟩
  have fin : (match resOf P s' fn.results.toList with
    | some l => let m := names h.length s' (flatten l)
      bif okN h.length s'.hp.length m then Q (renS (posOf m) (tupOf l)) (subH s'.hp m m) else False
    | none => False) → a'.defers = [] ∧ ∃ v, (results fn a'.tmps).run P w' = .ok v w' ∧ (fun e w' => ∃ v π' ρ' r h', e = Ending.returned v ∧ DenS π' ρ' r v ∧ HSat π' ρ' h' w' ∧ Step h.length ρ h w π ρ' h' w' π' ∧ Q r h') (.returned v) w' := by
    intro hq
    split at hq
    · rename_i l hres
      dsimp only at hq
      generalize names h.length s' (flatten l) = m at hq
      cases hm : okN h.length s'.hp.length m with
      | false => rw [hm] at hq; exact hq.elim
      | true =>
        rw [hm] at hq
        simp only [cond_true] at hq
        obtain ⟨us, h1, h2⟩ := resOf_ok S' _ l hres
        obtain ⟨v, h3, h4⟩ := results_ok (P := P) (w := w') h1 h2
        refine ⟨S'.df, v, h3, v, π', envOf ρ' m, _, _, rfl, dens_ren (ren_env ρ' m) h4, ?_, ?_, hq⟩
        · simp only [okN, Bool.and_eq_true] at hm
          exact hsat_sub S'.hs hm.1.1 hm.1.2
        · simp only [okN, Bool.and_eq_true] at hm
          have hlen := subH_len (h := s'.hp) (m := m) m
          refine ⟨St.os, St.tape, St.output, St.size, St.block, ?_, St.pmono, St.pfresh, ?_⟩
          · intro k g hk hr
            obtain ⟨b, hb, hr'⟩ := own_env hr
            exact St.fresh b g (allLt_ok hm.1.2 k b hb) hr'
          · intro k it κ hk hit hκ
            obtain ⟨e1, it', e2, k2⟩ := St.keep k it κ hk hit hκ
            have hmk := isPre_ok hm.2 k hk
            have hlt : k < (subH s'.hp m m).length := by rw [hlen]; exact (List.getElem?_eq_some_iff.1 hmk).1
            have hget := List.getElem?_eq_getElem hlt
            obtain ⟨b, hb, he⟩ := subH_get hget
            rw [hmk] at hb
            cases hb
            refine ⟨by rw [← e1]; simp [envOf, hmk], renH (posOf m) it', ?_, by rw [knd_ren]; exact k2⟩
            rw [hget, he, e2]
            rfl
    · exact hq.elim
  cases e with
  | normal => exact fin hq
  | ret => exact fin hq
  | exit id => exact hq.elim
  | goto l => exact hq.elim
  | panic c => exact hq.elim
  | outgrown => exact hq.elim

/-- A loop: at every round's head the state is 'st x' for some x of which I holds, and μ goes down. -/
theorem W_loop {α : Type} {N : Nat} {body : Code} (st : α → SS) (I : α → Prop) (μ : α → Nat) {Q : Exit → SS → Prop}
    (hr : ∀ x, I x → W N P body (st x) (thenQ (fun s' => ∃ y, I y ∧ μ y < μ x ∧ Fits N s' (st y)) Q)) : ∀ x, I x → W N P (.loop body) (st x) Q := by
  intro x hx π ρ a w S
  refine wp_loop_ghost (fun n a' w' => ∃ y π' ρ', I y ∧ μ y = n ∧ Sat π' ρ' (st y) a' w' ∧ Step N ρ (st x).hp w π ρ' (st y).hp w' π') (μ x) ⟨x, π, ρ, hx, rfl, S, Step.refl _ _ _ _ _⟩ ?_
  rintro n a1 w1 ⟨y, π1, ρ1, hy, rfl, S1, St1⟩
  refine wp_mono (hr y hy π1 ρ1 a1 w1 S1) ?_
  rintro e a2 w2 ⟨π2, ρ2, s2, S2, St2, hq⟩
  cases e with
  | normal =>
    obtain ⟨z, hz, hlt, hfit⟩ := hq
    obtain ⟨ρ3, S3, hst⟩ := fits_ok hfit S2
    exact ⟨μ z, hlt, z, π2, ρ3, hz, rfl, S3, hst (St1.trans St2)⟩
  | exit id => exact ⟨π2, ρ2, s2, S2, St1.trans St2, hq⟩
  | goto l => exact ⟨π2, ρ2, s2, S2, St1.trans St2, hq⟩
  | ret => exact ⟨π2, ρ2, s2, S2, St1.trans St2, hq⟩
  | panic c => exact ⟨π2, ρ2, s2, S2, St1.trans St2, hq⟩
  | outgrown => exact ⟨π2, ρ2, s2, S2, St1.trans St2, hq⟩
/-- A state of which less is said. -/
theorem W_fits {N : Nat} {c : Code} {s t : SS} {Q : Exit → SS → Prop} (hf : Fits N s t) (h : W N P c t Q) : W N P c s Q := by
  intro π ρ a w S
  obtain ⟨ρ', S', hst⟩ := fits_ok hf S
  refine wp_mono (h π ρ' a w S') ?_
  rintro e a2 w2 ⟨π2, ρ2, s2, S2, St2, hq⟩
  exact ⟨π2, ρ2, s2, S2, (hst (Step.refl N ρ s.hp w π)).trans St2, hq⟩
end Go.Proofs.Ytkpepieepdmjpaa.Sx
