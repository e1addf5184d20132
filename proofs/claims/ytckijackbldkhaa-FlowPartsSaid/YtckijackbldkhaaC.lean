/- Chapter 11 (code): ends, so many registers from one on, copies, counts: proved. No condition. -/
import Derived.Test.YtckijackbldkhaaBV
namespace Go.Proofs.Ytckijackbldkhaa.Ch
open Go Go.Proofs Go.Proofs.Ytckijackbldkhaa.Sx
set_option linter.unusedVariables false
set_option linter.unusedSimpArgs false

/-- What is answered: a slice, if it is read alone from now on. -/
theorem spec_frzD {P : Program} {f : FuncId} {args : List PV} {h : List HB} {Q : SV → List HB → Prop} (b0 : Nat) (bs0 : List Nat) (hs : FSpec P f args h fun r h' => Q r h' ∨ (noCells h' (b0 :: bs0) = true ∧ ∃ p ob bs' p', r = .p p ∧ brP ⟨0, [], h'⟩ p = some (ob, bs', p') ∧ allP ob ∧ (∀ x, x ∈ bs' → x ∈ b0 :: bs0) ∧ Q (.p (renP (keepN (b0 :: bs0)) p')) (goneB (b0 :: bs0) 0 h'))) : FSpec P f args h Q := by
  intro π ρ w vs hh ha
  refine (hs π ρ w vs hh ha).mono ?_
  rintro _ w' ⟨v, π', ρ', r, h', rfl, h2, h3, h4, h5⟩
  rcases h5 with h5 | ⟨h5, p, ob, bs', p', rfl, h6, h7, h8, h9⟩
  · exact ⟨v, π', ρ', r, h', rfl, h2, h3, h4, h5⟩
  have S : Sat π' ρ' ⟨0, [], h'⟩ (⟨#[], []⟩ : Act) w' := ⟨h3, fun i v hi => by simp [lk] at hi, rfl, rfl, rfl⟩
  obtain ⟨π2, ρ2, S2, St2, hp, _⟩ := sat_frz (N := h.length) S h5
  exact ⟨v, π2, ρ2, .p (renP (keepN (b0 :: bs0)) p'), _, rfl, hp _ _ (brP_ok S h2 h6 h7 h8), S2.hs, h4.trans St2, h9⟩
def isFixB : Ty → Bool | .fix _ => true | _ => false
/-- What is answered, as a slice that is read alone. -/
theorem spec_row {P : Program} {f : FuncId} {args : List PV} {Q : SV → List HB → Prop} (e : TypeId) (t : Ty) (ht : isFixB t = false) (hs : FSpec P f args [] fun r h' => ∃ xs : List t.T, (r = .p (.c (.row t xs)) ∨ (r = .p (.c .nils) ∧ xs = [] ∧ h' = []) ∨ ∃ e, r = .p (.c (.view t 0 0 xs.length)) ∧ h' = [.row e t xs]) ∧ Q (.p (.c (.row t xs))) []) : FSpec P f args [] Q := by
  refine spec_drop (spec_frzD 0 [] (spec_ownR e t 0 (hs.mono fun r h' ⟨xs, hx, hq⟩ => ?_)))
  have fr : ∀ e2 : TypeId, (noCells [HB.row e2 t xs] [0] = true ∧ ∃ p ob bs' p', SV.p (.c (.view t 0 0 xs.length)) = .p p ∧ brP ⟨0, [], [HB.row e2 t xs]⟩ p = some (ob, bs', p') ∧ allP ob ∧ (∀ x, x ∈ bs' → x ∈ [0]) ∧ norefS (.p (renP (keepN [0]) p')) = true ∧ Q (.p (renP (keepN [0]) p')) []) := fun e2 => by
    have hn : noCells [HB.row e2 t xs] [0] = true := by
      cases t <;> first | rfl | cases ht
    refine ⟨hn, .c (.view t 0 0 xs.length), ?_⟩
    have hb : ∃ ob, brP ⟨0, [], [HB.row e2 t xs]⟩ (.c (.view t 0 0 xs.length)) = some (ob, [0], .c (.row t xs)) ∧ allP ob := by
      refine ⟨[0 + xs.length ≤ xs.length], ?_, ⟨by omega, trivial⟩⟩
      simp only [brP, brC, nth, dif_pos, vw_all]
    obtain ⟨ob, h1, h2⟩ := hb
    exact ⟨ob, [0], .c (.row t xs), rfl, h1, h2, fun x hx => hx, rfl, hq⟩
  rcases hx with rfl | ⟨rfl, rfl, rfl⟩ | ⟨e2, rfl, rfl⟩
  · exact .inl (.inl ⟨rfl, hq⟩)
  · exact .inr (.inr (fr e))
  · exact .inl (.inr (fr e2))
theorem ends_ok : ∀ args h Q, ends_t args h Q → FSpec Try.prog 16 args h Q := trH_ok fun ((x, _) : Ins × Unit) _ Q h => by
  refine spec_body gok0 Try.func16 rfl noLam_ok ?_
  show body Try.prog (gam []) noLam Try.f16 [.agg (toCV tIns x)] [] _
  rw [vc_ends]
  dsimp only at h
  unfold endsV at h
  refine cond_of (fun h1 => ?_) (fun h1 => cond_of (fun h2 => ?_) (fun h2 => cond_of (fun h3 => ?_) (fun h3 => cond_of (fun h4 => ?_) (fun h4 => ?_))))
  all_goals simp_all
theorem run_step (d n : Int) (Q : Exit → SS → Prop) (hq : Q (.exit 0) (⟨20, [(4, .p (.c (.view tI 0 0 (min (max n 0) 65536).toNat)))], [.row 3 tI (runV d n)]⟩ : SS)) : W 0 Try.prog (.loop (lp Try.f45 0)) (stRun0 d n) Q := by
  refine W_ownF 3 tI 4 ?_
  show W 0 Try.prog (.loop (lp Try.f45 0)) (stRun d n 0) Q
  refine W_all (stRun d n) (min (max n 0) 65536).toNat (fun _ => True) [0, 4, 8, 9] [4] [] (fun i hi ho K hK => ?_)
  refine sx_ok (Λ := noLam) gok0 _ 0 _ _ noLam_ok ?_
  rw [vc_runL]
  have hv : vw (List.map (fun k : Nat => IntKind.i64.wrap (d + (k : Int))) (List.range i)) 0 i = List.map (fun k : Nat => IntKind.i64.wrap (d + (k : Int))) (List.range i) := by
    have := vw_all (List.map (fun k : Nat => IntKind.i64.wrap (d + (k : Int))) (List.range i))
    simpa using this
  have he : List.map (fun k : Nat => IntKind.i64.wrap (d + (k : Int))) (List.range i) ++ [IntKind.i64.wrap (d + (i : Int))] = List.map (fun k : Nat => IntKind.i64.wrap (d + (k : Int))) (List.range (i + 1)) := by rw [List.range_succ, List.map_append]; rfl
  rw [hv, he]
  refine cond_of (fun hc => ?_) (fun hc => ?_)
  · have hc : (i : Int) < min (max n 0) 65536 := of_decide_eq_true hc
    have ei : IntKind.i64.wrap ((i : Int) + 1) = ((i + 1 : Nat) : Int) := w64n (n := i + 1) (by omega)
    rw [ei]
    have hl : (List.map (fun k : Nat => IntKind.i64.wrap (d + (k : Int))) (List.range (i + 1))).length = i + 1 := by simp
    rw [hl]
    exact ⟨Nat.le_refl _, by simp, by omega, hK (by omega) trivial⟩
  · have hc : ¬ (i : Int) < min (max n 0) 65536 := of_decide_eq_false hc
    obtain rfl : i = (min (max n 0) 65536).toNat := by omega
    exact hq
theorem run_ok : ∀ args h Q, run_t args h Q → FSpec Try.prog 45 args h Q := trH_ok fun ((d, n, _) : Int × Int × Unit) _ Q h => by
  refine spec_row 3 tI rfl (spec_body (Λ := lam [(0, run_l)]) gok0 Try.func45 rfl (lokl ⟨lam_ok (fun ⟨d, n⟩ Q _ hq => run_step d n Q hq), trivial⟩) ?_)
  show body Try.prog (gam []) (lam [(0, run_l)]) Try.f45 [ti d, ti n] [] _
  rw [vc_run]
  refine ⟨(d, n), ?_, trivial, runV d n, .inr (.inr ⟨3, ?_, rfl⟩), h⟩
  · show (⟨20, _, _⟩ : SS) = _
    have : mn2 (mx2 n 0) 65536 = min (max n 0) 65536 := by unfold mn2 mx2; split <;> split <;> omega
    rw [this]
  · have : (runV d n).length = (min (max n 0) 65536).toNat := by unfold runV; simp
    rw [this]
theorem cloneI_ok : ∀ args h Q, cloneI_t args h Q → FSpec Try.prog 46 args h Q := trH_ok fun ((l, _) : List Int × Unit) _ Q ⟨hl, h⟩ => by
  refine spec_row 3 tI rfl (spec_body gok0 Try.func46 rfl noLam_ok ?_)
  show body Try.prog (gam []) noLam Try.f46 [.c (.row tI l)] [] _
  rw [vc_cloneI]
  dsimp only at hl
  intro b hb
  cases b with
  | true => exact ⟨[], .inr (.inl ⟨rfl, rfl, rfl⟩), by rw [← hb rfl]; exact h⟩
  | false => exact ⟨Nat.le_refl _, by omega, l, .inr (.inr ⟨3, rfl, rfl⟩), h⟩
theorem cnt_step (l : List Int) (Q : Exit → SS → Prop) (hl : l.length ≤ 1000000) (h1 : cntV l = false → Q .ret (⟨18, [(2, .p (tb false))], []⟩ : SS)) (h2 : cntV l = true → Q (.exit 0) (⟨18, [], []⟩ : SS)) : W 0 Try.prog (.loop (lp Try.f15 0)) (stCnt l 0) Q := by
  refine W_all (stCnt l) l.length (fun i => (decide (l.getD i 0 < 0) || decide (65536 < l.getD i 0)) = false) [5, 6, 7] [] [2] (fun i hi ho K hK => ?_)
  refine sx_ok (Λ := noLam) gok0 _ 0 _ _ noLam_ok ?_
  rw [vc_cntL]
  refine cond_of (fun hc => ?_) (fun hc => ?_)
  · have hc : i < l.length := by have := of_decide_eq_true hc; omega
    have ei : IntKind.i64.wrap ((i : Int) + 1) = ((i + 1 : Nat) : Int) := w64n (n := i + 1) (by omega)
    rw [ei]
    refine ⟨by omega, by omega, by omega, cond_of (fun h => ?_) (fun h => ?_)⟩
    · refine h1 ?_
      unfold cntV
      rw [List.all_eq_false]
      refine ⟨l.getD i 0, by rw [getD_at hc]; exact List.getElem_mem _, ?_⟩
      have h : (decide (l.getD i 0 < 0) || decide (65536 < l.getD i 0)) = true := h
      rw [h]; simp
    · exact hK hc h
  · have hc : ¬ i < l.length := by have := of_decide_eq_false hc; omega
    refine h2 ?_
    unfold cntV
    rw [List.all_eq_true]
    intro b hb
    obtain ⟨j, hj, rfl⟩ := List.getElem_of_mem hb
    have := ho j (by omega)
    rw [getD_at hj] at this
    rw [this]; rfl
theorem cnt_ok : ∀ args h Q, cnt_t args h Q → FSpec Try.prog 15 args h Q := trH_ok fun ((l, _) : List Int × Unit) _ Q ⟨hl, h⟩ => by
  refine spec_body (Λ := lam [(0, cnt_l)]) gok0 Try.func15 rfl (lokl ⟨lam_ok (fun l Q hl ⟨h1, h2⟩ => cnt_step l Q hl h1 h2), trivial⟩) ?_
  show body Try.prog (gam []) (lam [(0, cnt_l)]) Try.f15 [.c (.row tI l)] [] _
  rw [vc_cnt]
  dsimp only at hl h
  exact fun _ => ⟨l, rfl, hl, fun e => by rw [e] at h; exact h, fun e => by rw [e] at h; exact h⟩
end Go.Proofs.Ytckijackbldkhaa.Ch
