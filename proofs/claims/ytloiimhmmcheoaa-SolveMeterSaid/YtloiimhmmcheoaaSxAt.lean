/- A machine of abstract states over the model, part At: atomic loads and sums. No condition. -/
import Derived.Test.YtloiimhmmcheoaaSxN
import Derived.Laws.Externs
import Derived.Laws.LoneSync
import Derived.Conc.AtomicLaws2
namespace Go.Proofs.Ytloiimhmmcheoaa.Sx
open Go
set_option linter.unusedVariables false
set_option linter.unusedSimpArgs false

def atomB (fn : Func) (nm : String) : Bool := (fn.name == nm) && (fn.origin == "") && fn.body.isNone && !(fn.name == "runtime.NumGoroutine")
theorem next_none1 : Extern.allNextRows.lookup "sync/atomic.AddInt64" = none := by kernel_rfl
theorem next_none2 : Extern.allNextRows.lookup "sync/atomic.LoadInt64" = none := by kernel_rfl
theorem next_none0 : Extern.allNextRows.lookup "" = none := by kernel_rfl
theorem find_add {fn : Func} (h : atomB fn "sync/atomic.AddInt64" = true) : Extern.findNext fn = none ∧ Extern.find fn = some (Extern.Atomic.update (Op.intArith .add) .i64 true) := by
  simp only [atomB, Bool.and_eq_true, beq_iff_eq] at h
  obtain ⟨⟨⟨h1, h2⟩, _⟩, _⟩ := h
  unfold Extern.findNext Extern.find
  rw [h1, h2]
  constructor
  · simp only [next_none1, next_none0]; rfl
  · have e1 : Extern.allGenericRows.lookup "sync/atomic.AddInt64" = none := by kernel_rfl
    have e2 : Extern.allTypedRows.lookup "sync/atomic.AddInt64" = none := by kernel_rfl
    have e3 : Extern.allRows.lookup "sync/atomic.AddInt64" = some (Extern.Atomic.update (Op.intArith .add) .i64 true) := by kernel_rfl
    simp only [e1, e2, e3]; rfl
theorem find_load {fn : Func} (h : atomB fn "sync/atomic.LoadInt64" = true) : Extern.findNext fn = none ∧ Extern.find fn = some (Extern.Atomic.loadT (.int .i64)) := by
  simp only [atomB, Bool.and_eq_true, beq_iff_eq] at h
  obtain ⟨⟨⟨h1, h2⟩, _⟩, _⟩ := h
  unfold Extern.findNext Extern.find
  rw [h1, h2]
  constructor
  · simp only [next_none2, next_none0]; rfl
  · have e1 : Extern.allGenericRows.lookup "sync/atomic.LoadInt64" = none := by kernel_rfl
    have e2 : Extern.allTypedRows.lookup "sync/atomic.LoadInt64" = none := by kernel_rfl
    have e3 : Extern.allRows.lookup "sync/atomic.LoadInt64" = some (Extern.Atomic.loadT (.int .i64)) := by kernel_rfl
    simp only [e1, e2, e3]; rfl
/-- A call of a function without a body: an atomic load, an atomic sum. -/
def extnP (s : SS) (fn : Func) (args : List PV) (dst : Option Nat) (K : SS → Prop) : Prop :=
  match args with
  | [.c (.ptr b off)] => bif atomB fn "sync/atomic.LoadInt64" then (match nth s.hp b with
    | some (.cells _ c0) => (match nth c0 off with
      | some (.int .i64 v) => putK s dst (.p (.c (.int .i64 v))) K
      | _ => False)
    | _ => False) else False
  | [.c (.ptr b off), .c (.int .i64 d)] => bif atomB fn "sync/atomic.AddInt64" then (match nth s.hp b with
    | some (.cells t0 c0) => (match nth c0 off with
      | some (.int .i64 v) => putK { s with hp := s.hp.set b (.cells t0 (c0.set off (.int .i64 (IntKind.i64.wrap (v + d))))) } dst (.p (.c (.int .i64 (IntKind.i64.wrap (v + d))))) K
      | _ => False)
    | _ => False) else False
  | _ => False
theorem extnP_ok {N : Nat} {P : Program} {π : Pers} {ρ : Env} {s : SS} {a : Act} {w : World} (S : Sat π ρ s a w) {f : FuncId} {fn : Func} (hf : P.funcs[f]? = some fn) {args : List PV} {vs : List Value} (ha : All2 (DenP π ρ) args vs) {dst : Option Nat} {K : SS → Prop} (h : extnP s fn args dst K) :
    ∃ u w', (callFunc f vs.toArray).run P w = .ok (.value u) w' ∧ Out N P π ρ s w K (a.put dst u) w' := by
  unfold extnP at h
  split at h
  · rename_i b off
    cases hb : atomB fn "sync/atomic.LoadInt64" with
    | false => rw [hb] at h; exact h.elim
    | true =>
      rw [hb] at h
      simp only [cond_true] at h
      obtain ⟨hn, he⟩ := find_load hb
      simp only [atomB, Bool.and_eq_true, Bool.not_eq_true'] at hb
      split at h
      · rename_i t0 c0 hit
        split at h
        · rename_i v hv
          rw [nth_eq] at hit hv
          obtain ⟨g, cs, hr, hg, hc⟩ := S.hs.items b _ hit
          match vs, ha with
          | [x], ha =>
            obtain ⟨g', o', n', hr', rfl⟩ := ha.1
            rw [hr] at hr'
            cases hr'
            obtain ⟨u, hu, hd⟩ := all2_get hc off _ hv
            have hd : u = .int .i64 v := hd
            subst hd
            have hcell : w.cell? ⟨g, 0 + off, none⟩ = some (.int .i64 v) := by rw [Nat.zero_add, cell_of_row w g off cs t0 (0, 0) hg]; simpa using hu
            obtain ⟨s', g1, g2, g3⟩ := putK_ok S (u := .int .i64 v) (x := .c (.int .i64 v)) rfl h
            exact ⟨_, w, run_call_load hf hb.2 hb.1.2 hn .i64 he hcell, π, ρ, s', g1, by rw [g3]; exact Step.refl _ _ _ _ _, g2⟩
        · exact h.elim
      · exact h.elim
  · rename_i b off d
    cases hb : atomB fn "sync/atomic.AddInt64" with
    | false => rw [hb] at h; exact h.elim
    | true =>
      rw [hb] at h
      simp only [cond_true] at h
      obtain ⟨hn, he⟩ := find_add hb
      simp only [atomB, Bool.and_eq_true, Bool.not_eq_true'] at hb
      split at h
      · rename_i t0 c0 hit
        split at h
        · rename_i v hv
          rw [nth_eq] at hit hv
          have hbl := (List.getElem?_eq_some_iff.1 hit).1
          obtain ⟨g, cs, hr, hg, hc⟩ := S.hs.items b _ hit
          match vs, ha with
          | [x, y], ha =>
            obtain ⟨g', o', n', hr', rfl⟩ := ha.1
            have hy : y = .int .i64 d := ha.2.1
            subst hy
            rw [hr] at hr'
            cases hr'
            obtain ⟨u, hu, hd⟩ := all2_get hc off _ hv
            have hd : u = .int .i64 v := hd
            subst hd
            have hcell : w.cell? ⟨g, 0 + off, none⟩ = some (.int .i64 v) := by rw [Nat.zero_add, cell_of_row w g off cs t0 (0, 0) hg]; simpa using hu
            have hfz : w.frozen? ⟨g, 0 + off, none⟩ = false := frozen_of_row w g _ cs t0 hg
            have hrun : (callFunc f #[.pointer (some ⟨g, 0 + off, none⟩), .int .i64 d]).run P w = .ok (.value (.int .i64 (IntKind.i64.wrap (v + d)))) (w.setCell ⟨g, 0 + off, none⟩ (.int .i64 (IntKind.i64.wrap (v + d)))) := by
              rw [run_callFunc_extern hf hb.2 hb.1.2 hn he, Conc.run_add_entry hcell hfz]; rfl
            rw [Nat.zero_add, setCell_eq_setRow w g off cs t0 (0, 0) _ hg] at hrun
            have hw : ∀ k, k < w.heap.size → ¬ own (ρ b) k → (w.setRow g (cs.setIfInBounds off (.int .i64 (IntKind.i64.wrap (v + d))))).heap[k]? = w.heap[k]? := fun k hk hne => setRow_other w g k _ (fun e => hne (by rw [e]; exact own_main hr))
            have hput : HSat π ρ (s.hp.set b (.cells t0 (c0.set off (.int .i64 (IntKind.i64.wrap (v + d)))))) (w.setRow g (cs.setIfInBounds off (.int .i64 (IntKind.i64.wrap (v + d))))) := by
              refine hsat_put S.hs b _ (by simp) hw hbl ?_
              refine ⟨g, _, ?_, setRow_heap w g cs _ t0 (0, 0) hg, ?_⟩
              · rw [List.length_set]; exact hr
              · rw [Array.toList_setIfInBounds]; exact all2_set (show DenC π ρ (.int .i64 (IntKind.i64.wrap (v + d))) (.int .i64 (IntKind.i64.wrap (v + d))) from rfl) hc off
            have S1 := sat_heap S hput (fun _ _ h => h) (fun _ _ h => h)
            obtain ⟨s', g1, g2, g3⟩ := putK_ok S1 (u := .int .i64 (IntKind.i64.wrap (v + d))) (x := .c (.int .i64 (IntKind.i64.wrap (v + d)))) rfl h
            rw [Nat.zero_add]
            refine ⟨_, _, hrun, π, ρ, s', g1, ?_, g2⟩
            rw [g3]
            exact step_put S.hs b hbl (by simp) (keep_set b _ (fun x κ hh hκ => by rw [hit] at hh; cases hh; exact hκ)) rfl rfl rfl (by simp) hw
        · exact h.elim
      · exact h.elim
  · exact h.elim
end Go.Proofs.Ytloiimhmmcheoaa.Sx
