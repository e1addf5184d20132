/- Chapter 7 (scope): laid, proved. No condition. -/
import Derived.Test.YtlfnpdfgdebhkaaSPV
namespace Go.Proofs.Ytlfnpdfgdebhkaa.Ch
open Go Go.Proofs Go.Proofs.Ytlfnpdfgdebhkaa.Sx
set_option linter.unusedVariables false
set_option linter.unusedSimpArgs false

theorem laid_mono {k m : Nat} (h : k ≤ m) {o ins : List Int} {l : List Ob} {es : Es} (hl : LaidOk k o ins l es) : LaidOk m o ins l es := ⟨hl.1, hl.2.1, by have := hl.2.2.1; omega, by have := hl.2.2.2.1; omega, hl.2.2.2.2⟩
theorem laid_start : LaidOk 0 [0, 0] rIns startL startEs := ⟨outI_start, inv_all, by simp, by simp [builtL], by decide⟩
theorem gokLaid : GOK Try.prog (gam gLaid) := gam_ok ⟨start_ok, rstart_ok, orNil_ok open0_ok open_ok, ropen_ok, orNil_ok put0_ok put_ok, rput_ok, orNil_ok change0_ok change_ok, rchange_ok, trivial⟩
structure LD where
  i : Nat
  o : List Int
  ins : List Int
  l : List Ob
  es : Es
theorem ne_self (x : Int) : (x != x || (0 : Int) != 0) = false := by simp
theorem laid_loop (acts : List Ac) (Q : Exit → SS → Prop) (hq : ∀ o ins l es, LaidOk 60 o ins l es → Q (.exit 0) (stLX o ins l es)) : W 0 Try.prog (.loop (lp Try.f12 0)) (stL acts [0, 0] rIns startL startEs 0) Q := by
  refine W_loopE (N := 0) (P := Try.prog) (body := lp Try.f12 0) (Q := Q) (fun d : LD => stL acts d.o d.ins d.l d.es d.i) (fun d => d.i ≤ acts.length ∧ d.i ≤ 60 ∧ LaidOk d.i d.o d.ins d.l d.es) (fun d => acts.length - d.i) [0, 5, 6, 7] [5, 6] [2, 3, 4] (fun ⟨i, o, ins, l, es⟩ ⟨hi, h60, hL⟩ => ?_) ⟨0, [0, 0], rIns, startL, startEs⟩ ⟨Nat.zero_le _, Nat.zero_le _, laid_start⟩
  dsimp only at hi h60 hL ⊢
  refine sx_ok (Λ := noLam) gokLaid _ 0 _ _ noLam_ok ?_
  rw [vc_laidl]
  intro hm
  obtain ⟨hO, hI, ho, hl, hx⟩ := hL
  refine cond_of (fun hc => ?_) (fun hc => hq _ _ _ _ (laid_mono h60 ⟨hO, hI, ho, hl, hx⟩))
  simp only [Bool.and_eq_true, decide_eq_true_eq] at hc
  have hi1 : i < acts.length := by omega
  have hi2 : i < 60 := by omega
  have ei : IntKind.i64.wrap ((i : Int) + 1) = ((i + 1 : Nat) : Int) := w64n (n := i + 1) (by omega)
  rw [Int.toNat_natCast, getD_at hi1, ei]
  obtain ⟨kd, a, ix, ob⟩ := acts[i]
  dsimp only
  have hl1 := hI.2.1
  have hok : (o.length = o.length ∧ l.length = l.length ∧ o.length ≤ 1000 ∧ l.length ≤ 1000 ∧ 1 ≤ l.length) := ⟨rfl, rfl, by omega, by omega, hl1⟩
  have hok2 : (o.length = o.length ∧ l.length = l.length ∧ o.length ≤ 1000 ∧ l.length < 1000 ∧ 1 ≤ l.length) := ⟨rfl, rfl, by omega, by omega, hl1⟩
  have hokr : (o.length = o.length ∧ ins.length = ins.length ∧ l.length = l.length ∧ o.length ≤ 1000 ∧ ins.length = l.length ∧ l.length < 1000 ∧ 1 ≤ l.length) := ⟨rfl, rfl, rfl, by omega, hI.1, by omega, hl1⟩
  have same : ∃ y : LD, stL acts o ins l es (i + 1) = stL acts y.o y.ins y.l y.es y.i ∧ (y.i ≤ acts.length ∧ y.i ≤ 60 ∧ LaidOk y.i y.o y.ins y.l y.es) ∧ acts.length - y.i < acts.length - i := ⟨⟨i + 1, o, ins, l, es⟩, rfl, ⟨hi1, hi2, laid_mono (Nat.le_succ i) ⟨hO, hI, ho, hl, hx⟩⟩, by show acts.length - (i + 1) < acts.length - i; omega⟩
  have hput := put_same hI o.length a ob
  refine ⟨by omega, by omega, hi1, cond_of (fun _ => ⟨hok, ⟨fun hb => ⟨hokr, ⟨fun _ => same, fun hb' => absurd hb' (by rw [hb]; simp)⟩⟩, fun hb => ⟨hokr, ⟨fun hb' => absurd hb' (by rw [hb]; simp), fun _ => ?_⟩⟩⟩⟩) (fun _ => cond_of (fun _ => ⟨hok2, ⟨fun hp => ⟨hokr, ⟨fun _ => ?_, fun hp' => absurd hp' (by rw [← hput]; exact hp)⟩⟩, fun hp => ⟨hokr, ⟨fun hp' => absurd hp (by rw [hput]; exact hp'), fun _ => ?_⟩⟩⟩⟩) (fun _ => ?_))⟩
  · rw [ne_self]
    exact ⟨⟨i + 1, o ++ [a], ins, l, es⟩, rfl, ⟨hi1, hi2, outI_open hO hb, hI, by rw [List.length_append]; simp only [List.length_cons, List.length_nil]; omega, by show l.length ≤ 19 + (i + 1); omega, fun x h => by have := hx x h; simp only [List.length_append, List.length_cons, List.length_nil]; omega⟩, by show acts.length - (i + 1) < acts.length - i; omega⟩
  · rw [hput, show ((0 : Int) != 0 || rputE o.length ins l a ob != rputE o.length ins l a ob) = false by simp]
    exact same
  · rw [ne_self]
    have hI2 := inv_put hI a ob (putE_none hp)
    have hx2 : ∀ x ∈ ins ++ [a], x < (o.length : Int) := fun x h => by
      rcases List.mem_append.1 h with h | h
      · exact hx x h
      · obtain rfl := List.mem_singleton.1 h
        unfold putE at hp
        split at hp
        · rename_i hc
          simp only [Bool.and_eq_true] at hc
          exact (inB_iff.1 hc.1.1).2
        · simp at hp
    exact ⟨⟨i + 1, o, ins ++ [a], l ++ [ob], putEs es a ob.2.1 l.length⟩, rfl, ⟨hi1, hi2, hO, hI2, by show o.length ≤ 2 + (i + 1); omega, by rw [List.length_append]; simp only [List.length_cons, List.length_nil]; omega, hx2⟩, by show acts.length - (i + 1) < acts.length - i; omega⟩
  · refine cond_of (fun _ => ⟨hok2, ⟨fun hc => ⟨hokr, ⟨fun _ => same, fun hc' => absurd hc' (by rw [hc]; simp)⟩⟩, fun hc => ⟨hokr, ⟨fun hc' => absurd hc' (by rw [hc]; simp), fun _ => ?_⟩⟩⟩⟩) (fun _ => same)
    have hc' := hc
    unfold chgB at hc'
    simp only [Bool.and_eq_true] at hc'
    have hb := inB_iff.1 hc'.1.1
    have hlt : ix.toNat < l.length := by omega
    have hs := (strEq_iff _ _).1 hc'.2
    rw [getD_at hlt] at hs
    have hI2 := inv_change hI hlt hs
    exact ⟨⟨i + 1, o, ins, l.set ix.toNat ob, es⟩, rfl, ⟨hi1, hi2, hO, hI2, by show o.length ≤ 2 + (i + 1); omega, by show (l.set ix.toNat ob).length ≤ 19 + (i + 1); rw [List.length_set]; omega, hx⟩, by show acts.length - (i + 1) < acts.length - i; omega⟩
theorem laid_ok : ∀ args h Q, laid_t args h Q → FSpec Try.prog 12 args h Q := trH_ok fun ((acts, _) : List Ac × Unit) _ Q h => by
  refine spec_body (Λ := lam [(0, laid_l)]) gokLaid Try.func12 rfl ?_ ?_
  · exact lokl (l := [(0, lp Try.f12 0)]) ⟨lam_ok fun x Q _ a => laid_loop x Q a, trivial⟩
  show body Try.prog (gam gLaid) (lam [(0, laid_l)]) Try.f12 [.c (.row tA acts)] [] _
  rw [vc_laid]
  exact ⟨acts, rfl, trivial, h⟩
end Go.Proofs.Ytlfnpdfgdebhkaa.Ch
