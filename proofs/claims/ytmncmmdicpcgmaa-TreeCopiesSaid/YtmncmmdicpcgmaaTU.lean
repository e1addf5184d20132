/- Chapter 3 (tree): the laws TreeSame, TreeExact, proved. No condition. -/
import Derived.Test.YtmncmmdicpcgmaaTTV
namespace Go.Proofs.Ytmncmmdicpcgmaa.Ch
open Go Go.Proofs Go.Proofs.Ytmncmmdicpcgmaa.Sx
set_option linter.unusedVariables false
set_option linter.unusedSimpArgs false

theorem depthA_ok : ∀ args h Q, depthA_t args h Q → FSpec Try.prog 18 args h Q := trH_ok fun ((_, i, _) : Unit × Int × Unit) ((n, _), rows, _) Q ⟨⟨hn, ht⟩, h⟩ => by
  dsimp only at hn ht h
  subst hn
  refine depth_ok _ _ _ ?_
  have hx : ∀ R : SV → List HB → Prop, ((rows.length = rows.length ∧ rows.length ≤ 65536) ∧ (hasB rows.length i = false → R (.p (ti 0)) (treeH rows)) ∧ (hasB rows.length i = true → R (.p (ti (rowAt rows i).2.2)) (treeH rows))) → depth_t [.c (.ptr 0 0), ti i] (treeH rows) R := by
    intro R h
    exact h
  refine hx _ ⟨⟨rfl, ht.2.2⟩, fun hf => ?_, fun hh => ?_⟩
  · rw [hf] at h; exact h
  · have hb := hasB_iff.1 hh
    rw [tree_at ht hb.1 hb.2]
    rw [if_pos hh] at h; exact h
theorem list_ok {a : List Nd} (h : greatB a = false) : listOk (laidL a) := by
  obtain ⟨h1, h2⟩ := great_small h
  obtain ⟨h3, h4, h5⟩ := laid_all a
  exact ⟨h3, by omega, fun n hn => h2 n (h5 n hn)⟩
theorem list_in {l : List Nd} (h : listOk l) : inOk l := ⟨h.1, by have := h.2.1; omega, fun n hn => by have := h.2.2 n hn; omega⟩
theorem list_tree {l : List Nd} (h : listOk l) : TreeOk (treeOf l) := tree_ok h.1 (by have := h.2.1; omega)
theorem list_kids {l : List Nd} (h : listOk l) : ∀ r ∈ treeOf l, (kidsOf r.1).length ≤ 65536 := tree_kids (by rw [nodes_tree]; intro n hn; have := h.2.2 n hn; omega)
theorem gokLSame : GOK Try.prog (gam gLSame) := gam_ok ⟨awake_ok, great_ok, laid_ok, rwalkU_ok, same_ok 100, rsame_ok, trivial⟩
theorem cnt_wl {l : List Nd} {x : Int} (hx : hasB l.length x = true) (h : (wl l x).length ≠ 0) : cnt l x ≤ 65536 := by
  unfold wl at h
  rw [hx, Bool.true_and] at h
  split at h
  · rename_i hd; simpa using hd
  · simp at h
theorem treeSame_ok (a b : List Nd) (i k : Int) : FSpec Try.prog 3 [.c (.row tN a), .c (.row tN b), ti i, ti k] [] fun r h' => r = .p (.c (.bool true)) := by
  refine spec_body gokLSame Try.func3 rfl noLam_ok ?_
  rw [vc_treeSame]
  refine cond_of (fun _ => rfl) (fun ha => cond_of (fun _ => rfl) (fun hb => ⟨ha, hb, fun _ => ?_⟩))
  have hA := list_ok ha
  have hB := list_ok (a := b) hb
  generalize laidL a = l at *
  generalize laidL b = m at *
  have hl := hA.2.1
  have hm := hB.2.1
  have e1 : IntKind.i64.wrap ((l.length : Int) + 1) = ((l.length + 1 : Nat) : Int) := w64n (n := l.length + 1) (by omega)
  have e2 : IntKind.i64.wrap ((m.length : Int) + 1) = ((m.length + 1 : Nat) : Int) := w64n (n := m.length + 1) (by omega)
  obtain ⟨e3, e4⟩ := remU_eq i (l.length + 1) (by omega) (by omega)
  obtain ⟨e5, e6⟩ := remU_eq k (m.length + 1) (by omega) (by omega)
  rw [e1, e2, e3, e5, vw_all, vw_all, nodes_tree, nodes_tree]
  have u1 : IntKind.u64.wrap ((l.length + 1 : Nat) : Int) ≠ 0 := by rw [w64u (by omega) (by omega)]; omega
  have u2 : IntKind.u64.wrap ((m.length + 1 : Nat) : Int) ≠ 0 := by rw [w64u (by omega) (by omega)]; omega
  have t1 := list_tree hA
  have t2 := list_tree hB
  have n1 := list_in hA
  have n2 := list_in hB
  generalize remU i (l.length + 1) = x at *
  generalize remU k (m.length + 1) = y at *
  have hx : (-9223372036854775808 : Int) ≤ (x : Int) ∧ (x : Int) ≤ 9223372036854775807 := by omega
  have hy : (-9223372036854775808 : Int) ≤ (y : Int) ∧ (y : Int) ≤ 9223372036854775807 := by omega
  have hsm : smO 100 (treeOf l) (treeOf m) (x : Int) := ⟨t1, t2, by omega⟩
  have hq : (SV.p (PV.c (CV.bool (sm l x m y == sm l x m y)))) = (SV.p (PV.c (CV.bool true))) := by rw [beq_self_eq_true]
  have no : ∀ (l : List Nd) (x : Nat), ¬ (0 < x) → hasB l.length (x : Int) = true → cnt l x ≤ 65536 := fun l x h hh => by have := hasB_iff.1 hh; omega
  refine ⟨u1, fun _ => ⟨u2, cond_of (fun h0 => ⟨by omega, ⟨n1, hx⟩, cond_of (fun _ => rfl) (fun h1 => cond_of (fun h2 => ⟨by omega, ⟨n2, hy⟩, cond_of (fun _ => rfl) (fun h3 => ?_)⟩) (fun h2 => ?_))⟩) (fun h0 => cond_of (fun h2 => ⟨by omega, ⟨n2, hy⟩, cond_of (fun _ => rfl) (fun h3 => ?_)⟩) (fun h2 => ?_))⟩⟩
  · exact ⟨⟨rfl, rfl, hsm⟩, by omega, by omega, ⟨n1, hx, n2, hy, fun hh => cnt_wl hh (by simp at h1; simpa using h1), fun hh => cnt_wl hh (by simp at h3; simpa using h3)⟩, hq⟩
  · exact ⟨⟨rfl, rfl, hsm⟩, by omega, by omega, ⟨n1, hx, n2, hy, fun hh => cnt_wl hh (by simp at h1; simpa using h1), no m y (by simpa using h2)⟩, hq⟩
  · exact ⟨⟨rfl, rfl, hsm⟩, by omega, by omega, ⟨n1, hx, n2, hy, no l x (by simpa using h0), fun hh => cnt_wl hh (by simp at h3; simpa using h3)⟩, hq⟩
  · exact ⟨⟨rfl, rfl, hsm⟩, by omega, by omega, ⟨n1, hx, n2, hy, no l x (by simpa using h0), no m y (by simpa using h2)⟩, hq⟩
theorem gokLExact : GOK Try.prog (gam gLExact) := gam_ok ⟨awake_ok, great_ok, laid_ok, len_ok, nodeS_ok, alike_ok, walkU_ok, rwalkU_ok, ints_ok, depthA_ok, rdepth_ok, trivial⟩
theorem list_row {l : List Nd} (h : listOk l) {k : Nat} (hk : k < l.length) : (rowAt (treeOf l) ((k : Int) + 1)).1 = l[k] := by
  have e := tree_at (list_tree h) (i := (k : Int) + 1) (by omega) (by rw [treeOf_len]; omega)
  rw [e, nodes_tree]
  show ndAt l ((k : Int) + 1) = _
  unfold ndAt
  rw [show ((k : Int) + 1 - 1).toNat = k by omega, getD_at hk]
theorem e4_loop (l : List Nd) (i : Int) (hl : listOk l) (Q : Exit → SS → Prop) (hq : Q (.exit 0) (stE4X l i)) : W 0 Try.prog (.loop (lp Try.f4 0)) (stE4 l i 0) Q := by
  have h60 := hl.2.1
  refine W_loopE (N := 0) (P := Try.prog) (body := lp Try.f4 0) (Q := Q) (fun k : Nat => stE4 l i k) (fun k => k ≤ l.length) (fun k => l.length - k) [1, 5, 6, 8] [1, 5, 6] [4] (fun k hk => ?_) 0 (Nat.zero_le _)
  refine sx_ok (Λ := noLam) gokLExact _ 0 _ _ noLam_ok ?_
  rw [vc_e4]
  intro hm
  refine cond_of (fun hc => ?_) (fun hc => hq)
  have hc : k < l.length := by simpa using hc
  have ei : IntKind.i64.wrap ((k : Int) + 1) = ((k + 1 : Nat) : Int) := w64n (n := k + 1) (by omega)
  have hr := list_row hl hc
  rw [show ((k : Int) + 1) = ((k + 1 : Nat) : Int) by omega] at hr
  rw [ei, hr, Int.toNat_natCast, Nat.zero_add, getD_at hc, vw_all]
  have hh : hasB (treeOf l).length ((k + 1 : Nat) : Int) = true := hasB_iff.2 (by rw [treeOf_len]; omega)
  have hlen : (treeOf l).length ≤ 65536 := by rw [treeOf_len]; omega
  have hN : ((treeOf l).length = (treeOf l).length ∧ (treeOf l).length ≤ 65536 ∧ (∀ (r : tR.T), r ∈ treeOf l → (kidsOf r.fst).length ≤ 65536) ∧ hasB (treeOf l).length ((k + 1 : Nat) : Int) = true) := ⟨rfl, hlen, list_kids hl, hh⟩
  have hd : (!decide ((l[k].fst, l[k].snd.fst, l[k].snd.snd.fst, kidsOf l[k]) = l[k])) = false := by rw [decide_eq_true rfl]; rfl
  have hkl : 0 + (kidsOf l[k]).length ≤ (kidsOf l[k]).length := by omega
  exact ⟨by omega, by omega, ⟨hN, hc, hkl, by rw [hd]; exact ⟨k + 1, rfl, hc, by omega⟩⟩, hc, hN, hkl, by rw [hd]; exact ⟨k + 1, rfl, hc, by omega⟩⟩
theorem treeExact_ok (a : List Nd) (i : Int) (hi : i64 i) : FSpec Try.prog 4 [.c (.row tN a), ti i] [] fun r h' => r = .p (.c (.bool true)) := by
  refine spec_body (Λ := lam [(0, e4_l)]) gokLExact Try.func4 rfl ?_ ?_
  · exact lokl (l := [(0, lp Try.f4 0)]) ⟨lam_ok fun x Q a1 a2 => e4_loop x.1 x.2 a1 Q a2, trivial⟩
  rw [vc_treeExact]
  refine cond_of (fun _ => rfl) (fun ha => ⟨ha, rfl, ?_⟩)
  have hA := list_ok ha
  generalize laidL a = l at *
  have hl := hA.2.1
  have e0 : ((treeOf l).length : Int) = (l.length : Int) := by rw [treeOf_len]
  refine cond_of (fun hc => by rw [e0] at hc; simp at hc) (fun _ => ⟨(l, i), rfl, hA, fun _ => ?_⟩)
  dsimp only
  have e1 : IntKind.i64.wrap ((l.length : Int) + 2) = ((l.length + 2 : Nat) : Int) := w64n (n := l.length + 2) (by omega)
  obtain ⟨e3, e4⟩ := remU_eq i (l.length + 2) (by omega) (by omega)
  rw [e1, e3, vw_all, nodes_tree, treeOf_len, vw_all, vw_all, decide_eq_true rfl, decide_eq_true rfl]
  have u1 : IntKind.u64.wrap ((l.length + 2 : Nat) : Int) ≠ 0 := by rw [w64u (by omega) (by omega)]; omega
  have t1 := list_tree hA
  have n1 := list_in hA
  generalize remU i (l.length + 2) = x at *
  have hx : (-9223372036854775808 : Int) ≤ (x : Int) ∧ (x : Int) ≤ 9223372036854775807 := by omega
  refine ⟨u1, ⟨rfl, t1⟩, by omega, ⟨n1, hi⟩, by omega, by omega, ⟨⟨rfl, t1⟩, by omega, ⟨n1, hi⟩, ?_⟩⟩
  refine cond_of (fun hc => by simp at hc) (fun _ => ⟨⟨rfl, t1⟩, by omega, ⟨n1, hx⟩, by omega, by omega, ⟨⟨rfl, t1⟩, by omega, ⟨n1, hx⟩, ?_⟩⟩)
  rw [beq_self_eq_true]; rfl
end Go.Proofs.Ytmncmmdicpcgmaa.Ch
