/- Chapter 3 (tree): awake, proved. No condition. -/
import Derived.Test.YtmncmmdicpcgmaaTRV
namespace Go.Proofs.Ytmncmmdicpcgmaa.Ch
open Go Go.Proofs Go.Proofs.Ytmncmmdicpcgmaa.Sx
set_option linter.unusedVariables false
set_option linter.unusedSimpArgs false

theorem addA_ok : ∀ args h Q, addA_t args h Q → FSpec Try.prog 21 args h Q := trH_ok fun ((_, n, _) : Unit × Nd × Unit) ((k, _), rows, _) Q h => by
  dsimp only at h
  split at h
  · obtain ⟨⟨rfl, h1, h2⟩, h3⟩ := h
    exact add_core [] n Q (by simp) (fun r hr => by simp at hr) h2 (fun hf => by rw [show ([] : List Rw).length = 0 from rfl, h1] at hf; cases hf) (fun _ => ⟨fun hf => (by simp at hf), fun _ => h3⟩)
  · obtain ⟨⟨h0, hl, h1, h2⟩, h3⟩ := h
    have := add_core rows n Q h0.2.2 (tree_rows h0) h2 (fun hf => by rw [hl, h1] at hf; cases hf) (fun _ => ⟨fun hf => (by omega), fun _ => by rw [hl]; unfold treeH; rw [List.length_append, hl]; exact h3⟩)
    unfold treeH at this
    rw [hl] at this
    exact this
  · obtain ⟨⟨h0, hk, hl, h1, h2⟩, h3⟩ := h
    subst hk
    exact add_core rows n Q h0.2.2 (tree_rows h0) h2 (fun _ => by unfold treeH; rw [hl]; exact h3) (fun hf => by rw [hl, h1] at hf; cases hf)
theorem swapS_ok : ∀ args h Q, swapS_t args h Q → FSpec Try.prog 20 args h Q := trH_ok fun ((_, i, at_, n, _) : Unit × Int × Int × Nd × Unit) ((n1, _), t, _) Q ⟨⟨hn, ht, hK, hb⟩, h2⟩ => by
  dsimp only at hn ht hK hb h2
  subst hn
  refine swap_ok _ _ _ ?_
  have hx : ∀ R : SV → List HB → Prop, ((t.length = t.length ∧ TreeOk t ∧ (∀ r ∈ t, (kidsOf r.1).length ≤ 65536)) ∧ (swapB t i n = false → R (.tup [.c .nilp, ti 0]) (treeH t)) ∧ (swapB t i n = true → ∀ s idx, CopyOf (nodes t) i at_ n [] s idx → R (.tup [.c (.ptr 2 0), ti idx]) (treeH2 t s))) → swap_t [.c (.ptr 0 0), ti i, ti at_, .agg (toCV tN n)] (treeH t) R := by
    intro R h
    exact h
  exact hx _ ⟨⟨rfl, ht, hK⟩, ⟨fun hf => (by rw [hb] at hf; cases hf), fun _ => h2⟩⟩
theorem depthS_ok : ∀ args h Q, depthS_t args h Q → FSpec Try.prog 18 args h Q := trH_ok fun ((_, i, _) : Unit × Int × Unit) ((n, _), rows, _) Q ⟨⟨hn, ht, hh⟩, h⟩ => by
  dsimp only at hn ht hh h
  subst hn
  refine depth_ok _ _ _ ?_
  have hx : ∀ R : SV → List HB → Prop, ((rows.length = rows.length ∧ rows.length ≤ 65536) ∧ (hasB rows.length i = false → R (.p (ti 0)) (treeH rows)) ∧ (hasB rows.length i = true → R (.p (ti (rowAt rows i).2.2)) (treeH rows))) → depth_t [.c (.ptr 0 0), ti i] (treeH rows) R := by
    intro R h
    exact h
  have hb := hasB_iff.1 hh
  exact hx _ ⟨⟨rfl, ht.2.2⟩, ⟨fun hf => (by rw [hh] at hf; cases hf), fun _ => (by rw [tree_at ht hb.1 hb.2]; exact h)⟩⟩
theorem gokAwake : GOK Try.prog (gam gAwake) := gam_ok ⟨new_ok, addA_ok, walkU_ok, swapS_ok, depthS_ok, nodeS_ok, same_ok 4, trivial⟩
theorem tree_kids {s : List Rw} (h : ∀ n ∈ nodes s, (kidsOf n).length ≤ 65536) : ∀ r ∈ s, (kidsOf r.1).length ≤ 65536 := fun r hr => h r.1 (List.mem_map.2 ⟨r, hr, rfl⟩)
theorem ext_nil {s : List Rw} (h : ExtP [] s) : ∀ r ∈ s, (kidsOf r.1).length ≤ 65536 := by
  obtain ⟨more, he, hk⟩ := h
  refine tree_kids ?_
  rw [he]
  simpa [nodes] using hk
def nX : Nd := (9, (0, 0, 0), ⟨#[120]⟩, [])
def nP : Nd := (26, (0, 0, 0), ⟨#[]⟩, [1])
def nW : Nd := (9, (0, 0, 0), ⟨#[95]⟩, [])
theorem awake_ok : ∀ args h Q, awake_t args h Q → FSpec Try.prog 7 args h Q := trH_ok fun _ _ Q h => by
  refine spec_body gokAwake Try.func7 rfl noLam_ok ?_
  show body Try.prog (gam gAwake) noLam Try.f7 [] [] _
  rw [vc_awake]
  have hX : ((9, (0, 0, 0), ⟨#[120]⟩, []) : Nd) = nX := rfl
  have hP : ((26, (0, 0, 0), ⟨#[]⟩, [1]) : Nd) = nP := rfl
  have hW : ((9, (0, 0, 0), ⟨#[95]⟩, []) : Nd) = nW := rfl
  have t1 := tree_add (n := nX) tree_nil rfl (by simp)
  rw [List.nil_append] at t1
  have t2 := tree_add (n := nP) t1.1 rfl (by simp)
  have hn : nodes ([mkRow [] nX] ++ [mkRow [mkRow [] nX] nP]) = [nX, nP] := by rw [t2.2, t1.2]; rfl
  rw [hX, hP, hW]
  generalize hR : [mkRow [] nX] ++ [mkRow [mkRow [] nX] nP] = R at *
  have hRl : R.length = 2 := by rw [← nodes_len, hn]; rfl
  refine ⟨⟨rfl, rfl, by omega⟩, by omega, ⟨t1.1, rfl, rfl, by omega⟩, by omega, ⟨t2.1, rfl, rfl, rfl, by omega⟩, ⟨rfl, t2.1⟩, ⟨rfl, t2.1, tree_kids (by rw [hn]; intro n h; simp at h; rcases h with rfl | rfl <;> simp [nX, nP, kidsOf]), rfl⟩, ?_⟩
  rintro s idx ⟨c1, c2, ⟨d1, d2, d3, d4, d5⟩, _, _⟩
  rw [hn] at d4 d5
  have hv : Valid [nX, nP] := by rw [← hn]; exact t2.1.1
  have hidx : idx ≠ 0 := fun e => by have := d3.2 e; omega
  have hh : hasB s.length idx = true := hasB_iff.2 (by omega)
  have hh' : hasB (nodes s).length idx = true := by rw [nodes_len]; exact hh
  have hvs := swl_valid (at_ := 1) (n := nW) hv rfl
  have hb := hasB_iff.1 hh'
  obtain ⟨_, _, e3⟩ := (sm_kids hvs (hasB_iff.2 (by rw [swl_len]; simp)) hh').1 d5
  rw [swl_at _ _ _ (by omega) (by simp), if_neg (by omega)] at e3
  have hk2 : kidsOf (ndAt [nX, nP] 2) = [1] := rfl
  rw [hk2] at e3
  have hat := tree_at c1 (hasB_iff.1 hh).1 (hasB_iff.1 hh).2
  have hxe : (rowAt s idx).1 = ndAt (nodes s) idx := by rw [hat]
  rw [hxe]
  cases hks : kidsOf (ndAt (nodes s) idx) with
  | nil => rw [hks] at e3; exact e3.elim
  | cons y r =>
    rw [hks] at e3
    cases r with
    | cons z r => exact e3.2.elim
    | nil =>
      have hy := e3.1
      have hyk := kid_lt c1.1 hb.1 hb.2 (k := y) (by rw [hks]; simp)
      have hyz := sm_zero hy (by rw [swl_len]; simp) (by omega)
      have hhy : hasB s.length y = true := hasB_iff.2 (by rw [nodes_len] at hb; omega)
      have hhy' : hasB (nodes s).length y = true := by rw [nodes_len]; exact hhy
      obtain ⟨_, f2, _⟩ := (sm_kids hvs (hasB_iff.2 (by rw [swl_len]; simp)) hhy').1 hy
      rw [swl_at _ _ _ (by omega) (by simp), if_pos rfl] at f2
      have hye : (rowAt s y).1 = ndAt (nodes s) y := by rw [tree_at c1 (hasB_iff.1 hhy).1 (hasB_iff.1 hhy).2]
      have hst : strEq (ndAt (nodes s) y).snd.snd.fst ⟨#[95]⟩ = true := (strEq_iff _ _).2 f2.symm
      have hks' := ext_nil c2
      have hgd : ([y] : List Int).getD 0 tI.dft = y := rfl
      rw [hgd, hye, hst]
      refine ⟨fun _ => ⟨by omega, by decide, trivial⟩, fun _ => ⟨by omega, trivial⟩, fun _ => ⟨by omega, by decide, trivial⟩, fun _ => ⟨by omega, trivial⟩, ⟨rfl, t2.1, rfl⟩, ⟨rfl, c1.2.2, hks', hh⟩, fun _ => ⟨by omega, by simp, trivial⟩, fun _ => ⟨by simp, trivial⟩, ⟨rfl, c1.2.2, hks', hhy⟩, ⟨rfl, t2.1, t2.1, by decide⟩, ⟨hRl.symm, rfl, t2.1, c1, by decide⟩, ?_⟩
      cases hsm : sm (nodes R) 2 (nodes s) idx with
      | false => exact h
      | true =>
        rw [hn] at hsm
        have := d4.1 hsm (by rw [show pre [nX, nP] 2 = [2, 1] from rfl]; simp)
        have h2 : (⟨#[120]⟩ : ByteArray) = ⟨#[95]⟩ := this.2.1
        exact absurd h2 (by decide)
end Go.Proofs.Ytmncmmdicpcgmaa.Ch
