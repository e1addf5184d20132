/- Chapter 3 (tree): Same, the reference's and the tree's, proved. No condition. -/
import Derived.Test.YtmncmmdicpcgmaaTNV
namespace Go.Proofs.Ytmncmmdicpcgmaa.Ch
open Go Go.Proofs Go.Proofs.Ytmncmmdicpcgmaa.Sx
set_option linter.unusedVariables false
set_option linter.unusedSimpArgs false

theorem all_take {α : Type} {p : α → Bool} {l : List α} {i : Nat} (h : i < l.length) (ht : (l.take i).all p = true) (hb : p l[i] = true) : (l.take (i + 1)).all p = true := by
  rw [List.take_succ_eq_append_getElem h, List.all_append, ht]; simp [hb]
theorem all_at {α : Type} {p : α → Bool} {l : List α} {i : Nat} (h : i < l.length) (hb : p l[i] = false) : l.all p = false := by
  cases ha : l.all p with
  | false => rfl
  | true => have := List.all_eq_true.1 ha _ (List.getElem_mem h); rw [hb] at this; cases this
theorem rwalkU_ok : ∀ args h Q, rwalkU_t args h Q → FSpec Try.prog 10 args h Q := trH_ok fun ((l, i, _) : List Nd × Int × Unit) _ Q ⟨hp, h⟩ => by
  dsimp only at hp h
  refine spec_ownR 3 tI 0 (rwalk_ok _ _ _ ?_)
  have hx : ∀ R : SV → List HB → Prop, ((inOk l ∧ i64 i) ∧ ((hasB l.length i && decide (cnt l i ≤ 65536)) = false → R (.p (.c .nils)) []) ∧ ((hasB l.length i && decide (cnt l i ≤ 65536)) = true → R (.p (.c (.view tI 0 0 (pre l i).length))) [.row 3 tI (pre l i)])) → rwalk_t [.c (.row tN l), ti i] [] R := by
    intro R h
    exact h
  refine hx _ ⟨hp, fun hf => .inr ?_, fun ht => .inl ?_⟩
  · unfold wl at h; rw [hf] at h; exact h
  · unfold wl at h; rw [ht] at h; exact h
theorem walkU_ok : ∀ args h Q, walkU_t args h Q → FSpec Try.prog 17 args h Q := trH_ok fun ((_, i, _) : Unit × Int × Unit) ((n, _), rows, _) Q ⟨⟨hn, hp⟩, h⟩ => by
  dsimp only at hn hp h
  subst hn
  refine spec_ownR 3 tI 0 (walkT_ok _ _ _ ?_)
  have hx : ∀ R : SV → List HB → Prop, ((rows.length = rows.length ∧ TreeOk rows) ∧ ((hasB rows.length i && decide (cnt (nodes rows) i ≤ 65536)) = false → R (.p (.c .nils)) (treeH rows)) ∧ ((hasB rows.length i && decide (cnt (nodes rows) i ≤ 65536)) = true → R (.p (.c (.view tI 2 0 (pre (nodes rows) i).length))) (treeH rows ++ [.row 3 tI (pre (nodes rows) i)]))) → walkT_t [.c (.ptr 0 0), ti i] (treeH rows) R := by
    intro R h
    exact h
  unfold wl at h
  rw [nodes_len] at h
  refine hx _ ⟨⟨rfl, hp⟩, fun hf => .inr ?_, fun ht => .inl ?_⟩
  · rw [hf] at h; exact h
  · rw [ht] at h; exact h
theorem gokRW : GOK Try.prog (gam gRW) := gam_ok ⟨rwalkU_ok, trivial⟩
theorem rsi_loop (d : SD) (hl : (kidsOf d.x).length = (kidsOf d.y).length) (Q : Exit → SS → Prop) (h1 : ((kidsOf d.x).zip (kidsOf d.y)).all zB = true → Q (.exit 2) (stRS d.l d.m d.a d.b d.j)) (h2 : ((kidsOf d.x).zip (kidsOf d.y)).all zB = false → Q .ret (stR 108 8 (tb false) [])) :
    W 0 Try.prog (.loop (lpIn (lp Try.f12 0) 0 0)) (stRI d.l d.m d.a d.b d.j d.x d.y 0) Q := by
  obtain ⟨l, m, a, b, j, x, y⟩ := d
  dsimp only at hl h1 h2 ⊢
  have hz : ((kidsOf x).zip (kidsOf y)).length = (kidsOf x).length := by rw [List.length_zip]; omega
  refine W_loopE (N := 0) (P := Try.prog) (body := lpIn (lp Try.f12 0) 0 0) (Q := Q) (fun h : Nat => stRI l m a b j x y h) (fun h => h ≤ (kidsOf x).length ∧ (((kidsOf x).zip (kidsOf y)).take h).all zB = true) (fun h => (kidsOf x).length - h) [0, 2, 9, 10, 11, 12, 13, 14] [0, 2, 9, 10, 11] [8] (fun h ⟨hi, ht⟩ => ?_) 0 ⟨Nat.zero_le _, rfl⟩
  refine sx_ok (Λ := noLam) gok0 _ 2 _ _ noLam_ok ?_
  rw [vc_rsi]
  intro hm
  simp only [maxI] at hm
  refine cond_of (fun hc => ?_) (fun hc => ?_)
  · have hc : h < (kidsOf x).length := by simpa [kidsOf] using hc
    have hc' : h < (kidsOf y).length := by omega
    have ei : IntKind.i64.wrap ((h : Int) + 1) = ((h + 1 : Nat) : Int) := w64n (n := h + 1) (by show h + 1 ≤ _; have : (kidsOf x).length ≤ _ := hm; omega)
    have hgz : ((kidsOf x).zip (kidsOf y))[h]'(by omega) = ((kidsOf x)[h], (kidsOf y)[h]) := List.getElem_zip
    have hA := all_take (p := zB) (l := (kidsOf x).zip (kidsOf y)) (i := h) (by omega) ht
    have hB := all_at (p := zB) (l := (kidsOf x).zip (kidsOf y)) (i := h) (by omega)
    rw [hgz] at hA hB
    rw [Int.toNat_natCast, show x.snd.snd.snd = kidsOf x from rfl, show y.snd.snd.snd = kidsOf y from rfl, getD_at hc, getD_at hc', ei]
    refine ⟨by omega, by omega, hc, by omega, by omega, hc', cond_of (fun hb => h2 (hB ?_)) (fun hb => ⟨h + 1, rfl, ⟨hc, hA ?_⟩, by omega⟩)⟩
    · rw [Bool.not_eq_true'] at hb; exact hb
    · rw [Bool.not_eq_false'] at hb; exact hb
  · have hc : ¬ (h < (kidsOf x).length) := by simpa [kidsOf] using hc
    rw [List.take_of_length_le (by omega)] at ht
    exact h1 ht
theorem rsi_ok : LOK 0 Try.prog (lam [(2, rsIn_l)]) [(2, lpIn (lp Try.f12 0) 0 0)] := lokl (l := [(2, lpIn (lp Try.f12 0) 0 0)]) ⟨lam_ok fun d Q hl ⟨a1, a2⟩ => rsi_loop d hl Q a1 a2, trivial⟩
theorem neq_locB (a b : Nd) : (a.1 != b.1 || !strEq a.2.2.1 b.2.2.1 || ((a.2.2.2.length : Int) != (b.2.2.2.length : Int))) = !locB a b := by
  have hs := strEq_iff a.2.2.1 b.2.2.1
  have e : strEq a.2.2.1 b.2.2.1 = decide (a.2.2.1 = b.2.2.1) := by rw [Bool.eq_iff_iff, hs]; simp
  have e2 : ((a.2.2.2.length : Int) != (b.2.2.2.length : Int)) = !decide ((kidsOf a).length = (kidsOf b).length) := by
    unfold kidsOf
    by_cases h : a.2.2.2.length = b.2.2.2.length
    · rw [h]; simp
    · rw [decide_eq_false h]; simp; omega
  have e3 : (a.1 != b.1) = !decide (a.1 = b.1) := by
    by_cases h : a.1 = b.1
    · rw [h]; simp
    · rw [decide_eq_false h]; simp [h]
  rw [e, e2, e3]
  unfold locB
  cases decide (a.1 = b.1) <;> cases decide (a.2.2.1 = b.2.2.1) <;> cases decide ((kidsOf a).length = (kidsOf b).length) <;> rfl
theorem rs_loop (d : SD) (hd : d.a.length = d.b.length ∧ d.a.length ≤ 65536 ∧ (∀ k ∈ d.a, 1 ≤ k ∧ k ≤ d.l.length) ∧ (∀ k ∈ d.b, 1 ≤ k ∧ k ≤ d.m.length) ∧ d.l.length ≤ 1000 ∧ d.m.length ≤ 1000) (Q : Exit → SS → Prop)
    (h1 : (d.a.zip d.b).all (fun p => locZ (ndAt d.l p.1) (ndAt d.m p.2)) = true → Q (.exit 0) (stE 108 [])) (h2 : (d.a.zip d.b).all (fun p => locZ (ndAt d.l p.1) (ndAt d.m p.2)) = false → Q .ret (stR 108 8 (tb false) [])) :
    W 0 Try.prog (.loop (lp Try.f12 0)) (stRS d.l d.m d.a d.b 0) Q := by
  obtain ⟨l, m, a, b, j, x, y⟩ := d
  dsimp only at hd h1 h2 ⊢
  obtain ⟨hl, hs, hka, hkb, hll, hlm⟩ := hd
  have hz : (a.zip b).length = a.length := by rw [List.length_zip]; omega
  refine W_loopE (N := 0) (P := Try.prog) (body := lp Try.f12 0) (Q := Q) (fun j : Nat => stRS l m a b j) (fun j => j ≤ a.length ∧ ((a.zip b).take j).all (fun p => locZ (ndAt l p.1) (ndAt m p.2)) = true) (fun j => a.length - j) [0, 2, 9, 10, 11] [] [8] (fun j ⟨hi, ht⟩ => ?_) 0 ⟨Nat.zero_le _, rfl⟩
  refine sx_ok (Λ := lam [(2, rsIn_l)]) gokRW _ 0 _ _ rsi_ok ?_
  rw [vc_rs]
  intro hm
  refine cond_of (fun hc => ?_) (fun hc => ?_)
  · have hc : j < a.length := by simpa using hc
    have hc' : j < b.length := by omega
    have ei : IntKind.i64.wrap ((j : Int) + 1) = ((j + 1 : Nat) : Int) := w64n (n := j + 1) (by omega)
    have hgz : (a.zip b)[j]'(by omega) = (a[j], b[j]) := List.getElem_zip
    have hA := all_take (p := fun p : Int × Int => locZ (ndAt l p.1) (ndAt m p.2)) (l := a.zip b) (i := j) (by omega) ht
    have hB := all_at (p := fun p : Int × Int => locZ (ndAt l p.1) (ndAt m p.2)) (l := a.zip b) (i := j) (by omega)
    rw [hgz] at hA hB
    have ha := hka _ (List.getElem_mem hc)
    have hb := hkb _ (List.getElem_mem hc')
    rw [Int.toNat_natCast, Nat.zero_add, getD_at hc, getD_at hc']
    generalize a[j] = p at *
    generalize b[j] = q at *
    have ep : IntKind.i64.wrap (p - 1) = p - 1 := w64 (by omega) (by omega)
    have eq : IntKind.i64.wrap (q - 1) = q - 1 := w64 (by omega) (by omega)
    rw [ep, eq, show l.getD (p - 1).toNat tN.dft = ndAt l p from rfl, show m.getD (q - 1).toNat tN.dft = ndAt m q from rfl, neq_locB]
    dsimp only at hA hB
    generalize hx : ndAt l p = x at *
    generalize hy : ndAt m q = y at *
    have hloc : locZ x y = (locB x y && ((kidsOf x).zip (kidsOf y)).all zB) := rfl
    refine ⟨by omega, by omega, hc, by omega, by omega, by omega, by omega, by omega, hc', by omega, by omega, by omega, cond_of (fun hb => h2 (hB ?_)) (fun hb => ⟨⟨l, m, a, b, j, x, y⟩, rfl, ?_, fun hk => ?_, fun hk => h2 (hB ?_)⟩)⟩
    · rw [hloc]; simp at hb; rw [hb]; rfl
    · simp only [Bool.not_eq_false'] at hb
      simp only [locB, Bool.and_eq_true, decide_eq_true_eq] at hb
      exact hb.2
    · dsimp only at hk ⊢
      rw [ei]
      exact ⟨j + 1, rfl, ⟨hc, hA (by rw [hloc, hk]; simp at hb; rw [hb]; rfl)⟩, by omega⟩
    · dsimp only at hk
      rw [hloc, hk]; simp
  · have hc : ¬ (j < a.length) := by simpa using hc
    rw [List.take_of_length_le (by omega)] at ht
    exact h1 ht
theorem rsame_ok : ∀ args h Q, rsame_t args h Q → FSpec Try.prog 12 args h Q := trH_ok fun ((l, i, m, k, _) : List Nd × Int × List Nd × Int × Unit) _ Q ⟨⟨a1, a2, a3, a4, a5, a6⟩, h⟩ => by
  dsimp only at a1 a2 a3 a4 a5 a6 h
  refine spec_body (Λ := lam [(0, rs_l)]) gokRW Try.func12 rfl ?_ ?_
  · exact lokl (l := [(0, lp Try.f12 0)]) ⟨lam_ok fun d Q hd ⟨b1, b2⟩ => rs_loop d hd Q b1 b2, trivial⟩
  · show body Try.prog (gam gRW) (lam [(0, rs_l)]) Try.f12 [.c (.row tN l), ti i, .c (.row tN m), ti k] [] _
    rw [vc_rsame]
    have hn1 : ∀ (n : Nat) (i : Int), (decide (i < 1) || decide (i > (n : Int))) = !hasB n i := by
      intro n i
      rw [Bool.eq_iff_iff]
      simp only [hasB, Bool.or_eq_true, decide_eq_true_eq, Bool.not_eq_true', Bool.and_eq_false_iff, decide_eq_false_iff_not]
      omega
    have hml : ∀ (l : List Nd) (i : Int), inOk l → (hasB l.length i = true → cnt l i ≤ 65536) → (wl l i).length ≤ 65536 ∧ (∀ p ∈ wl l i, 1 ≤ p ∧ p ≤ l.length) ∧ (hasB l.length i = true → wl l i = pre l i) ∧ (hasB l.length i = false → wl l i = []) := by
      intro l i hi hc
      cases hh : hasB l.length i with
      | false =>
        have e : wl l i = [] := by unfold wl; rw [hh]; simp
        rw [e]; simp
      | true =>
        have hb := hasB_iff.1 hh
        have e : wl l i = pre l i := by unfold wl; rw [hh, decide_eq_true (hc hh)]; simp
        rw [e]
        refine ⟨hc hh, fun p hp => ?_, by simp, by simp⟩
        have := pre_mem hi.1 _ i (Nat.le_refl _) hb.1 hb.2 p hp
        omega
    obtain ⟨e1, e2, e3, e4⟩ := hml l i a1 a5
    obtain ⟨g1, g2, g3, g4⟩ := hml m k a3 a6
    rw [hn1, hn1]
    refine ⟨⟨a1, a2⟩, ⟨a3, a4⟩, fun _ _ => ?_⟩
    cases hi : hasB l.length i with
    | true =>
      cases hk : hasB m.length k with
      | true =>
        rw [sm_rsm a1.1 a3.1 hi hk] at h
        rw [e3 hi] at e1 e2 ⊢
        rw [g3 hk] at g1 g2 ⊢
        unfold rsm at h
        refine cond_of (fun hc => ?_) (fun hc => ⟨⟨l, m, pre l i, pre m k, 0, tN.dft, tN.dft⟩, rfl, ⟨?_, e1, e2, g2, a1.2.1, a3.2.1⟩, fun ht => ?_, fun hf => ?_⟩)
        · rw [decide_eq_false (fun e => by rw [e] at hc; simp at hc)] at h; exact h
        · simp at hc; show (pre l i).length = (pre m k).length; omega
        · dsimp only at ht
          rw [decide_eq_true (by simp at hc; omega), ht] at h; exact h
        · dsimp only at hf
          rw [hf, Bool.and_false] at h; exact h
      | false =>
        rw [sm_no (by rw [hk]; simp), hi, hk] at h
        refine cond_of (fun hc => h) (fun hc => by simp at hc)
    | false =>
      rw [sm_no (by rw [hi]; simp), hi] at h
      cases hk : hasB m.length k with
      | true =>
        rw [hk] at h
        refine cond_of (fun hc => h) (fun hc => by simp at hc)
      | false =>
        rw [hk] at h
        rw [e4 hi, g4 hk]
        refine cond_of (fun hc => by simp at hc) (fun hc => ⟨⟨l, m, [], [], 0, tN.dft, tN.dft⟩, rfl, ⟨rfl, by simp, by simp, by simp, a1.2.1, a3.2.1⟩, fun ht => h, fun hf => by simp at hf⟩)
/-! ### the tree's -/
theorem row_kids {r : Rw} : r.1.2.2.2 = kidsOf r.1 := rfl
theorem rows_neq (a b : Rw) : (a.1.1 != b.1.1 || !strEq a.1.2.2.1 b.1.2.2.1 || a.2.1 != b.2.1 || a.2.2 != b.2.2 || ((a.1.2.2.2.length : Int) != (b.1.2.2.2.length : Int))) = !(locB a.1 b.1 && (a.2.1 == b.2.1 && a.2.2 == b.2.2)) := by
  have := neq_locB a.1 b.1
  generalize hx : ((a.1.2.2.2.length : Int) != (b.1.2.2.2.length : Int)) = x at *
  generalize hy : (!strEq a.1.2.2.1 b.1.2.2.1) = y at *
  generalize hz : (a.1.1 != b.1.1) = z at *
  rw [Bool.not_and, ← this]
  show (z || y || !(a.2.1 == b.2.1) || !(a.2.2 == b.2.2) || x) = (z || y || x || !(a.2.1 == b.2.1 && a.2.2 == b.2.2))
  cases x <;> cases y <;> cases z <;> cases (a.2.1 == b.2.1) <;> cases (a.2.2 == b.2.2) <;> rfl
theorem smU_loop (m : Nat) (hm : ∀ args h Q, same_t m args h Q → FSpec Try.prog 11 args h Q) (r s : List Rw) (b : Rw) (ks : List Int) (hr : TreeOk r) (hs : TreeOk s) (hk : ∀ k ∈ ks, k.toNat < m) (hl : ks.length = (kidsOf b.1).length) (hml : ks.length ≤ maxI) (he : True) (Q : Exit → SS → Prop)
    (h1 : kidsB ⟨r, s, b, ks⟩ = true → Q (.exit 0) (stXU r s)) (h2 : kidsB ⟨r, s, b, ks⟩ = false → Q .ret (stYU r s)) : W 4 Try.prog (.loop (lp Try.f11 0)) (stSU r s b ks 0) Q := by
  unfold kidsB at h1 h2
  dsimp only at h1 h2
  skip
  have hz : (ks.zip (kidsOf b.1)).length = ks.length := by rw [List.length_zip]; omega
  refine W_loopE (N := 4) (P := Try.prog) (body := lp Try.f11 0) (Q := Q) (fun j : Nat => stSU r s b ks j) (fun j => j ≤ ks.length ∧ ((ks.zip (kidsOf b.1)).take j).all (fun p => sm (nodes r) p.1 (nodes s) p.2) = true) (fun j => ks.length - j) [0, 2, 10, 89, 90, 91] [] [8] (fun j ⟨hi, ht⟩ => ?_) 0 ⟨Nat.zero_le _, rfl⟩
  refine sx_ok (Λ := noLam) (gam_ok (l := gSame m) ⟨hm, orNil_ok has0_ok has_ok, trivial⟩) _ 0 _ _ noLam_ok ?_
  rw [vc_smUl]
  simp only [maxI] at hml
  refine cond_of (fun hc => ?_) (fun hc => ?_)
  · have hc : j < ks.length := by simpa using hc
    have hc' : j < (kidsOf b.1).length := by omega
    have ei : IntKind.i64.wrap ((j : Int) + 1) = ((j + 1 : Nat) : Int) := w64n (n := j + 1) (by omega)
    have hgz : (ks.zip (kidsOf b.1))[j]'(by omega) = (ks[j], (kidsOf b.1)[j]) := List.getElem_zip
    have hA := all_take (i := j) (by omega) ht
    rw [hgz] at hA
    have hzj : j < (ks.zip (kidsOf b.1)).length := by omega
    have hB := fun hf : sm (nodes r) ks[j] (nodes s) (kidsOf b.1)[j] = false => h2 (all_at hzj (by rw [hgz]; exact hf))
    rw [Int.toNat_natCast, row_kids, getD_at hc, getD_at hc', ei]
    refine ⟨by omega, by omega, hc, by omega, by omega, hc', ⟨by first | rfl | exact ⟨rfl, rfl, hr, hs, hk _ (List.getElem_mem hc)⟩ | exact ⟨rfl, hr, hs, hk _ (List.getElem_mem hc)⟩, cond_of (fun hb => hB (by simpa using hb)) (fun hb => ⟨j + 1, rfl, ⟨hc, hA (by simpa using hb)⟩, by omega⟩)⟩⟩
  · have hc : ¬ (j < ks.length) := by simpa using hc
    rw [List.take_of_length_le (by omega)] at ht
    exact h1 ht
theorem smT_loop (m : Nat) (hm : ∀ args h Q, same_t m args h Q → FSpec Try.prog 11 args h Q) (r s : List Rw) (b : Rw) (ks : List Int) (hr : TreeOk r) (hs : TreeOk s) (hk : ∀ k ∈ ks, k.toNat < m) (hl : ks.length = (kidsOf b.1).length) (hml : ks.length ≤ maxI) (he : s = r) (Q : Exit → SS → Prop)
    (h1 : kidsB ⟨r, s, b, ks⟩ = true → Q (.exit 0) (stXT r s)) (h2 : kidsB ⟨r, s, b, ks⟩ = false → Q .ret (stYT r s)) : W 2 Try.prog (.loop (lp Try.f11 0)) (stST r s b ks 0) Q := by
  unfold kidsB at h1 h2
  dsimp only at h1 h2
  subst he
  have hz : (ks.zip (kidsOf b.1)).length = ks.length := by rw [List.length_zip]; omega
  refine W_loopE (N := 2) (P := Try.prog) (body := lp Try.f11 0) (Q := Q) (fun j : Nat => stST s s b ks j) (fun j => j ≤ ks.length ∧ ((ks.zip (kidsOf b.1)).take j).all (fun p => sm (nodes s) p.1 (nodes s) p.2) = true) (fun j => ks.length - j) [0, 2, 10, 89, 90, 91] [] [8] (fun j ⟨hi, ht⟩ => ?_) 0 ⟨Nat.zero_le _, rfl⟩
  refine sx_ok (Λ := noLam) (gam_ok (l := gSame m) ⟨hm, orNil_ok has0_ok has_ok, trivial⟩) _ 0 _ _ noLam_ok ?_
  rw [vc_smTl]
  simp only [maxI] at hml
  refine cond_of (fun hc => ?_) (fun hc => ?_)
  · have hc : j < ks.length := by simpa using hc
    have hc' : j < (kidsOf b.1).length := by omega
    have ei : IntKind.i64.wrap ((j : Int) + 1) = ((j + 1 : Nat) : Int) := w64n (n := j + 1) (by omega)
    have hgz : (ks.zip (kidsOf b.1))[j]'(by omega) = (ks[j], (kidsOf b.1)[j]) := List.getElem_zip
    have hA := all_take (i := j) (by omega) ht
    rw [hgz] at hA
    have hzj : j < (ks.zip (kidsOf b.1)).length := by omega
    have hB := fun hf : sm (nodes s) ks[j] (nodes s) (kidsOf b.1)[j] = false => h2 (all_at hzj (by rw [hgz]; exact hf))
    rw [Int.toNat_natCast, row_kids, getD_at hc, getD_at hc', ei]
    refine ⟨by omega, by omega, hc, by omega, by omega, hc', ⟨by first | rfl | exact ⟨rfl, rfl, hr, hs, hk _ (List.getElem_mem hc)⟩ | exact ⟨rfl, hr, hs, hk _ (List.getElem_mem hc)⟩, cond_of (fun hb => hB (by simpa using hb)) (fun hb => ⟨j + 1, rfl, ⟨hc, hA (by simpa using hb)⟩, by omega⟩)⟩⟩
  · have hc : ¬ (j < ks.length) := by simpa using hc
    rw [List.take_of_length_le (by omega)] at ht
    exact h1 ht
theorem sm_code {r s : List Rw} (hr : TreeOk r) (hs : TreeOk s) {i k : Int} (hi : hasB r.length i = true) (hk : hasB s.length k = true) :
    ((!(locB (rowAt r i).1 (rowAt s k).1 && ((rowAt r i).2.1 == (rowAt s k).2.1 && (rowAt r i).2.2 == (rowAt s k).2.2))) = true → sm (nodes r) i (nodes s) k = false) ∧
    ((!(locB (rowAt r i).1 (rowAt s k).1 && ((rowAt r i).2.1 == (rowAt s k).2.1 && (rowAt r i).2.2 == (rowAt s k).2.2))) = false → (kidsOf (rowAt r i).1).length = (kidsOf (rowAt s k).1).length ∧ sm (nodes r) i (nodes s) k = ((kidsOf (rowAt r i).1).zip (kidsOf (rowAt s k).1)).all (fun p => sm (nodes r) p.1 (nodes s) p.2)) := by
  have hi' := hasB_iff.1 hi
  have hk' := hasB_iff.1 hk
  have hin : hasB (nodes r).length i = true := by rw [nodes_len]; exact hi
  have hkn : hasB (nodes s).length k = true := by rw [nodes_len]; exact hk
  rw [tree_at hr hi'.1 hi'.2, tree_at hs hk'.1 hk'.2]
  dsimp only
  have e := sm_eq (l := nodes r) (m := nodes s) hr.1 hin hkn
  have c := sm_cnt (l := nodes r) (m := nodes s) hr.1 hs.1 _ i k (Nat.le_refl _) hin hkn
  refine ⟨fun h => ?_, fun h => ?_⟩
  · cases hsm : sm (nodes r) i (nodes s) k with
    | false => rfl
    | true =>
      obtain ⟨c1, c2⟩ := c hsm
      rw [hsm] at e
      rw [c1, c2] at h
      simp at h
      rw [h] at e
      simp at e
  · simp only [Bool.not_eq_false', Bool.and_eq_true] at h
    rw [e, h.1, Bool.true_and]
    have hb := h.1
    simp only [locB, Bool.and_eq_true, decide_eq_true_eq] at hb
    exact ⟨hb.2, rfl⟩
theorem same_ok : ∀ (m : Nat) args h Q, same_t m args h Q → FSpec Try.prog 11 args h Q := by
  intro m
  induction m with
  | zero => exact orLen_ok (trH_ok fun _ _ Q ⟨⟨_, hw⟩, _⟩ => by obtain ⟨_, _, h⟩ := hw; omega) (trH_ok fun _ _ Q ⟨⟨_, _, hw⟩, _⟩ => by obtain ⟨_, _, h⟩ := hw; omega)
  | succ m ih =>
    have hΓ : GOK Try.prog (gam (gSame m)) := gam_ok ⟨ih, orNil_ok has0_ok has_ok, trivial⟩
    have hΛU : LOK 4 Try.prog (lam [(0, smU_l m)]) (loopL Try.f11) := lokl (l := [(0, lp Try.f11 0)]) ⟨lam_ok fun d Q ⟨a1, a2, a3, a4, a5, a6⟩ ⟨b1, b2⟩ => smU_loop m ih d.r d.s d.b d.ks a1 a2 a3 a4 a5 a6 Q b1 b2, trivial⟩
    have hΛT : LOK 2 Try.prog (lam [(0, smT_l m)]) (loopL Try.f11) := lokl (l := [(0, lp Try.f11 0)]) ⟨lam_ok fun d Q ⟨a1, a2, a3, a4, a5, a6⟩ ⟨b1, b2⟩ => smT_loop m ih d.r d.s d.b d.ks a1 a2 a3 a4 a5 a6 Q b1 b2, trivial⟩
    have hx : ∀ A : Prop, A → A ∧ A := fun A a => ⟨a, a⟩
    refine orLen_ok (trH_ok fun ((_, i, _, k, _) : Unit × Int × Unit × Int × Unit) ((n, _), s, _) Q ⟨⟨hn, hw⟩, h⟩ => ?_) (trH_ok fun ((_, i, _, k, _) : Unit × Int × Unit × Int × Unit) ((n, _), r, (n2, _), s, _) Q ⟨⟨hn, hn2, hw⟩, h⟩ => ?_)
    · dsimp only at hn hw h
      subst hn
      obtain ⟨hr, hs, hf⟩ := hw
      refine spec_body hΓ Try.func11 rfl hΛT ?_
      show body Try.prog (gam (gSame m)) (lam [(0, smT_l m)]) Try.f11 [.c (.ptr 0 0), ti i, .c (.ptr 0 0), ti k] [.cells 59 [.view tR 1 0 s.length], .row 56 tR s] _
      rw [vc_smT]
      refine ⟨rfl, hr.2.2, cond_of (fun hi => ?_) (fun hi => ⟨rfl, hs.2.2, cond_of (fun hk => ?_) (fun hk => ?_)⟩)⟩
      · rw [sm_no (by rw [nodes_len]; simp at hi; rw [hi]; rfl), nodes_len] at h
        exact ⟨rfl, hr.2.2, rfl, hs.2.2, h⟩
      · rw [sm_no (by rw [nodes_len]; simp at hk; rw [hk, Bool.and_false]), nodes_len] at h
        exact ⟨rfl, hr.2.2, rfl, hs.2.2, h⟩
      · have hi : hasB s.length i = true := by simpa using hi
        have hk : hasB s.length k = true := by simpa using hk
        have hi' := hasB_iff.1 hi
        obtain ⟨e1, e2, e3, e4, _⟩ := has_row hi hr.2.2
        obtain ⟨g1, g2, g3, g4, _⟩ := has_row hk hs.2.2
        obtain ⟨c1, c2⟩ := sm_code hr hs hi hk
        rw [e4, g4, rows_neq]
        refine ⟨e1, e2, e3, g1, g2, g3, hx _ (cond_of (fun hc => ?_) (fun hc hm => ?_))⟩
        · rw [c1 hc] at h; exact h
        · obtain ⟨d1, d2⟩ := c2 hc
          refine ⟨⟨s, s, rowAt s k, kidsOf (rowAt s i).1⟩, rfl, ⟨hr, hs, fun q hq => ?_, d1, hm, rfl⟩, fun hb => ?_, fun hb => ?_⟩
          · rw [tree_at hr hi'.1 hi'.2] at hq
            have := kid_lt hr.1 hi'.1 (by rw [nodes_len]; exact hi'.2) hq
            omega
          · unfold kidsB at hb; dsimp only at hb; rw [d2, hb] at h; exact h
          · unfold kidsB at hb; dsimp only at hb; rw [d2, hb] at h; exact h
    · dsimp only at hn hn2 hw h
      subst hn hn2
      obtain ⟨hr, hs, hf⟩ := hw
      refine spec_body hΓ Try.func11 rfl hΛU ?_
      show body Try.prog (gam (gSame m)) (lam [(0, smU_l m)]) Try.f11 [.c (.ptr 0 0), ti i, .c (.ptr 2 0), ti k] [.cells 59 [.view tR 1 0 r.length], .row 56 tR r, .cells 59 [.view tR 3 0 s.length], .row 56 tR s] _
      rw [vc_smU]
      refine ⟨rfl, hr.2.2, cond_of (fun hi => ?_) (fun hi => ⟨rfl, hs.2.2, cond_of (fun hk => ?_) (fun hk => ?_)⟩)⟩
      · rw [sm_no (by rw [nodes_len]; simp at hi; rw [hi]; rfl), nodes_len, nodes_len] at h
        exact ⟨rfl, hr.2.2, rfl, hs.2.2, h⟩
      · rw [sm_no (by rw [nodes_len, nodes_len]; simp at hk; rw [hk, Bool.and_false]), nodes_len, nodes_len] at h
        exact ⟨rfl, hr.2.2, rfl, hs.2.2, h⟩
      · have hi : hasB r.length i = true := by simpa using hi
        have hk : hasB s.length k = true := by simpa using hk
        have hi' := hasB_iff.1 hi
        obtain ⟨e1, e2, e3, e4, _⟩ := has_row hi hr.2.2
        obtain ⟨g1, g2, g3, g4, _⟩ := has_row hk hs.2.2
        obtain ⟨c1, c2⟩ := sm_code hr hs hi hk
        rw [e4, g4, rows_neq]
        refine ⟨e1, e2, e3, g1, g2, g3, hx _ (cond_of (fun hc => ?_) (fun hc hm => ?_))⟩
        · rw [c1 hc] at h; exact h
        · obtain ⟨d1, d2⟩ := c2 hc
          refine ⟨⟨r, s, rowAt s k, kidsOf (rowAt r i).1⟩, rfl, ⟨hr, hs, fun q hq => ?_, d1, hm, trivial⟩, fun hb => ?_, fun hb => ?_⟩
          · rw [tree_at hr hi'.1 hi'.2] at hq
            have := kid_lt hr.1 hi'.1 (by rw [nodes_len]; exact hi'.2) hq
            omega
          · unfold kidsB at hb; dsimp only at hb; rw [d2, hb] at h; exact h
          · unfold kidsB at hb; dsimp only at hb; rw [d2, hb] at h; exact h
end Go.Proofs.Ytmncmmdicpcgmaa.Ch
