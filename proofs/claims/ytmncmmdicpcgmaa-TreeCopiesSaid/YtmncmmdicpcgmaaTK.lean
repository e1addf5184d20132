/- Chapter 3 (tree): the reference's counts and depths, proved. No condition. -/
import Derived.Test.YtmncmmdicpcgmaaTJV
namespace Go.Proofs.Ytmncmmdicpcgmaa.Ch
open Go Go.Proofs Go.Proofs.Ytmncmmdicpcgmaa.Sx
set_option linter.unusedVariables false
set_option linter.unusedSimpArgs false

theorem upto_len (g : Int → Int) (n k : Nat) : (upto g n k).length = n + 1 := by simp [upto]
theorem upto_get (g : Int → Int) (n k j : Nat) (h : j ≤ n) (d : Int) : (upto g n k).getD j d = if 1 ≤ j ∧ j ≤ k then g (j : Int) else 0 := by
  rw [getD_at (by rw [upto_len]; omega)]
  simp [upto]
/-- The array at work on node k. -/
noncomputable def atK (g : Int → Int) (n k : Nat) (a : Int) : List Int := (upto g n (k - 1)).set k a
theorem atK_len (g : Int → Int) (n k : Nat) (a : Int) : (atK g n k a).length = n + 1 := by simp [atK, upto_len]
theorem atK_at (g : Int → Int) (n k : Nat) (a : Int) (h : k ≤ n) (d : Int) : (atK g n k a).getD k d = a := by
  rw [getD_at (by rw [atK_len]; omega)]; simp [atK]
theorem atK_kid (g : Int → Int) (n k : Nat) (a : Int) (h : k ≤ n) (q : Int) (h1 : 0 ≤ q) (h2 : q < k) (d : Int) : (atK g n k a).getD q.toNat d = if 1 ≤ q then g q else 0 := by
  have hl : q.toNat < (upto g n (k - 1)).length := by rw [upto_len]; omega
  have := upto_get g n (k - 1) q.toNat (by omega) d
  rw [getD_at hl] at this
  rw [getD_at (by rw [atK_len]; omega)]
  unfold atK
  rw [List.getElem_set_ne (by omega), this, show ((q.toNat : Nat) : Int) = q by omega]
  by_cases h3 : 1 ≤ q
  · rw [if_pos h3, if_pos (by omega)]
  · rw [if_neg h3, if_neg (by omega)]
theorem atK_set (g : Int → Int) (n k : Nat) (a b : Int) : (atK g n k a).set k b = atK g n k b := by unfold atK; rw [List.set_set]
theorem atK_full (g : Int → Int) (n k : Nat) (h1 : 1 ≤ k) (h2 : k ≤ n) : atK g n k (g (k : Int)) = upto g n k := by
  refine List.ext_getElem (by rw [atK_len, upto_len]) (fun j h3 h4 => ?_)
  rw [upto_len] at h4
  by_cases hj : k = j
  · subst hj
    simp only [atK, List.getElem_set_self]
    simp [upto, h1]
  · have e : (atK g n k (g (k : Int)))[j] = (upto g n (k - 1))[j]'(by rw [upto_len]; omega) := List.getElem_set_ne hj _
    rw [e]
    simp only [upto, List.getElem_map, List.getElem_range]
    by_cases h5 : 1 ≤ j ∧ j ≤ k
    · rw [if_pos h5, if_pos (by omega)]
    · rw [if_neg h5, if_neg (by omega)]
theorem foldl_inv {α β : Type} {f : β → α → β} (p : β → Prop) : ∀ (ks : List α) (d : β), (∀ k ∈ ks, ∀ d, p d → p (f d k)) → p d → p (ks.foldl f d)
  | [], d, _, h => h
  | k :: r, d, hk, h => foldl_inv p r _ (fun q hq => hk q (by simp [hq])) (hk k (by simp) d h)
noncomputable def sf24 (l : List Nd) (c q : Int) : Int := if q = 0 then c else min (c + gC l q) 131072
noncomputable def sf19 (l : List Nd) (d q : Int) : Int := if q = 0 then d else mx2 d (dep l q + 1)
def pf24 (c : Int) : Prop := 0 ≤ c ∧ c ≤ 131072
def pf19 (d : Int) : Prop := 1 ≤ d ∧ d ≤ 1001
theorem sf24_ok {l : List Nd} (hi : inOk l) (c q : Int) (h1 : 0 ≤ q) (h2 : q ≤ l.length) (h : pf24 c) : pf24 (sf24 l c q) ∧ mn2 (IntKind.i64.wrap (c + if 1 ≤ q then gC l q else 0)) 131072 = sf24 l c q := by
  unfold pf24 at h ⊢
  have hg : 0 ≤ gC l q ∧ gC l q ≤ 131072 := by unfold gC; omega
  unfold sf24
  rw [mn2_min]
  by_cases h0 : q = 0
  · subst h0
    rw [if_pos rfl, if_neg (by omega), w64 (by omega) (by omega)]; omega
  · rw [if_neg h0, if_pos (by omega), w64 (by omega) (by omega)]; omega
theorem sf19_ok {l : List Nd} (hi : inOk l) (c q : Int) (h1 : 0 ≤ q) (h2 : q ≤ l.length) (h : pf19 c) : pf19 (sf19 l c q) ∧ mx2 c (IntKind.i64.wrap ((if 1 ≤ q then dep l q else 0) + 1)) = sf19 l c q := by
  obtain ⟨hv, hl, _⟩ := hi
  unfold pf19 at h ⊢
  unfold sf19
  by_cases h0 : q = 0
  · subst h0
    rw [if_pos rfl, if_neg (by omega), w64 (by omega) (by omega)]
    unfold mx2
    rw [if_neg (by omega)]; omega
  · have := dep_le hv _ q (Nat.le_refl _) (by omega) h2
    rw [if_neg h0, if_pos (by omega), w64 (by omega) (by omega)]
    unfold mx2
    split <;> omega
theorem sf24_all {l : List Nd} (hi : inOk l) {k : Int} (h1 : 1 ≤ k) (h2 : k ≤ l.length) : (kidsOf (ndAt l k)).foldl (sf24 l) 1 = gC l k := by
  have h := sum_cut (l := l) 131072 (by omega) (gC l) (kidsOf (ndAt l k)) 1 (fun q _ _ => rfl) (fun q hq => (kid_lt hi.1 h1 h2 hq).1) 1 (by omega)
  show (kidsOf (ndAt l k)).foldl (fun c k => if k = 0 then c else min (c + gC l k) 131072) 1 = _
  rw [h]
  unfold gC cnt
  rw [pre_eq hi.1 h1 h2, List.length_cons]
  congr 2; omega
theorem sf19_all {l : List Nd} (hi : inOk l) {k : Int} (h1 : 1 ≤ k) (h2 : k ≤ l.length) : (kidsOf (ndAt l k)).foldl (sf19 l) 1 = dep l k := (dep_eq hi.1 h1 h2).symm
theorem in24_loop (l : List Nd) (i : Int) (k : Nat) (hi : inOk l) (h1 : 1 ≤ k) (h2 : k ≤ l.length) (Q : Exit → SS → Prop) (hq : Q (.exit 2) (stO24 l i (upto (gC l) l.length k) k)) : W 0 Try.prog (.loop (lpIn (lp Try.f24 0) 0 0)) (stI24 l i ((upto (gC l) l.length (k - 1)).set k 1) k 0) Q := by
  have hkid : ∀ q ∈ kidsOf (ndAt l k), 0 ≤ q ∧ q < k := fun q h => kid_lt hi.1 (by omega) (by omega) h
  have hlen : (kidsOf (ndAt l k)).length ≤ 65536 := by
    refine hi.2.2 _ ?_
    unfold ndAt
    rw [getD_at (show ((k : Int) - 1).toNat < l.length by omega)]
    exact List.getElem_mem _
  have hacc : ∀ j, pf24 (((kidsOf (ndAt l k)).take j).foldl (sf24 l) 1) := fun j => foldl_inv pf24 _ 1 (fun q hq d hd => (sf24_ok hi d q (hkid q (List.mem_of_mem_take hq)).1 (by have := (hkid q (List.mem_of_mem_take hq)).2; omega) hd).1) (by unfold pf24; omega)
  have hl := hi.2.1
  refine W_loopE (N := 0) (P := Try.prog) (body := lpIn (lp Try.f24 0) 0 0) (Q := Q) (fun j : Nat => stI24 l i (atK (gC l) l.length k (((kidsOf (ndAt l k)).take j).foldl (sf24 l) 1)) k j) (fun j => j ≤ (kidsOf (ndAt l k)).length) (fun j => (kidsOf (ndAt l k)).length - j) [0, 1, 5, 6, 7] [0, 1, 5, 6] [] (fun j hj => ?_) 0 (Nat.zero_le _)
  refine sx_ok (Λ := noLam) gok0 _ 2 _ _ noLam_ok ?_
  rw [vc_in24]
  have ek : IntKind.i64.wrap ((k : Int) - 1) = (k : Int) - 1 := w64 (by omega) (by omega)
  have hn : l.getD ((k : Int) - 1).toNat tN.dft = ndAt l k := rfl
  rw [ek, hn, atK_len, Int.toNat_natCast, Nat.zero_add, atK_at _ _ _ _ h2, atK_set]
  refine ⟨by omega, by omega, by omega, fun hm => cond_of (fun hc => ?_) (fun hc => ?_)⟩
  · have hc : j < (kidsOf (ndAt l k)).length := by simpa [kidsOf] using hc
    have ei : IntKind.i64.wrap ((j : Int) + 1) = ((j + 1 : Nat) : Int) := w64n (n := j + 1) (by omega)
    have hs := foldl_take (sf24 l) 1 _ j hc
    have hq := hkid _ (List.getElem_mem hc)
    have hj := hacc j
    rw [Int.toNat_natCast, show (ndAt l k).snd.snd.snd = kidsOf (ndAt l k) from rfl, getD_at hc, Nat.zero_add, atK_kid _ _ _ _ h2 _ hq.1 hq.2, ei, (sf24_ok hi _ _ hq.1 (by omega) hj).2, ← hs]
    exact ⟨by omega, by omega, by omega, by omega, by omega, by omega, by omega, by omega, hc, by omega, by omega, by omega, by omega, by omega, by omega, j + 1, by unfold stI24; rw [atK_len], hc, by omega⟩
  · have hc : ¬ (j < (kidsOf (ndAt l k)).length) := by simpa [kidsOf] using hc
    rw [List.take_of_length_le (by omega), sf24_all hi (by omega) (by omega), atK_full _ _ _ h1 h2]
    unfold stO24 at hq
    rw [upto_len] at hq
    exact hq
theorem in24_ok : LOK 0 Try.prog (lam [(2, in24_l)]) [(2, lpIn (lp Try.f24 0) 0 0)] := lokl (l := [(2, lpIn (lp Try.f24 0) 0 0)]) ⟨lam_ok fun x Q ⟨a1, a2, a3⟩ a => in24_loop x.1 x.2.1 x.2.2 a1 a2 a3 Q a, trivial⟩
theorem out24_loop (l : List Nd) (i : Int) (hi : inOk l) (h1 : 1 ≤ i) (h2 : i ≤ l.length) (Q : Exit → SS → Prop) (hq : Q (.exit 0) (stX24 i (upto (gC l) l.length i.toNat))) : W 0 Try.prog (.loop (lp Try.f24 0)) (stO24 l i (upto (gC l) l.length 0) 1) Q := by
  have hl := hi.2.1
  refine W_loopE (N := 0) (P := Try.prog) (body := lp Try.f24 0) (Q := Q) (fun k : Nat => stO24 l i (upto (gC l) l.length k) (k + 1)) (fun k => k ≤ i) (fun k => i.toNat - k) [0, 1, 5, 6] [1, 5] [] (fun k hk => ?_) 0 (by show ((0 : Nat) : Int) ≤ i; omega)
  have hk : (k : Int) ≤ i := hk
  refine sx_ok (Λ := lam [(2, in24_l)]) gok0 _ 0 _ _ in24_ok ?_
  rw [vc_out24]
  rw [upto_len, Int.toNat_natCast, Nat.zero_add]
  refine cond_of (fun hc => ?_) (fun hc => ?_)
  · have hc : ((k + 1 : Nat) : Int) ≤ i := by simpa using hc
    refine ⟨by omega, by omega, by omega, (l, i, k + 1), ?_, ⟨hi, by show 1 ≤ k + 1; omega, by show k + 1 ≤ l.length; omega⟩, k + 1, ?_, hc, by omega⟩
    · dsimp only
      rw [List.length_set, upto_len, Nat.add_sub_cancel]; rfl
    · dsimp only
      rw [show IntKind.i64.wrap (((k + 1 : Nat) : Int) + 1) = ((k + 1 + 1 : Nat) : Int) from w64n (n := k + 1 + 1) (by omega)]
  · have hc : ¬ (((k + 1 : Nat) : Int) ≤ i) := by simpa using hc
    unfold stX24 at hq
    rw [show i.toNat = k by omega, upto_len] at hq
    exact hq
theorem upto_zero24 (l : List Nd) : upto (gC l) l.length 0 = List.replicate (l.length + 1) 0 := by
  refine List.ext_getElem (by rw [upto_len]; simp) (fun j h3 h4 => ?_)
  simp only [upto, List.getElem_map, List.getElem_range, List.getElem_replicate]
  rw [if_neg (by omega)]
theorem in19_loop (l : List Nd) (i : Int) (k : Nat) (hi : inOk l) (h1 : 1 ≤ k) (h2 : k ≤ l.length) (Q : Exit → SS → Prop) (hq : Q (.exit 2) (stO19 l i (upto (dep l) l.length k) k)) : W 0 Try.prog (.loop (lpIn (lp Try.f19 0) 0 0)) (stI19 l i ((upto (dep l) l.length (k - 1)).set k 1) k 0) Q := by
  have hkid : ∀ q ∈ kidsOf (ndAt l k), 0 ≤ q ∧ q < k := fun q h => kid_lt hi.1 (by omega) (by omega) h
  have hlen : (kidsOf (ndAt l k)).length ≤ 65536 := by
    refine hi.2.2 _ ?_
    unfold ndAt
    rw [getD_at (show ((k : Int) - 1).toNat < l.length by omega)]
    exact List.getElem_mem _
  have hacc : ∀ j, pf19 (((kidsOf (ndAt l k)).take j).foldl (sf19 l) 1) := fun j => foldl_inv pf19 _ 1 (fun q hq d hd => (sf19_ok hi d q (hkid q (List.mem_of_mem_take hq)).1 (by have := (hkid q (List.mem_of_mem_take hq)).2; omega) hd).1) (by unfold pf19; omega)
  have hl := hi.2.1
  refine W_loopE (N := 0) (P := Try.prog) (body := lpIn (lp Try.f19 0) 0 0) (Q := Q) (fun j : Nat => stI19 l i (atK (dep l) l.length k (((kidsOf (ndAt l k)).take j).foldl (sf19 l) 1)) k j) (fun j => j ≤ (kidsOf (ndAt l k)).length) (fun j => (kidsOf (ndAt l k)).length - j) [0, 1, 5, 6, 7] [0, 1, 5, 6] [] (fun j hj => ?_) 0 (Nat.zero_le _)
  refine sx_ok (Λ := noLam) gok0 _ 2 _ _ noLam_ok ?_
  rw [vc_in19]
  have ek : IntKind.i64.wrap ((k : Int) - 1) = (k : Int) - 1 := w64 (by omega) (by omega)
  have hn : l.getD ((k : Int) - 1).toNat tN.dft = ndAt l k := rfl
  rw [ek, hn, atK_len, Int.toNat_natCast, Nat.zero_add, atK_at _ _ _ _ h2, atK_set]
  refine ⟨by omega, by omega, by omega, fun hm => cond_of (fun hc => ?_) (fun hc => ?_)⟩
  · have hc : j < (kidsOf (ndAt l k)).length := by simpa [kidsOf] using hc
    have ei : IntKind.i64.wrap ((j : Int) + 1) = ((j + 1 : Nat) : Int) := w64n (n := j + 1) (by omega)
    have hs := foldl_take (sf19 l) 1 _ j hc
    have hq := hkid _ (List.getElem_mem hc)
    have hj := hacc j
    rw [Int.toNat_natCast, show (ndAt l k).snd.snd.snd = kidsOf (ndAt l k) from rfl, getD_at hc, Nat.zero_add, atK_kid _ _ _ _ h2 _ hq.1 hq.2, ei, (sf19_ok hi _ _ hq.1 (by omega) hj).2, ← hs]
    exact ⟨by omega, by omega, by omega, by omega, by omega, by omega, by omega, by omega, hc, by omega, by omega, by omega, by omega, by omega, by omega, j + 1, by unfold stI19; rw [atK_len], hc, by omega⟩
  · have hc : ¬ (j < (kidsOf (ndAt l k)).length) := by simpa [kidsOf] using hc
    rw [List.take_of_length_le (by omega), sf19_all hi (by omega) (by omega), atK_full _ _ _ h1 h2]
    unfold stO19 at hq
    rw [upto_len] at hq
    exact hq
theorem in19_ok : LOK 0 Try.prog (lam [(2, in19_l)]) [(2, lpIn (lp Try.f19 0) 0 0)] := lokl (l := [(2, lpIn (lp Try.f19 0) 0 0)]) ⟨lam_ok fun x Q ⟨a1, a2, a3⟩ a => in19_loop x.1 x.2.1 x.2.2 a1 a2 a3 Q a, trivial⟩
theorem out19_loop (l : List Nd) (i : Int) (hi : inOk l) (h1 : 1 ≤ i) (h2 : i ≤ l.length) (Q : Exit → SS → Prop) (hq : Q (.exit 0) (stX19 i (upto (dep l) l.length i.toNat))) : W 0 Try.prog (.loop (lp Try.f19 0)) (stO19 l i (upto (dep l) l.length 0) 1) Q := by
  have hl := hi.2.1
  refine W_loopE (N := 0) (P := Try.prog) (body := lp Try.f19 0) (Q := Q) (fun k : Nat => stO19 l i (upto (dep l) l.length k) (k + 1)) (fun k => k ≤ i) (fun k => i.toNat - k) [0, 1, 5, 6] [1, 5] [] (fun k hk => ?_) 0 (by show ((0 : Nat) : Int) ≤ i; omega)
  have hk : (k : Int) ≤ i := hk
  refine sx_ok (Λ := lam [(2, in19_l)]) gok0 _ 0 _ _ in19_ok ?_
  rw [vc_out19]
  rw [upto_len, Int.toNat_natCast, Nat.zero_add]
  refine cond_of (fun hc => ?_) (fun hc => ?_)
  · have hc : ((k + 1 : Nat) : Int) ≤ i := by simpa using hc
    refine ⟨by omega, by omega, by omega, (l, i, k + 1), ?_, ⟨hi, by show 1 ≤ k + 1; omega, by show k + 1 ≤ l.length; omega⟩, k + 1, ?_, hc, by omega⟩
    · dsimp only
      rw [List.length_set, upto_len, Nat.add_sub_cancel]; rfl
    · dsimp only
      rw [show IntKind.i64.wrap (((k + 1 : Nat) : Int) + 1) = ((k + 1 + 1 : Nat) : Int) from w64n (n := k + 1 + 1) (by omega)]
  · have hc : ¬ (((k + 1 : Nat) : Int) ≤ i) := by simpa using hc
    unfold stX19 at hq
    rw [show i.toNat = k by omega, upto_len] at hq
    exact hq
theorem upto_zero19 (l : List Nd) : upto (dep l) l.length 0 = List.replicate (l.length + 1) 0 := by
  refine List.ext_getElem (by rw [upto_len]; simp) (fun j h3 h4 => ?_)
  simp only [upto, List.getElem_map, List.getElem_range, List.getElem_replicate]
  rw [if_neg (by omega)]
theorem rcount_ok : ∀ args h Q, rcount_t args h Q → FSpec Try.prog 24 args h Q := trH_ok fun ((l, i, _) : List Nd × Int × Unit) _ Q ⟨⟨hi, h1, h2⟩, h⟩ => by
  dsimp only at hi h
  have h1 : 1 ≤ i := h1
  have h2 : i ≤ (l.length : Int) := h2
  have hl := hi.2.1
  refine spec_body (Λ := lam [(0, out24_l)]) gok0 Try.func24 rfl ?_ ?_
  · exact lokl (l := [(0, lp Try.f24 0)]) ⟨lam_ok fun x Q ⟨a1, a2, a3⟩ a => out24_loop x.1 x.2 a1 a2 a3 Q a, trivial⟩
  · show body Try.prog (gam []) (lam [(0, out24_l)]) Try.f24 [.c (.row tN l), ti i] [] _
    rw [vc_f24]
    intro hm
    have ek : IntKind.i64.wrap ((l.length : Int) + 1) = ((l.length + 1 : Nat) : Int) := w64n (n := l.length + 1) (by omega)
    rw [ek, Int.toNat_natCast]
    refine ⟨by omega, by omega, by omega, (l, i), ?_, ⟨hi, h1, h2⟩, ?_⟩
    · dsimp only; rw [upto_zero24, List.length_replicate]; rfl
    · dsimp only
      rw [upto_len, Nat.zero_add, upto_get _ _ _ _ (by omega), if_pos (by omega), show ((i.toNat : Nat) : Int) = i by omega]
      exact ⟨by omega, by omega, by omega, h⟩
theorem rdepth_ok : ∀ args h Q, rdepth_t args h Q → FSpec Try.prog 19 args h Q := trH_ok fun ((l, i, _) : List Nd × Int × Unit) _ Q ⟨⟨hi, h1⟩, h⟩ => by
  dsimp only at hi h
  have hl := hi.2.1
  refine spec_body (Λ := lam [(0, out19_l)]) gok0 Try.func19 rfl ?_ ?_
  · exact lokl (l := [(0, lp Try.f19 0)]) ⟨lam_ok fun x Q ⟨a1, a2, a3⟩ a => out19_loop x.1 x.2 a1 a2 a3 Q a, trivial⟩
  · show body Try.prog (gam []) (lam [(0, out19_l)]) Try.f19 [.c (.row tN l), ti i] [] _
    rw [vc_f19]
    refine cond_of (fun hc => ?_) (fun hc hm => ?_)
    · have hb : hasB l.length i = false := by
        simp only [hasB, Bool.or_eq_true, decide_eq_true_eq, Bool.and_eq_false_iff, decide_eq_false_iff_not] at hc ⊢; omega
      rw [hb] at h; exact h
    · simp only [Bool.or_eq_false_iff, decide_eq_false_iff_not] at hc
      have hb : hasB l.length i = true := by
        simp only [hasB, Bool.and_eq_true, decide_eq_true_eq]; omega
      rw [if_pos hb] at h
      have ek : IntKind.i64.wrap ((l.length : Int) + 1) = ((l.length + 1 : Nat) : Int) := w64n (n := l.length + 1) (by omega)
      rw [ek, Int.toNat_natCast]
      refine ⟨by omega, by omega, by omega, (l, i), ?_, ⟨hi, by show 1 ≤ i; omega, by show i ≤ (l.length : Int); omega⟩, ?_⟩
      · dsimp only; rw [upto_zero19, List.length_replicate]; rfl
      · dsimp only
        rw [upto_len, Nat.zero_add, upto_get _ _ _ _ (by omega), if_pos (by omega), show ((i.toNat : Nat) : Int) = i by omega]
        exact ⟨by omega, by omega, by omega, h⟩
end Go.Proofs.Ytmncmmdicpcgmaa.Ch
