/- Chapter 11 (code): the law CodeRaw: proved. No condition. -/
import Derived.Test.YtkpepieepdmjpaaQV
namespace Go.Proofs.Ytkpepieepdmjpaa.Ch
open Go Go.Proofs Go.Proofs.Ytkpepieepdmjpaa.Sx
set_option linter.unusedVariables false
set_option linter.unusedSimpArgs false

/-! ### where it goes on -/
theorem comp_mem {l : List Int} {r : Int} (h : r ∈ compV l) : r ∈ l := by
  unfold compV Lib.compact Lib.compactUpTo at h
  obtain ⟨j, hj, rfl⟩ := List.mem_map.1 h
  have hj := List.mem_range.1 (List.mem_filter.1 hj).1
  rw [getElem!_pos l.toArray j (by simpa using hj)]
  simp
theorem sort_mem {l : List Int} {r : Int} (h : r ∈ sortV l) : r ∈ l := by
  unfold sortV at h
  exact List.mem_mergeSort.1 h
theorem place_lt {l : List Int} {n : Nat} {k : Int} (h : 0 ≤ placeV l n k) : placeV l n k < (n : Int) := by
  unfold placeV at h ⊢
  split at h
  · omega
  · rename_i hh
    rw [if_neg hh]
    have : ¬ (n : Int) ≤ l.getD k.toNat 0 := fun e => hh (.inr (.inr e))
    omega
theorem res_op (l : List Int) (n : Nat) (x : Ins) : (resV l n x).1.1 = x.1 := by
  unfold resV
  split
  · rfl
  · split <;> rfl
theorem res_small {l : List Int} {n : Nat} {x : Ins} (h : smallI x) : smallI (resV l n x).1 := by
  unfold resV
  split
  · exact h
  · split
    · exact ⟨h.1, by show (rArmsV l n x.arms).length ≤ 20; unfold rArmsV; rw [List.length_map]; exact h.2⟩
    · exact h
theorem res_len (l : List Int) (n : Nat) (c : List Ins) : (resL l n c).length = c.length := by unfold resL; rw [List.length_map]
theorem res_at {l : List Int} {n : Nat} {c : List Ins} {i : Nat} (h : i < c.length) : (resL l n c).getD i tIns.dft = (resV l n (c.getD i tIns.dft)).1 := by
  unfold resL
  rw [getD_at (by rw [List.length_map]; exact h), List.getElem_map, getD_at h]
theorem next_in {b : Bld} (hs : ∀ x ∈ b.1, smallI x) (hb : b.1.length ≤ 1000) (hr : resA b.2.1 b.1.length b.1 = true) (he : endsV (b.1.getD (b.1.length - 1) tIns.dft) = true) : NextIn (resL b.2.1 b.1.length b.1) := by
  intro i hi
  rw [res_len] at hi ⊢
  rw [res_at hi]
  have hm : b.1.getD i tIns.dft ∈ b.1 := by rw [getD_at hi]; exact List.getElem_mem _
  refine ⟨res_small (hs _ hm), fun r hr2 => ?_⟩
  have hok : (resV b.2.1 b.1.length (b.1.getD i tIns.dft)).2 = true := by
    unfold resA at hr
    exact List.all_eq_true.1 hr _ hm
  have hlast : i + 1 = b.1.length → endsV (b.1.getD i tIns.dft) = true := fun e => by rw [show i = b.1.length - 1 by omega]; exact he
  generalize b.1.getD i tIns.dft = x at hok hr2 hlast
  have hop := res_op b.2.1 b.1.length x
  unfold nextV at hr2
  split at hr2
  · simp at hr2
  · rename_i h1
    have hr2 := sort_mem (comp_mem hr2)
    have hw : IntKind.i64.wrap ((i : Int) + 1) = (i : Int) + 1 := w64 (by omega) (by omega)
    have h1 : inL [23, 26] x.1 = false := by
      rw [← Bool.not_eq_true]
      show ¬ inL [23, 26] x.1 = true
      rw [← hop]; exact h1
    have nxt : x.1 ≠ 19 → x.1 ≠ 37 → ∀ r, r = IntKind.i64.wrap ((i : Int) + 1) → 0 ≤ r ∧ r < (b.1.length : Int) := fun n1 n2 r e => by
      rw [hw] at e
      have : i + 1 ≠ b.1.length := fun e2 => by
        have := hlast e2
        unfold inL at h1
        simp only [List.any_cons, List.any_nil, Bool.or_false, Bool.or_eq_false_iff, beq_eq_false_iff_ne] at h1
        unfold endsV at this
        simp [n1, n2, h1.1, h1.2] at this
      omega
    unfold nextR Ins.op at hr2
    rw [hop] at hr2
    by_cases c1 : x.1 = 19
    · rw [if_pos c1] at hr2
      have e : resV b.2.1 b.1.length x = (x.setTo (placeV b.2.1 b.1.length x.to), decide (0 ≤ placeV b.2.1 b.1.length x.to)) := by unfold resV Ins.op; rw [if_pos (.inl c1)]
      rw [e] at hok hr2
      have h0 := of_decide_eq_true hok
      have hr2 : r = placeV b.2.1 b.1.length x.to := List.mem_singleton.1 hr2
      rw [hr2]
      exact ⟨h0, place_lt h0⟩
    rw [if_neg c1] at hr2
    by_cases c2 : x.1 = 20
    · rw [if_pos c2] at hr2
      have e : resV b.2.1 b.1.length x = (x.setTo (placeV b.2.1 b.1.length x.to), decide (0 ≤ placeV b.2.1 b.1.length x.to)) := by unfold resV Ins.op; rw [if_pos (.inr c2)]
      rw [e] at hok hr2
      have h0 := of_decide_eq_true hok
      rcases List.mem_cons.1 hr2 with hr2 | hr2
      · have hr2 : r = placeV b.2.1 b.1.length x.to := hr2
        rw [hr2]
        exact ⟨h0, place_lt h0⟩
      · exact nxt c1 (by rw [c2]; decide) r (by simpa using hr2)
    rw [if_neg c2] at hr2
    by_cases c3 : x.1 = 37
    · rw [if_pos c3] at hr2
      have e : resV b.2.1 b.1.length x = (x.setA (rArmsV b.2.1 b.1.length x.arms), (rArmsV b.2.1 b.1.length x.arms).all fun a => decide (0 ≤ a.to)) := by unfold resV Ins.op; rw [if_neg (by rintro (h | h); exact c1 h; exact c2 h), if_pos c3]
      rw [e] at hok hr2
      have hr2 : r ∈ (rArmsV b.2.1 b.1.length x.arms).map Arm.to := hr2
      obtain ⟨a, ha, rfl⟩ := List.mem_map.1 hr2
      have h0 : 0 ≤ a.to := of_decide_eq_true (List.all_eq_true.1 hok a ha)
      unfold rArmsV at ha
      obtain ⟨a0, _, rfl⟩ := List.mem_map.1 ha
      have h0 : 0 ≤ placeV b.2.1 b.1.length a0.to := h0
      exact ⟨h0, place_lt h0⟩
    rw [if_neg c3] at hr2
    exact nxt c1 c3 r (by simpa using hr2)
/-! ### loops -/
theorem r5_step (c : List Ins) (i : Nat) (l : List Int) (Q : Exit → SS → Prop) (hl : ∀ r ∈ l, 0 ≤ r ∧ r < (c.length : Int)) (hq : Q (.exit 5) (⟨150, [(4, .p (ti c.length)), (7, .p (.c (.view tIns 0 0 c.length))), (11, .p (ti i))], [.row 38 tIns c]⟩ : SS)) : W 0 Try.prog (.loop (lpIn (lp Try.f5 1) 3 0)) (stR5 c i l 0) Q := by
  refine W_all (stR5 c i l) l.length (fun _ => True) [4, 7, 11, 12, 13] [4, 7, 11] [2] (fun j hj ho K hK => ?_)
  refine sx_ok (Λ := noLam) gok0 _ 5 _ _ noLam_ok ?_
  rw [vc_r5L]
  intro hm
  simp only [maxI] at hm
  refine cond_of (fun hc => ?_) (fun _ => hq)
  have hc : j < l.length := by have := of_decide_eq_true hc; omega
  have ei : IntKind.i64.wrap ((j : Int) + 1) = ((j + 1 : Nat) : Int) := w64n (n := j + 1) (by omega)
  rw [ei, Int.toNat_natCast]
  have hd : l.getD j tI.dft ∈ l := by rw [getD_at hc]; exact List.getElem_mem _
  have hb := hl _ hd
  generalize l.getD j tI.dft = r at hb ⊢
  have h1 : (0 : Int) ≤ r := hb.1
  have h2 : r < (c.length : Int) := hb.2
  refine ⟨by omega, by omega, hc, fun _ => ⟨by omega, by omega, trivial⟩, fun _ => ⟨hc, trivial⟩, cond_of (fun hbad => ?_) (fun _ => hK hc trivial)⟩
  exfalso
  rw [Bool.or_eq_true, decide_eq_true_eq, decide_eq_true_eq] at hbad
  rcases hbad with h | h
  · have h : r < 0 := h
    omega
  · have h : (c.length : Int) ≤ r := h
    omega
theorem r3_step (c : List Ins) (Q : Exit → SS → Prop) (hl : c.length ≤ 1000) (hn : NextIn c) (hq : Q (.exit 3) (⟨150, [], []⟩ : SS)) : W 0 Try.prog (.loop (lp Try.f5 1)) (stR3 c 0) Q := by
  refine W_all (stR3 c) c.length (fun _ => True) [4, 7, 11] [] [2] (fun i hi ho K hK => ?_)
  refine sx_ok (Λ := lam [(5, r5_l)]) (Γ := gam [(20, [], next_t)]) (gam_ok ⟨next_ok, trivial⟩) _ 3 _ _ (lokl (l := [(5, lpIn (lp Try.f5 1) 3 0)]) ⟨lam_ok (fun z Q a hq => r5_step z.1 z.2.1 z.2.2 Q a hq), trivial⟩) ?_
  rw [vc_r3L]
  refine cond_of (fun hc => ?_) (fun _ => hq)
  have hc : i < c.length := by have := of_decide_eq_true hc; omega
  have ei : IntKind.i64.wrap ((i : Int) + 1) = ((i + 1 : Nat) : Int) := w64n (n := i + 1) (by omega)
  rw [Int.toNat_natCast, Nat.zero_add]
  obtain ⟨h1, h2⟩ := hn i hc
  refine ⟨by omega, by omega, hc, h1, (c, i, nextV (c.getD i tIns.dft) i), rfl, h2, ?_⟩
  dsimp only
  rw [ei]
  exact hK hc trivial
theorem gokRw : GOK Try.prog (gam gRw) := gam_ok ⟨great_ok, reg_ok, label_ok, mark_ok, put_ok, stmt_ok, add_ok, trivial⟩
theorem rw_step (ls : List Stp) (Q : Exit → SS → Prop) (hq : ∀ b : Bld, InvB b 60 → Q (.exit 0) (⟨150, [(3, .p (.c (.ptr 0 0))), (4, .p (ti b.1.length))], bH b⟩ : SS)) (h2 : Q .ret (⟨150, [(2, .p (tb true))], []⟩ : SS)) : W 0 Try.prog (.loop (lp Try.f5 0)) (stRw ls ([], [], 0, [], -1) 0) Q := by
  refine W_loopE (fun z : Bld × Nat => stRw ls z.1 z.2) (fun z => InvB z.1 z.2 ∧ z.2 ≤ 60) (fun z => 60 - z.2) [0, 3, 4, 5] [3, 4] [2] ?_ (([], [], 0, [], -1), 0) ⟨⟨Nat.le_refl _, Nat.le_refl _, Nat.le_refl _, Int.le_refl _, by decide, fun x hx => by simp at hx⟩, Nat.zero_le _⟩
  rintro ⟨b, i⟩ ⟨hI, hi⟩
  dsimp only at hI hi ⊢
  refine sx_ok (Λ := noLam) gokRw _ 0 _ _ noLam_ok ?_
  rw [vc_rwL]
  intro _
  obtain ⟨i1, i2, i3, i4, i5, i6⟩ := hI
  refine cond_of (fun hc => ?_) (fun _ => hq b ⟨by omega, by omega, by omega, i4, by omega, i6⟩)
  rw [Bool.and_eq_true, decide_eq_true_eq, decide_eq_true_eq] at hc
  have hc1 : i < ls.length := by omega
  have hc2 : i < 60 := by omega
  have ei : IntKind.i64.wrap ((i : Int) + 1) = ((i + 1 : Nat) : Int) := w64n (n := i + 1) (by omega)
  rw [ei, Int.toNat_natCast]
  generalize ls.getD i tStp.dft = x
  have hsm : smallB b := ⟨by omega, by omega, by omega⟩
  have hok : okB ((b.1.length, b.2.1.length, b.2.2.1, b.2.2.2.1.length, b.2.2.2.2, ()), b.1, b.2.1, b.2.2.2.1, ()) := ⟨rfl, rfl, rfl⟩
  have go : ∀ b2 : Bld, InvB b2 (i + 1) → ∃ y : Bld × Nat, stRw ls b2 (i + 1) = stRw ls y.1 y.2 ∧ (InvB y.1 y.2 ∧ y.2 ≤ 60) ∧ 60 - y.2 < 60 - i := fun b2 h => ⟨(b2, i + 1), rfl, ⟨h, hc2⟩, by show 60 - (i + 1) < _; omega⟩
  refine ⟨by omega, by omega, hc1, cond_of (fun _ => h2) (fun hg => ?_)⟩
  rw [Bool.or_eq_false_iff] at hg
  have hxs := great_small hg.1
  refine cond_of (fun _ => ⟨⟨hok, hsm⟩, cond_of (fun e => ?_) (fun _ => ?_)⟩) (fun _ => cond_of (fun _ => ⟨⟨hok, hsm⟩, ?_⟩) (fun _ => cond_of (fun _ => ⟨⟨hok, hsm⟩, ?_⟩) (fun _ => cond_of (fun _ => ⟨⟨hok, hsm, hxs⟩, ?_⟩) (fun _ => cond_of (fun _ => ⟨hok, ?_⟩) (fun _ => ⟨⟨hok, hsm⟩, ?_⟩)))))
  · exfalso
    have e : b.2.2.1 < 0 := of_decide_eq_true e
    omega
  · have hw : IntKind.i64.wrap (b.2.2.1 + min (max x.2.1 0) 65537) = b.2.2.1 + min (max x.2.1 0) 65537 := w64 (by omega) (by omega)
    exact go (b.1, b.2.1, IntKind.i64.wrap (b.2.2.1 + min (max x.2.1 0) 65537), b.2.2.2) ⟨by show b.1.length ≤ _; omega, by show b.2.1.length ≤ _; omega, by show b.2.2.2.1.length ≤ _; omega, by show 0 ≤ IntKind.i64.wrap _; rw [hw]; omega, by show IntKind.i64.wrap _ ≤ _; rw [hw]; omega, i6⟩
  · exact go (b.1, b.2.1 ++ [-1], b.2.2) ⟨by show b.1.length ≤ _; omega, by show (b.2.1 ++ [-1]).length ≤ _; rw [List.length_append]; show _ + 1 ≤ _; omega, by show b.2.2.2.1.length ≤ _; omega, i4, by show b.2.2.1 ≤ _; omega, i6⟩
  · have hm : (markV b.2.1 b.1.length x.2.1).length = b.2.1.length := by unfold markV; split; exact List.length_set; rfl
    exact go (b.1, markV b.2.1 b.1.length x.2.1, b.2.2) ⟨by show b.1.length ≤ _; omega, by show (markV b.2.1 b.1.length x.2.1).length ≤ _; omega, by show b.2.2.2.1.length ≤ _; omega, i4, by show b.2.2.1 ≤ _; omega, i6⟩
  · have hn : IntKind.i64.wrap ((b.1.length : Int) + 1) = ((b.1.length + 1 : Nat) : Int) := w64n (n := b.1.length + 1) (by omega)
    have hln : (b.1 ++ [Ins.setS x.2.2 b.2.2.2.2]).length = b.1.length + 1 := by simp
    have := go (b.1 ++ [Ins.setS x.2.2 b.2.2.2.2], b.2) ⟨by show (b.1 ++ [Ins.setS x.2.2 b.2.2.2.2]).length ≤ _; omega, by show b.2.1.length ≤ _; omega, by show b.2.2.2.1.length ≤ _; omega, i4, by show b.2.2.1 ≤ _; omega, fun y hy => by
      have hy : y ∈ b.1 ++ [Ins.setS x.2.2 b.2.2.2.2] := hy
      rcases List.mem_append.1 hy with hy | hy
      · exact i6 y hy
      · rw [List.mem_singleton] at hy; subst hy; exact hxs⟩
    rw [hn, ← hln]
    exact this
  · exact go (b.1, b.2.1, b.2.2.1, b.2.2.2.1, x.2.1) ⟨by show b.1.length ≤ _; omega, by show b.2.1.length ≤ _; omega, by show b.2.2.2.1.length ≤ _; omega, i4, by show b.2.2.1 ≤ _; omega, i6⟩
  · exact go (b.1, b.2.1, b.2.2.1, b.2.2.2.1 ++ [_], b.2.2.2.2) ⟨by show b.1.length ≤ _; omega, by show b.2.1.length ≤ _; omega, by show (b.2.2.2.1 ++ [_]).length ≤ _; rw [List.length_append]; show _ + 1 ≤ _; omega, i4, by show b.2.2.1 ≤ _; omega, i6⟩
theorem raw_law (ls : List Stp) : FSpec Try.prog 5 [.c (.row tStp ls)] [] (fun r h' => r = .p (.c (.bool true))) := by
  refine spec_body (Γ := gam gRa) (Λ := lam [(0, rw_l), (3, r3_l)]) (gam_ok ⟨awake_ok, new_ok, fin_ok, ends_ok, trivial⟩) Try.func5 rfl (lokl (l := [(0, lp Try.f5 0), (3, lp Try.f5 1)]) ⟨lam_ok (fun ls Q _ ⟨a1, a2⟩ => rw_step ls Q a1 a2), lam_ok (fun c Q ⟨a1, a2⟩ hq => r3_step c Q a1 a2 hq), trivial⟩) ?_
  show body Try.prog (gam gRa) (lam [(0, rw_l), (3, r3_l)]) Try.f5 [.c (.row tStp ls)] [] _
  rw [vc_lraw]
  refine ⟨ls, rfl, trivial, fun b ⟨i1, i2, i3, i4, i5, i6⟩ => ⟨⟨⟨rfl, rfl, rfl⟩, ⟨by show b.1.length ≤ _; omega, by show b.2.1.length ≤ _; omega, by show b.2.2.2.1.length ≤ _; omega⟩, i6⟩, fun h0 => ?_, fun hne => ?_⟩, rfl⟩
  · have h0 : finE b = 0 := h0
    have hfe : ¬ (b.1.length = 0 ∨ endsV (b.1.getD (b.1.length - 1) tIns.dft) = false ∨ resA b.2.1 b.1.length b.1 = false) := fun hh => by
      unfold finE at h0
      rw [if_pos hh] at h0
      exact absurd h0 (by decide)
    have n0 : b.1.length ≠ 0 := fun e => hfe (.inl e)
    have he : endsV (b.1.getD (b.1.length - 1) tIns.dft) = true := by
      cases h : endsV (b.1.getD (b.1.length - 1) tIns.dft) with
      | true => rfl
      | false => exact absurd (.inr (.inl h)) hfe
    have hr : resA b.2.1 b.1.length b.1 = true := by
      cases h : resA b.2.1 b.1.length b.1 with
      | true => rfl
      | false => exact absurd (.inr (.inr h)) hfe
    have hni := next_in i6 (by omega) hr he
    have hlen := res_len b.2.1 b.1.length b.1
    have hw : IntKind.i64.wrap ((b.1.length : Int) - 1) = ((b.1.length - 1 : Nat) : Int) := by rw [show (b.1.length : Int) - 1 = ((b.1.length - 1 : Nat) : Int) by omega]; exact w64n (by omega)
    have hlast : endsV ((resL b.2.1 b.1.length b.1).getD (b.1.length - 1) tIns.dft) = true := by
      rw [res_at (by omega)]
      unfold endsV at he ⊢
      rw [res_op]; exact he
    have hy : (yB ((b.1.length, b.2.1.length, b.2.2.1, b.2.2.2.1.length, b.2.2.2.2, ()), b.1, b.2.1, b.2.2.2.1, ())) = b := rfl
    rw [hy]
    generalize hc : resL b.2.1 b.1.length b.1 = c at hlen hlast hni ⊢
    have hcond : (((c.length : Int) != (b.1.length : Int)) || ((b.1.length : Int) == 0)) = false := by
      rw [Bool.or_eq_false_iff, hlen]
      refine ⟨by simp, ?_⟩
      rw [beq_eq_false_iff_ne]
      omega
    have hnext : b.1.length = c.length := hlen.symm
    rw [hw, Int.toNat_natCast, Nat.zero_add]
    intro _
    refine ⟨fun _ => ⟨by omega, by omega, trivial⟩, fun _ => ⟨by omega, trivial⟩, cond_of (fun e => ?_) (fun _ => cond_of (fun e => ?_) (fun _ => ?_))⟩
    · exfalso
      have e : (((c.length : Int) != (b.1.length : Int)) || ((b.1.length : Int) == 0)) = true := e
      rw [hcond] at e; cases e
    · exfalso
      rw [hlast] at e; cases e
    · rw [hnext]
      exact ⟨c, rfl, ⟨by omega, hni⟩, rfl⟩
  · have hne : finE b ≠ 0 := hne
    refine cond_of (fun _ => ?_) (fun e => ?_)
    · show SV.p (.c (.bool ((0 : Int) == 0 && (0 : Int) == 0 && (finE b == 15 || finE b == 3)))) = SV.p (.c (.bool true))
      have : (finE b == 15 || finE b == 3) = true := by
        unfold finE at hne ⊢
        split
        · rfl
        · rename_i h1
          rw [if_neg h1] at hne
          split
          · rfl
          · rename_i h2
            rw [if_neg h2] at hne
            exact absurd rfl hne
      rw [this]; rfl
    · exfalso
      have e : (finE b != 0) = false := e
      rw [bne_eq_false_iff_eq] at e
      exact hne e
end Go.Proofs.Ytkpepieepdmjpaa.Ch
