/- Chapter 11 (code): the law CodeGood, but for its awake: proved. No condition. -/
import Derived.Test.YtkpepieepdmjpaaIV
namespace Go.Proofs.Ytkpepieepdmjpaa.Ch
open Go Go.Proofs Go.Proofs.Ytkpepieepdmjpaa.Sx
set_option linter.unusedVariables false
set_option linter.unusedSimpArgs false

theorem great_step (x : Ins) (Q : Exit → SS → Prop) (hl : x.arms.length ≤ 20) (h1 : (x.arms.any fun a : Arm => decide (100 < a.2.2.2.1)) = true → Q .ret (⟨44, [(2, .p (tb true))], []⟩ : SS)) (h2 : (x.arms.any fun a : Arm => decide (100 < a.2.2.2.1)) = false → Q (.exit 0) (⟨44, [], []⟩ : SS)) : W 0 Try.prog (.loop (lp Try.f7 0)) (stGr x 0) Q := by
  refine W_all (stGr x) x.arms.length (fun i => decide (100 < (x.arms.getD i tArm.dft).2.2.2.1) = false) [1, 3] [] [2] (fun i hi ho K hK => ?_)
  refine sx_ok (Λ := noLam) gok0 _ 0 _ _ noLam_ok ?_
  rw [vc_greatL]
  intro _
  refine cond_of (fun hc => ?_) (fun hc => ?_)
  · have hc : i < x.arms.length := by have := of_decide_eq_true hc; exact Int.ofNat_lt.1 this
    have ei : IntKind.i64.wrap ((i : Int) + 1) = ((i + 1 : Nat) : Int) := w64n (n := i + 1) (by omega)
    rw [ei, Int.toNat_natCast]
    refine ⟨by omega, Int.ofNat_lt.2 hc, hc, cond_of (fun hb => ?_) (fun hb => hK hc hb)⟩
    exact h1 (List.any_eq_true.2 ⟨x.arms[i], List.getElem_mem hc, by have hb : decide (100 < (x.arms.getD i tArm.dft).2.2.2.1) = true := hb; rw [getD_at hc] at hb; exact hb⟩)
  · have hc : ¬ (i < x.arms.length) := by intro h; exact of_decide_eq_false hc (Int.ofNat_lt.2 h)
    refine h2 ?_
    rw [List.any_eq_false]
    intro b hb
    obtain ⟨j, hj, rfl⟩ := List.getElem_of_mem hb
    have := ho j (by omega)
    rw [getD_at hj] at this
    rw [this]; decide
theorem or_aux (A B C D E F : Bool) (Q : Bool → Prop) {R : Prop} (h : Q (A || (B || (C || (D || (E || F)))))) (hr : B = false → (F = true → Q true) → (F = false → Q false) → R) : bif A || B || C || D || E then Q true else R := by
  cases A <;> cases B <;> cases C <;> cases D <;> cases E <;> first | exact h | exact hr rfl (fun e => by rw [e] at h; exact h) (fun e => by rw [e] at h; exact h)
theorem great_ok : ∀ args h Q, great_t args h Q → FSpec Try.prog 7 args h Q := trH_ok fun ((x, _) : Ins × Unit) _ Q h => by
  refine spec_body (Λ := lam [(0, gr_l)]) gok0 Try.func7 rfl (lokl (l := [(0, lp Try.f7 0)]) ⟨lam_ok (fun x Q hl ⟨a1, a2⟩ => great_step x Q hl a1 a2), trivial⟩) ?_
  show body Try.prog (gam []) (lam [(0, gr_l)]) Try.f7 [.agg (toCV tIns x)] [] _
  rw [vc_great]
  intro _
  dsimp only at h
  refine or_aux _ _ _ _ _ _ (fun b => Q (.p (tb b)) []) h (fun hb h1 h2 => ⟨x, rfl, ?_, h1, h2⟩)
  have hb := of_decide_eq_false hb
  exact Nat.not_lt.1 fun hlt => hb (Int.ofNat_lt.2 hlt)
theorem great_small {i : Ins} (h : greatV i = false) : smallI i := by
  unfold greatV at h
  simp only [Bool.or_eq_false_iff, decide_eq_false_iff_not] at h
  exact ⟨by omega, by omega⟩
theorem fm_len20 {α : Type} {f : α → List Int} (hf : ∀ x, (f x).length ≤ 65537) {l : List α} (h : l.length ≤ 20) : (l.flatMap f).length ≤ 1310740 := by
  have := fm_len hf l
  omega
theorem writes_len {i : Ins} (h : smallI i) : (writesV i).length ≤ 2000000 := by
  have h1 := fm_len20 wArm_len h.2
  have h2 := run_len i.d i.n
  have h3 := run_len i.d i.m
  unfold writesV
  repeat' split
  all_goals try simp only [List.length_cons, List.length_nil]
  all_goals first | omega | exact Nat.zero_le _
theorem reads_len {i : Ins} (h : smallI i) : (readsV i).length ≤ 2000000 := by
  have h1 := fm_len20 rArm_len h.2
  have h2 := run_len i.a i.n
  have h3 := run_len i.b i.n
  have h4 := fm_len20 (f := fun a => runV a i.m) (fun a => Nat.le_succ_of_le (run_len a i.m)) h.1
  have h5 := h.1
  unfold readsV
  repeat' split
  all_goals try simp only [List.length_cons, List.length_nil]
  all_goals first | omega | exact Nat.zero_le _
theorem ga_step (p : Pro) (Q : Exit → SS → Prop) (hl : p.code.length ≤ 60) (h1 : (∀ i ∈ p.code, greatV i = false) → Q (.exit 0) (⟨122, [(1, .p (.c (.ptr 0 0)))], [.cells 29 (toCV tPro p)]⟩ : SS)) (h2 : Q .ret (⟨122, [(2, .p (tb true))], []⟩ : SS)) : W 0 Try.prog (.loop (lp Try.f3 0)) (stGa p 0) Q := by
  refine W_all (stGa p) p.code.length (fun i => greatV (p.code.getD i tIns.dft) = false) [1, 3] [1] [2] (fun i hi ho K hK => ?_)
  refine sx_ok (Λ := noLam) (Γ := gam [(7, [], great_t)]) (gam_ok ⟨great_ok, trivial⟩) _ 0 _ _ noLam_ok ?_
  rw [vc_gaL]
  intro _
  refine cond_of (fun hc => ?_) (fun hc => ?_)
  · have hc : i < p.code.length := by have := of_decide_eq_true hc; exact Int.ofNat_lt.1 this
    have ei : IntKind.i64.wrap ((i : Int) + 1) = ((i + 1 : Nat) : Int) := w64n (n := i + 1) (by omega)
    rw [ei, Int.toNat_natCast]
    exact ⟨by omega, Int.ofNat_lt.2 hc, hc, cond_of (fun hb => h2) (fun hb => hK hc hb)⟩
  · have hc : ¬ (i < p.code.length) := by intro h; exact of_decide_eq_false hc (Int.ofNat_lt.2 h)
    refine h1 fun b hb => ?_
    obtain ⟨j, hj, rfl⟩ := List.getElem_of_mem hb
    have := ho j (by omega)
    rw [getD_at hj] at this
    exact this
theorem gc_step (p : Pro) (top : Int) (i : Nat) (l : List Int) (Q : Exit → SS → Prop) (hi : InvP p) (ht : TopOk p top) (htl : top ≤ 65536) (hll : l.length ≤ 10000000) (hm : ∃ i ∈ p.code, l = rwV i) (hq : ∀ top : Int, TopOk p top → top ≤ 65536 → Q (.exit 4) (⟨122, [(1, .p (.c (.ptr 0 0))), (4, .p (ti top)), (5, .p (ti i))], [.cells 29 (toCV tPro p)]⟩ : SS)) : W 0 Try.prog (.loop (lpIn (lp Try.f3 1) 2 0)) (stGc p top i l 0) Q := by
  refine W_loopE (fun x : Int × Nat => stGc p x.1 i l x.2) (fun x => TopOk p x.1 ∧ x.1 ≤ 65536 ∧ x.2 ≤ l.length) (fun x => l.length - x.2) [1, 4, 5, 6, 7] [1, 4, 5] [2] ?_ (top, 0) ⟨ht, htl, Nat.zero_le _⟩
  rintro ⟨top, j⟩ ⟨ht, htl, hj⟩
  dsimp only at ht htl hj ⊢
  refine sx_ok (Λ := noLam) gok0 _ 4 _ _ noLam_ok ?_
  rw [vc_gcL]
  intro _
  obtain ⟨ii, hii, hrw⟩ := hm
  refine cond_of (fun hc => ?_) (fun hc => hq top ht htl)
  have hc : j < l.length := by have := of_decide_eq_true hc; exact Int.ofNat_lt.1 this
  have ei : IntKind.i64.wrap ((j : Int) + 1) = ((j + 1 : Nat) : Int) := w64n (n := j + 1) (by omega)
  rw [ei, Int.toNat_natCast, Nat.zero_add]
  have hd : l.getD j tI.dft ∈ rwV ii := by rw [getD_at hc, ← hrw]; exact List.getElem_mem _
  have hb := hi.2.2.1 ii hii _ hd
  have hr := hi.2.2.2
  generalize l.getD j tI.dft = r at hd hb ⊢
  have hb1 : (0 : Int) ≤ r := hb.1
  have hb2 : r < p.regs := hb.2
  have ew : IntKind.i64.wrap (r + 1) = r + 1 := w64 (by omega) (by omega)
  rw [ew]
  refine ⟨by omega, Int.ofNat_lt.2 hc, hc, fun _ => ⟨by omega, Int.ofNat_lt.2 hc, trivial⟩, fun _ => ⟨hc, trivial⟩, cond_of (fun hbad => ?_) (fun _ => ⟨by omega, Int.ofNat_lt.2 hc, hc, (mx2 top (r + 1), j + 1), rfl, ⟨?_, ?_, hc⟩, by show l.length - (j + 1) < l.length - j; omega⟩)⟩
  · exfalso
    rw [Bool.or_eq_true, decide_eq_true_eq, decide_eq_true_eq] at hbad
    rcases hbad with h | h
    · omega
    · have h : p.regs ≤ r := h
      omega
  · show TopOk p (mx2 top (r + 1))
    unfold mx2
    split
    · exact ⟨by omega, .inr ⟨ii, hii, r, hd, by omega⟩⟩
    · exact ht
  · show mx2 top (r + 1) ≤ 65536
    unfold mx2
    split <;> omega
theorem gb_step (p : Pro) (Q : Exit → SS → Prop) (hi : InvP p) (hq : ∀ top : Int, TopOk p top → top ≤ 65536 → Q (.exit 2) (⟨122, [(1, .p (.c (.ptr 0 0))), (4, .p (ti top))], [.cells 29 (toCV tPro p)]⟩ : SS)) : W 0 Try.prog (.loop (lp Try.f3 1)) (stGb p 0 0) Q := by
  refine W_loopE (fun x : Int × Nat => stGb p x.1 x.2) (fun x => TopOk p x.1 ∧ x.1 ≤ 65536 ∧ x.2 ≤ p.code.length) (fun x => p.code.length - x.2) [1, 4, 5] [1, 4] [2] ?_ (0, 0) ⟨⟨Int.le_refl _, .inl rfl⟩, by decide, Nat.zero_le _⟩
  rintro ⟨top, i⟩ ⟨ht, htl, hj⟩
  dsimp only at ht htl hj ⊢
  refine sx_ok (Λ := lam [(4, gc_l)]) (Γ := gam [(9, [], reads_t), (10, [], writes_t)]) (gam_ok ⟨reads_ok, writes_ok, trivial⟩) _ 2 _ _ (lokl (l := [(4, lpIn (lp Try.f3 1) 2 0)]) ⟨lam_ok (fun x Q ⟨a1, a2, a3, a4, a5⟩ hq => gc_step x.1 x.2.1 x.2.2.1 x.2.2.2 Q a1 a2 a3 a4 a5 hq), trivial⟩) ?_
  rw [vc_gbL]
  intro _
  refine cond_of (fun hc => ?_) (fun hc => hq top ht htl)
  have hc : i < p.code.length := by have := of_decide_eq_true hc; exact Int.ofNat_lt.1 this
  have hi1 := hi.1
  have ei : IntKind.i64.wrap ((i : Int) + 1) = ((i + 1 : Nat) : Int) := w64n (n := i + 1) (by omega)
  rw [Int.toNat_natCast]
  have hd : p.code.getD i tIns.dft ∈ p.code := by rw [getD_at hc]; exact List.getElem_mem _
  have hsm := hi.2.1 _ hd
  have hd : List.getD p.2.2.2.2.2.2.1 i tIns.dft ∈ p.code := hd
  have hsm : smallI (List.getD p.2.2.2.2.2.2.1 i tIns.dft) := hsm
  have hc' : i < List.length p.2.2.2.2.2.2.1 := hc
  generalize List.getD p.2.2.2.2.2.2.1 i tIns.dft = x at hd hsm ⊢
  have hr := reads_len hsm
  have hw := writes_len hsm
  simp only [vw_all]
  have hlen : (readsV x ++ writesV x).length = (readsV x).length + (writesV x).length := List.length_append
  have blk : ∀ top2 : Int, TopOk p top2 → top2 ≤ 65536 → ∃ y : Int × Nat, stGb p top2 (i + 1) = stGb p y.1 y.2 ∧ (TopOk p y.1 ∧ y.1 ≤ 65536 ∧ y.2 ≤ p.code.length) ∧ p.code.length - y.2 < p.code.length - i := fun top2 h1 h2 => ⟨(top2, i + 1), rfl, ⟨h1, h2, hc⟩, by show p.code.length - (i + 1) < _; omega⟩
  refine ⟨by omega, Int.ofNat_lt.2 hc', hc', by omega, Int.ofNat_lt.2 hc', hc', ⟨hsm, Nat.le_refl _, by omega, hsm, by omega, by omega, (p, top, i, readsV x ++ writesV x), rfl, ⟨hi, ht, htl, by show (readsV x ++ writesV x).length ≤ _; omega, x, hd, rfl⟩, fun top2 h1 h2 => ?_⟩, hsm, Nat.le_refl _, by omega, hsm, by omega, by omega, (p, top, i, readsV x ++ writesV x), rfl, ⟨hi, ht, htl, by show (readsV x ++ writesV x).length ≤ _; omega, x, hd, rfl⟩, fun top2 h1 h2 => ?_⟩
  · dsimp only
    rw [ei]; exact blk top2 h1 h2
  · dsimp only
    rw [ei]; exact blk top2 h1 h2
/-! ### Good -/
theorem good_ok : ∀ args h Q, good_t args h Q → FSpec Try.prog 8 args h Q := trH_ok fun ((p, _) : Pro × Unit) _ Q ⟨hs, h⟩ => by
  refine spec_body (Γ := gam [(21, [], cnt_t), (19, [], ends_t)]) (Λ := lam [(0, go_l)]) (gam_ok ⟨cnt_ok, ends_ok, trivial⟩) Try.func8 rfl (lokl (l := [(0, lp Try.f8 0)]) ⟨lam_ok (fun p Q hs ⟨a1, a2⟩ => go_loop p Q hs a1 a2), trivial⟩) ?_
  show body Try.prog (gam [(21, [], cnt_t), (19, [], ends_t)]) (lam [(0, go_l)]) Try.f8 [.agg (toCV tPro p)] [] _
  rw [vc_good]
  dsimp only at hs h
  have key : ∀ b, goodV p = b → Q (.p (tb b)) [] := fun b e => by rw [← e]; exact h
  clear h
  intro _
  have hn := hs.1
  have bad : ∀ A B C D E F : Bool, (A || (B || (C || (D || (E || F))))) = true → (!(A || (B || (C || (D || (E || F))))) && (List.range p.code.length).all fun k => isGoodV p (p.code.getD k tIns.dft) k) = false := fun A B C D E F h => by rw [h]; rfl
  refine cond_of (fun h1 => ⟨fun e => (by cases e), fun e => (by cases e), key _ ?_⟩) (fun h1 => ⟨Nat.le_refl _, by simp, ?_⟩)
  · unfold goodV
    refine bad _ _ _ _ _ _ ?_
    have h1 : (decide (p.2.2.1 < 0) || decide ((p.vars.length : Int) < p.2.2.1)) = true := h1
    rw [← Bool.or_assoc, h1, Bool.true_or]
  have h1 : (decide (p.2.2.1 < 0) || decide ((p.vars.length : Int) < p.2.2.1)) = false := h1
  rw [Bool.or_eq_false_iff] at h1
  have hempty : p.code.isEmpty = ((p.code.length : Int) == 0) := by
    cases hp : p.code with
    | nil => rfl
    | cons a l => simp; omega
  have eG : ∀ E : Bool, (decide (p.2.2.1 < 0) || (decide ((p.vars.length : Int) < p.2.2.1) || (!cntV [p.regs] || (decide (p.caps < 0) || (p.code.isEmpty || E))))) = ((false || !cntV [p.regs] || decide (p.caps < 0) || ((p.code.length : Int) == 0)) || E) := fun E => by
    rw [h1.1, h1.2, hempty]
    simp only [Bool.false_or, Bool.or_assoc]
  have hG : ∀ G : Bool, (false || !cntV [p.regs] || decide (p.caps < 0) || ((p.code.length : Int) == 0)) = G → G = false → 1 ≤ p.code.length := fun G e1 e2 => by
    rw [e2] at e1
    rw [Bool.or_eq_false_iff] at e1
    have := e1.2
    rcases Nat.eq_zero_or_pos p.code.length with h0 | h0
    · rw [h0] at this; exact absurd this (by decide)
    · exact h0
  have hw : 1 ≤ p.code.length → IntKind.i64.wrap ((p.code.length : Int) - 1) = ((p.code.length - 1 : Nat) : Int) := fun h => by rw [show (p.code.length : Int) - 1 = ((p.code.length - 1 : Nat) : Int) by omega]; exact w64n (by omega)
  refine ⟨fun e => ?_, fun e => ?_, cond_of (fun g => key _ ?_) (fun g => ?_)⟩
  · have h0 := hG _ rfl e
    have := hw h0
    show 0 ≤ IntKind.i64.wrap ((p.code.length : Int) - 1) ∧ IntKind.i64.wrap ((p.code.length : Int) - 1) < (p.code.length : Int) ∧ True
    rw [this]
    exact ⟨by omega, by omega, trivial⟩
  · have h0 := hG _ rfl e
    have := hw h0
    show (IntKind.i64.wrap ((p.code.length : Int) - 1)).toNat < p.code.length ∧ True
    rw [this]
    exact ⟨by omega, trivial⟩
  · unfold goodV
    rw [eG]
    have g : (false || !cntV [p.regs] || decide (p.caps < 0) || ((p.code.length : Int) == 0)) = true := g
    rw [g]; rfl
  have g : (false || !cntV [p.regs] || decide (p.caps < 0) || ((p.code.length : Int) == 0)) = false := g
  have h0 := hG _ rfl g
  have elast : List.getD p.2.2.2.2.2.2.1 (IntKind.i64.wrap ((List.length p.2.2.2.2.2.2.1 : Int) - 1)).toNat tIns.dft = lastI p := by
    have := hw h0
    show p.code.getD (IntKind.i64.wrap ((p.code.length : Int) - 1)).toNat tIns.dft = _
    rw [this]; rfl
  rw [elast]
  have eall : (∀ k, k < p.code.length → isGoodV p (p.code.getD k tIns.dft) k = true) ↔ ((List.range p.code.length).all fun k => isGoodV p (p.code.getD k tIns.dft) k) = true := by
    rw [List.all_eq_true]
    exact ⟨fun h k hk => h k (List.mem_range.1 hk), fun h k hk => h k (List.mem_range.2 hk)⟩
  refine cond_of (fun e => key _ ?_) (fun e _ => ⟨p, rfl, hs, fun a => key _ ?_, fun a => key _ ?_⟩)
  · unfold goodV
    rw [eG, g]
    rw [Bool.false_or] at e ⊢
    rw [e]; rfl
  · unfold goodV
    rw [eG, g]
    rw [Bool.false_or] at e ⊢
    rw [e, eall.1 a]; rfl
  · unfold goodV
    rw [eG, g]
    rw [Bool.false_or] at e ⊢
    have : ((List.range p.code.length).all fun k => isGoodV p (p.code.getD k tIns.dft) k) = false := by
      rw [← Bool.not_eq_true]
      exact fun hh => a (eall.2 hh)
    rw [e, this]; rfl
end Go.Proofs.Ytkpepieepdmjpaa.Ch
