/- Chapter 22 (reach): flow.Of: proved. No condition. -/
import Derived.Test.YtckijackbldkhaaR
namespace Go.Proofs.Ytckijackbldkhaa.Ch
open Go Go.Proofs Go.Proofs.Ytckijackbldkhaa.Sx
set_option linter.unusedVariables false
set_option linter.unusedSimpArgs false

theorem gokOfM : GOK Try.prog (gam [(9, [], next_t), ghk 16 [1, 3, 7, 0, 0], ghk 17 [0, 3]]) := gam_ok ⟨next_ok, failT_ok, failT_ok, trivial⟩
theorem of2_step (p : Pro) (Q : Exit → SS → Prop) (hp : smallP p) (hg : goodV p = true) (hq : Q (.exit 2) (⟨121, [(1, .p (.c (.ptr 0 0))), (2, .p (.c (.ptr 1 0))), (3, .p (.c (.ptr 2 0)))], hpOf p (b2V p (b1V p p.code.length).1.length) (b1V p p.code.length).2⟩ : SS)) :
    W 0 Try.prog (.loop (lp Try.f8 1)) (stOf2 p (b1V p p.code.length).1 (b1V p p.code.length).2 0) Q := by
  have hcl := hp.1
  have hB1 := b1_inv p _ (Nat.le_refl _)
  refine W_all (fun b => stOf2 p (b2V p b) (b1V p p.code.length).2 b) (b1V p p.code.length).1.length (fun _ => True) [1, 2, 3, 59, 60] [1, 2, 3] [] (fun b hb _ K hK =>
    sx_ok (Λ := lam [(4, of3_l)]) gokOfM _ 2 _ _ (lokl (l := [(4, lpIn (lp Try.f8 1) 2 0)]) ⟨lam_ok (fun x Q h1 h2 => of3_step x.1 x.2.1 x.2.2.1 x.2.2.2.1 x.2.2.2.2 Q h1 h2), trivial⟩) ?_)
  rw [vc_ofM]
  obtain ⟨g1, g2⟩ := b2_get hg b hb
  have hnb := hB1.lb.1
  refine cond_of (fun hc => ?_) (fun hc => ?_)
  · have hc : b < (b1V p p.code.length).1.length := by have := of_decide_eq_true hc; rw [g1] at this; omega
    have ei : IntKind.i64.wrap ((b : Int) + 1) = ((b + 1 : Nat) : Int) := w64n (n := b + 1) (by omega)
    have hKK := hK hc trivial
    rw [b2_next] at hKK
    unfold b2Step at hKK
    have hbb := g2 b hc
    have e1 : ((b2V p b).getD b tBlk.dft).2.1 - 1 = lastV p b := by rw [hbb]; rfl
    rw [e1] at hKK
    have hsz : ∀ x ∈ b2V p b, x.2.2.1.length ≤ 21 * 1001 ∧ x.2.2.2.1.length ≤ 21 * 1001 := fun x hx => by
      obtain ⟨i, hi, rfl⟩ := mem_getD (d := tBlk.dft) hx
      rw [g1] at hi
      rw [g2 i hi]
      have h1 := suc_len hp hi
      have h2 := prevs_len hp i b (by omega)
      constructor
      · show (if i < b then sucV p i else [] : List Int).length ≤ _
        split
        · omega
        · simp
      · show (prevs p b i).length ≤ _
        omega
    have hlast := last_ok hc
    have hin := nexL_in hg hc
    have hlen := nexL_len hp hc
    have hat := at_in p
    have hla := hB1.la
    have hsm := sml_at hp hlast.2.1
    unfold nexL at hin hlen
    generalize (b1V p p.code.length).2 = at_ at hKK hat hla hB1 ⊢
    generalize b2V p b = B at hKK g1 g2 hbb e1 hsz ⊢
    generalize lastV p b = la at hKK e1 hlast hin hlen hsm ⊢
    have ev : ∀ l : List Int, vw l 0 l.length = l := fun l => vw_all l
    simp only [ei, Nat.zero_add, Int.toNat_natCast, ev, List.length_set]
    refine ⟨by show (0 : Int) ≤ (b : Int); omega, fun q hq' => ?_⟩
    obtain rfl : q = b := by have : (b : Int) = (q : Int) := hq'; omega
    refine ⟨by omega, fun x hx => ?_⟩
    have hx' : B.getD q tBlk.dft = x := hx
    have ex : B.set q (x.1, x.2.1, x.2.2.1, x.2.2.2.1, ()) = B := by
      rw [← hx']
      refine ext_getD (d := tBlk.dft) (by rw [List.length_set]) (fun k hk => ?_)
      rw [List.length_set] at hk
      rw [getD_set (by omega)]
      by_cases e : q = k
      · rw [if_pos e, e]
      · rw [if_neg e]
    rw [hx'] at e1
    have e2 : IntKind.i64.wrap (x.2.1 - 1) = la := by rw [e1, w64 (by omega) (by omega)]
    simp only [e2, ex]
    refine ⟨by omega, by omega, trivial, by omega, by omega, Nat.le_refl _, Nat.le_refl _, hlast.1, hlast.2.2, hlast.2.1, hsm, fun _ => ⟨(p, B, at_, q, nextV (p.code.getD la.toNat tIns.dft) la), ?_, ⟨by show q < B.length; omega, ⟨by show inR at_.length _; rw [hla]; exact hin, Nat.le_trans hlen (by decide)⟩, by show inR B.length at_; rw [g1]; exact hat, fun y hy => ⟨Nat.le_trans (Nat.add_le_add (hsz y hy).1 hlen) (by decide), Nat.le_trans (Nat.add_le_add (hsz y hy).2 hlen) (by decide)⟩⟩, ?_⟩⟩
    · rfl
    · unfold stOf2 at hKK
      show K (_ : SS)
      simp only [ei]
      exact hKK
  · have hc : ¬ b < (b1V p p.code.length).1.length := fun h => by have := of_decide_eq_false hc; rw [g1] at this; omega
    obtain rfl : b = (b1V p p.code.length).1.length := by omega
    exact hq
theorem castB (xs : List Blk) : castL fsB xs = xs := rfl
theorem of_okB {p : Pro} (hp : smallP p) (hg : goodV p = true) : OkB (b2V p (b1V p p.code.length).1.length) := by
  have hB1 := b1_inv p _ (Nat.le_refl _)
  obtain ⟨g1, g2⟩ := b2_get hg _ (Nat.le_refl _)
  have hcl := hp.1
  refine ⟨by rw [g1]; exact hB1.lb.2 (good_pos hg), by rw [g1]; have := hB1.lb.1; omega, fun x hx => ?_⟩
  obtain ⟨i, hi, rfl⟩ := mem_getD (d := tBlk.dft) hx
  rw [g1] at hi ⊢
  rw [g2 i hi]
  have e : (if i < (b1V p p.code.length).1.length then sucV p i else [] : List Int) = sucV p i := if_pos hi
  rw [e]
  exact ⟨by have := suc_len hp hi; show (sucV p i).length ≤ _; omega, suc_in hg hi⟩
/-! ### Good -/
theorem good_ok : ∀ args h Q, good_t args h Q → FSpec Try.prog 7 args h Q := trH_ok fun ((p, _) : Pro × Unit) _ Q ⟨hs, h⟩ => by
  refine spec_body (Γ := gam [(15, [], cnt_t), (16, [], ends_t)]) (Λ := lam [(0, go_l)]) (gam_ok ⟨cnt_ok, ends_ok, trivial⟩) Try.func7 rfl (lokl (l := [(0, lp Try.f7 0)]) ⟨lam_ok (fun p Q hs ⟨a1, a2⟩ => go_loop p Q hs a1 a2), trivial⟩) ?_
  show body Try.prog (gam [(15, [], cnt_t), (16, [], ends_t)]) (lam [(0, go_l)]) Try.f7 [.agg (toCV tPro p)] [] _
  rw [vc_good]
  dsimp only at hs h
  have key : ∀ b, goodV p = b → Q (.p (tb b)) [] := fun b e => by rw [← e]; exact h
  clear h
  intro _
  have hn := hs.1
  have bad : ∀ A B C D E F : Bool, (A || (B || (C || (D || (E || F))))) = true → (!(A || (B || (C || (D || (E || F))))) && (List.range p.code.length).all fun k => isGoodV p (p.code.getD k tIns.dft) k) = false := fun A B C D E F h => by rw [h]; rfl
  refine cond_of (fun h1 => ⟨fun e => (by cases e), fun e => (by cases e), key _ ?_⟩) (fun h1 => ⟨Nat.le_refl _, by simp, ?_⟩)
  · unfold goodV
    refine bad _ _ _ _ _ _ ?_
    have h1 : (decide (p.2.2.1 < 0) || decide ((p.vars.length : Int) < p.2.2.1)) = true := h1
    rw [← Bool.or_assoc, h1, Bool.true_or]
  have h1 : (decide (p.2.2.1 < 0) || decide ((p.vars.length : Int) < p.2.2.1)) = false := h1
  rw [Bool.or_eq_false_iff] at h1
  have hempty : p.code.isEmpty = ((p.code.length : Int) == 0) := by
    cases hp : p.code with
    | nil => rfl
    | cons a l => simp; omega
  have eG : ∀ E : Bool, (decide (p.2.2.1 < 0) || (decide ((p.vars.length : Int) < p.2.2.1) || (!cntV [p.regs] || (decide (p.caps < 0) || (p.code.isEmpty || E))))) = ((false || !cntV [p.regs] || decide (p.caps < 0) || ((p.code.length : Int) == 0)) || E) := fun E => by
    rw [h1.1, h1.2, hempty]
    simp only [Bool.false_or, Bool.or_assoc]
  have hG : ∀ G : Bool, (false || !cntV [p.regs] || decide (p.caps < 0) || ((p.code.length : Int) == 0)) = G → G = false → 1 ≤ p.code.length := fun G e1 e2 => by
    rw [e2] at e1
    rw [Bool.or_eq_false_iff] at e1
    have := e1.2
    rcases Nat.eq_zero_or_pos p.code.length with h0 | h0
    · rw [h0] at this; exact absurd this (by decide)
    · exact h0
  have hw : 1 ≤ p.code.length → IntKind.i64.wrap ((p.code.length : Int) - 1) = ((p.code.length - 1 : Nat) : Int) := fun h => by rw [show (p.code.length : Int) - 1 = ((p.code.length - 1 : Nat) : Int) by omega]; exact w64n (by omega)
  refine ⟨fun e => ?_, fun e => ?_, cond_of (fun g => key _ ?_) (fun g => ?_)⟩
  · have h0 := hG _ rfl e
    have := hw h0
    show 0 ≤ IntKind.i64.wrap ((p.code.length : Int) - 1) ∧ IntKind.i64.wrap ((p.code.length : Int) - 1) < (p.code.length : Int) ∧ True
    rw [this]
    exact ⟨by omega, by omega, trivial⟩
  · have h0 := hG _ rfl e
    have := hw h0
    show (IntKind.i64.wrap ((p.code.length : Int) - 1)).toNat < p.code.length ∧ True
    rw [this]
    exact ⟨by omega, trivial⟩
  · unfold goodV
    rw [eG]
    have g : (false || !cntV [p.regs] || decide (p.caps < 0) || ((p.code.length : Int) == 0)) = true := g
    rw [g]; rfl
  have g : (false || !cntV [p.regs] || decide (p.caps < 0) || ((p.code.length : Int) == 0)) = false := g
  have h0 := hG _ rfl g
  have elast : List.getD p.2.2.2.2.2.2.1 (IntKind.i64.wrap ((List.length p.2.2.2.2.2.2.1 : Int) - 1)).toNat tIns.dft = lastI p := by
    have := hw h0
    show p.code.getD (IntKind.i64.wrap ((p.code.length : Int) - 1)).toNat tIns.dft = _
    rw [this]; rfl
  rw [elast]
  have eall : (∀ k, k < p.code.length → isGoodV p (p.code.getD k tIns.dft) k = true) ↔ ((List.range p.code.length).all fun k => isGoodV p (p.code.getD k tIns.dft) k) = true := by
    rw [List.all_eq_true]
    exact ⟨fun h k hk => h k (List.mem_range.1 hk), fun h k hk => h k (List.mem_range.2 hk)⟩
  refine cond_of (fun e => key _ ?_) (fun e _ => ⟨p, rfl, hs, fun a => key _ ?_, fun a => key _ ?_⟩)
  · unfold goodV
    rw [eG, g]
    rw [Bool.false_or] at e ⊢
    rw [e]; rfl
  · unfold goodV
    rw [eG, g]
    rw [Bool.false_or] at e ⊢
    rw [e, eall.1 a]; rfl
  · unfold goodV
    rw [eG, g]
    rw [Bool.false_or] at e ⊢
    have : ((List.range p.code.length).all fun k => isGoodV p (p.code.getD k tIns.dft) k) = false := by
      rw [← Bool.not_eq_true]
      exact fun hh => a (eall.2 hh)
    rw [e, this]; rfl
theorem gokOf : GOK Try.prog (gam [(7, [], good_t), (18, [], begins_t), (19, [], order_t)]) := gam_ok ⟨good_ok, begins_ok, order_ok, trivial⟩
theorem of_ok : ∀ args h Q, of_t args h Q → FSpec Try.prog 8 args h Q := trH_ok fun ((p, _) : Pro × Unit) _ Q ⟨hp, h0, h1⟩ => by
  dsimp only at hp h0 h1
  have hcl : List.length p.2.2.2.2.2.2.1 ≤ 1000 := hp.1
  have hl := lokl (N := 0) (P := Try.prog) (l := [(0, lp Try.f8 0), (2, lp Try.f8 1)]) (Λ := lam [(0, of_l), (2, of2_l)]) ⟨lam_ok (fun p Q ⟨a, b⟩ c => of1_step p Q a b c), lam_ok (fun p Q ⟨a, b⟩ c => of2_step p Q a b c), trivial⟩
  cases hg : goodV p with
  | false =>
    refine spec_data0 tGra (spec_body (Λ := lam [(0, of_l), (2, of2_l)]) gokOf Try.func8 rfl hl ?_)
    show body Try.prog (gam [(7, [], good_t), (18, [], begins_t), (19, [], order_t)]) (lam [(0, of_l), (2, of2_l)]) Try.f8 [.agg (toCV tPro p)] [] _
    rw [vc_of]
    simp only [hg]
    exact ⟨hp, _, ([], [], []), rfl, rfl, h0 hg⟩
  | true =>
    refine spec_drop (spec_frzD 0 [1, 2] (spec_body (Λ := lam [(0, of_l), (2, of2_l)]) gokOf Try.func8 rfl hl ?_))
    show body Try.prog (gam [(7, [], good_t), (18, [], begins_t), (19, [], order_t)]) (lam [(0, of_l), (2, of2_l)]) Try.f8 [.agg (toCV tPro p)] [] _
    rw [vc_of]
    have hB := of_okB hp hg
    have h1 := h1 hg
    unfold ofV at h1
    simp only [hg]
    refine ⟨hp, fun _ => ⟨by omega, Int.le_refl _, by show (8 : Int) * _ ≤ _; omega, ⟨hp, trivial⟩, fun _ => ⟨p, ?_, ⟨hp, hg⟩, fun _ => ⟨p, rfl, ⟨hp, hg⟩, ?_⟩⟩⟩⟩
    · show (_ : SS) = _
      rw [List.length_replicate]
      rfl
    · have e1 : ∀ B : List Blk, vw (castL fsB B) 0 B.length = castL fsB B := fun B => vw_all (castL fsB B)
      erw [e1]
      generalize b2V p (b1V p p.code.length).1.length = B at h1 hB ⊢
      generalize (b1V p p.code.length).2 = at_ at h1 ⊢
      have h1 : Q (.p (.agg (toCV tGra (B, at_, orderV (castL fsB B))))) [] := h1
      generalize orderV (castL fsB B) = o at h1 ⊢
      refine ⟨by omega, by omega, hB, .inr ⟨rfl, _, [0 + B.length ≤ B.length, 0 + at_.length ≤ at_.length, 0 + o.length ≤ o.length], [0, 1, 2], .agg [.row tBlk (vw (castL fsB B) 0 B.length), .row tI (vw at_ 0 at_.length), .row tI (vw o 0 o.length)], rfl, rfl, ⟨by omega, by omega, by omega, trivial⟩, fun x hx => hx, rfl, ?_⟩⟩
      erw [e1, vw_all, vw_all]
      exact h1
end Go.Proofs.Ytckijackbldkhaa.Ch
