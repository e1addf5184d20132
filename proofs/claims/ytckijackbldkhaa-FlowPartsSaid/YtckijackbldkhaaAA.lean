/- Chapter 19 (flow): the law FlowParts: its loops. No condition. -/
import Derived.Test.YtckijackbldkhaaZV
namespace Go.Proofs.Ytckijackbldkhaa.Ch
open Go Go.Proofs Go.Proofs.Ytckijackbldkhaa.Sx
set_option linter.unusedVariables false
set_option linter.unusedSimpArgs false

theorem ofG_ok : ∀ args h Q, ofG_t args h Q → FSpec Try.prog 8 args h Q := trH_ok fun ((p, _) : Pro × Unit) _ Q ⟨⟨hp, hg⟩, h⟩ => by
  dsimp only at hp hg h
  refine of_ok _ _ _ ?_
  show of_t [.agg (toCV tPro p)] [] Q
  refine ⟨hp, fun e => ?_, fun e => ?_⟩
  · have e : goodV p = false := e
    rw [hg] at e; exact absurd e (by decide)
  · exact h _ rfl
theorem rch_mono {f g : Nat → List Int} {s : Nat} {N : Nat} (hs : s < N) (hf : ∀ pc, pc < N → inR N (f pc)) (h : ∀ pc, pc < N → ∀ k ∈ f pc, k ∈ g pc) : ∀ pc, Rch f s pc → pc < N ∧ Rch g s pc := by
  intro pc hp
  induction hp with
  | base => exact ⟨hs, .base⟩
  | step _ hk ih =>
    have := hf _ ih.1 _ hk
    exact ⟨by omega, .step ih.2 (h _ ih.1 _ hk)⟩
structure FG (p : Pro) (g : Gra) : Prop where
  nb : List.length g.1 = (b1V p p.code.length).1.length
  at_ : g.2.1 = (b1V p p.code.length).2
  bk : ∀ b, b < List.length g.1 → blkG g b = (fromB (b1V p p.code.length).1 b, toB (b1V p p.code.length).1 b, sucV p b, prevs p (b1V p p.code.length).1.length b, ())
  pos : 0 < List.length g.1 ∧ List.length g.1 ≤ 1000
theorem fg_of {p : Pro} {g : Gra} (h : HG p g) : FG p g := by
  obtain ⟨hp, hg, e, hl⟩ := h
  subst e
  have hB := b1_inv p _ (Nat.le_refl _)
  obtain ⟨g1, g2⟩ := b2_get hg _ (Nat.le_refl _)
  refine ⟨g1, rfl, fun b hb => ?_, ?_⟩
  · have hb' : b < (b1V p p.code.length).1.length := by rw [← g1]; exact hb
    show (b2V p _).getD b tBlk.dft = _
    rw [g2 b hb', if_pos hb']
    rfl
  · show 0 < (b2V p _).length ∧ (b2V p _).length ≤ 1000
    rw [g1]
    have := hB.lb
    exact ⟨this.2 (good_pos hg), by have := hp.1; omega⟩
theorem nxt_suc {p : Pro} {g : Gra} (h : HG p g) {b : Nat} (hb : b < List.length g.1) : nxt g.1 (b : Int) = sucV p b := by
  have := (fg_of h).bk b hb
  unfold nxt
  rw [Int.toNat_natCast]
  show (blkG g b).2.2.1 = _
  rw [this]
theorem D_step (p : Pro) (g : Gra) (a : Int) (b : Nat) (x : Blk) (k : Nat) (l : List Int) (Q : Exit → SS → Prop) (hl : l.length ≤ 1000000) (hq : Q (.exit 6) (stD1 p g a b x k (inL l (b : Int)))) : W 0 Try.prog (.loop (lpIn (lpIn (lp Try.f3 0) 0 1) 4 0)) (stD p g a b x k false l 0) Q := by
  refine W_all (fun j => stD p g a b x k (inL (l.take j) (b : Int)) l j) l.length (fun _ => True) [1, 3, 4, 5, 6, 9, 10, 11, 12] [1, 3, 4, 5, 6, 9, 10] [] (fun j hj _ K hK => sx_ok (Λ := noLam) gok0 _ 6 _ _ noLam_ok ?_)
  rw [vc_D]
  refine fun _ => cond_of (fun hc => ?_) (fun hc => ?_)
  · have hc : j < l.length := by have := of_decide_eq_true hc; omega
    have ei : IntKind.i64.wrap ((j : Int) + 1) = ((j + 1 : Nat) : Int) := w64n (n := j + 1) (by omega)
    have hKK := hK hc trivial
    have e1 : inL (l.take (j + 1)) (b : Int) = (inL (l.take j) (b : Int) || l.getD j 0 == (b : Int)) := by
      unfold inL
      rw [List.take_succ_eq_append_getElem hc, List.any_append, getD_at hc]
      simp only [List.any_cons, List.any_nil, Bool.or_false]
      congr 1
      cases h : ((b : Int) == l[j]) with
      | true => exact (beq_iff_eq.2 (eq_of_beq h).symm).symm
      | false =>
        cases h2 : (l[j] == (b : Int)) with
        | false => rfl
        | true => rw [eq_of_beq h2] at h; simp at h
    rw [e1] at hKK
    rw [ei, Int.toNat_natCast]
    exact ⟨fun _ => ⟨by omega, by omega, trivial⟩, fun _ => ⟨hc, trivial⟩, hKK⟩
  · have hc : ¬ j < l.length := by have := of_decide_eq_false hc; omega
    obtain rfl : j = l.length := by omega
    rw [List.take_length]
    exact hq
theorem C_step (p : Pro) (g : Gra) (a : Int) (b : Nat) (x : Blk) (Q : Exit → SS → Prop) (hG : HG p g) (hb : b < List.length g.1) (hx : x = blkG g b) (hq : Q (.exit 4) (stB1 p g a b x)) : W 0 Try.prog (.loop (lpIn (lp Try.f3 0) 0 1)) (stC p g a b x 0) Q := by
  have F := fg_of hG
  have hbk := F.bk b hb
  rw [← hx] at hbk
  have hsl : List.length x.2.2.1 ≤ 21 := by rw [hbk]; exact suc_len hG.1 (by rw [← F.nb]; exact hb)
  have hsi : inR (List.length g.1) x.2.2.1 := by rw [hbk, F.nb]; exact suc_in hG.2.1 (by rw [← F.nb]; exact hb)
  refine W_all (stC p g a b x) (List.length x.2.2.1) (fun _ => True) [1, 3, 4, 5, 6, 9] [1, 3, 4, 5, 6] [2] (fun k hk _ K hK =>
    sx_ok (Λ := lam [(6, lD)]) gok0 _ 4 _ _ (lokl (l := [(6, lpIn (lpIn (lp Try.f3 0) 0 1) 4 0)]) ⟨lam_ok (fun x Q h1 h2 => D_step x.1 x.2.1 x.2.2.1 x.2.2.2.1 x.2.2.2.2.1 x.2.2.2.2.2.1 x.2.2.2.2.2.2 Q h1 h2), trivial⟩) ?_)
  rw [vc_C]
  refine fun _ => cond_of (fun hc => ?_) (fun hc => hq)
  have hc : k < List.length x.2.2.1 := by have := of_decide_eq_true hc; omega
  have ei : IntKind.i64.wrap ((k : Int) + 1) = ((k + 1 : Nat) : Int) := w64n (n := k + 1) (by omega)
  have hKK := hK hc trivial
  have hmem := getD_mem' (d := (0 : Int)) hc
  have ht := hsi _ hmem
  have hsuc : x.2.2.1 = sucV p b := by rw [hbk]
  have d1 : (tI.dft : Int) = 0 := rfl
  simp only [Int.toNat_natCast, d1]
  have hbt := F.bk (List.getD x.2.2.1 k 0).toNat (by omega)
  have hpv : (List.getD g.1 (List.getD x.2.2.1 k 0).toNat tBlk.dft).2.2.2.1 = prevs p (b1V p p.code.length).1.length (List.getD x.2.2.1 k 0).toNat := by
    show (blkG g _).2.2.2.1 = _
    rw [hbt]
  have hin : inL (prevs p (b1V p p.code.length).1.length (List.getD x.2.2.1 k 0).toNat) (b : Int) = true := by
    unfold inL
    rw [List.any_eq_true]
    exact ⟨(b : Int), prevs_mem hG.2.1 (by rw [← F.nb]; exact hb) (by rw [← hsuc]; exact hmem), by simp⟩
  have hlen := prevs_len hG.1 (List.getD x.2.2.1 k 0).toNat _ (Nat.le_refl _)
  have hnb := F.pos.2
  rw [F.nb] at hnb
  refine ⟨by omega, by omega, hc, ht.1, ht.2, by omega, (p, g, a, b, x, k, prevs p (b1V p p.code.length).1.length (List.getD x.2.2.1 k 0).toNat), ?_, Nat.le_trans hlen (by omega), cond_of (fun e => ?_) (fun _ => ?_)⟩
  · rw [hpv]; rfl
  · dsimp only at e
    rw [hin] at e; cases e
  · dsimp only
    rw [ei]; exact hKK
theorem gokB : GOK Try.prog (gam [(9, [], next_t)]) := gam_ok ⟨next_ok, trivial⟩
theorem B_step (p : Pro) (g : Gra) (a : Int) (b : Nat) (x : Blk) (Q : Exit → SS → Prop) (hG : HG p g) (hb : b < List.length g.1) (hx : x = blkG g b) (hq : Q (.exit 2) (stB1 p g a b x)) : W 0 Try.prog (.loop (lpIn (lp Try.f3 0) 0 0)) (stB p g a b x x.1) Q := by
  have F := fg_of hG
  have hbk := F.bk b hb
  rw [← hx] at hbk
  have hb1 : b < (b1V p p.code.length).1.length := by rw [← F.nb]; exact hb
  have hT := b1_t p _ (Nat.le_refl _)
  have hlt := hT.lt b hb1
  have hcl := hG.1.1
  have hx1 : x.1 = fromB (b1V p p.code.length).1 b := by rw [hbk]
  obtain ⟨T, hT0⟩ : ∃ T : Int, T = x.2.1 := ⟨_, rfl⟩
  have hx2 : T = toB (b1V p p.code.length).1 b := by rw [hT0, hbk]
  have hla := (b1_inv p _ (Nat.le_refl _)).la
  have e0 : stB p g a b x x.1 = (fun k : Nat => stB p g a b x (fromB (b1V p p.code.length).1 b + (k : Int))) 0 := by
    show stB p g a b x x.1 = stB p g a b x (fromB (b1V p p.code.length).1 b + 0)
    rw [Int.add_zero, hx1]
  rw [e0]
  refine W_all (fun k : Nat => stB p g a b x (fromB (b1V p p.code.length).1 b + (k : Int))) (toB (b1V p p.code.length).1 b - fromB (b1V p p.code.length).1 b).toNat (fun _ => True) [1, 3, 4, 5, 6, 7] [1, 3, 4, 5, 6] [2] (fun k hk _ K hK => sx_ok (Λ := noLam) gokB _ 2 _ _ noLam_ok ?_)
  rw [vc_B]
  refine cond_of (fun hc => ?_) (fun hc => hq)
  have hc : fromB (b1V p p.code.length).1 b + (k : Int) < T := by rw [hT0]; exact of_decide_eq_true hc
  have hKK := hK (by omega) trivial
  obtain ⟨pc, hpc⟩ : ∃ pc : Nat, fromB (b1V p p.code.length).1 b + (k : Int) = (pc : Int) := ⟨(fromB (b1V p p.code.length).1 b + (k : Int)).toNat, by omega⟩
  have epc : fromB (b1V p p.code.length).1 b + ((k + 1 : Nat) : Int) = ((pc + 1 : Nat) : Int) := by omega
  rw [epc] at hKK
  rw [hpc] at hc ⊢
  have hpl : pc < p.code.length := by omega
  have ei : IntKind.i64.wrap ((pc : Int) + 1) = ((pc + 1 : Nat) : Int) := w64n (n := pc + 1) (by omega)
  have ew : IntKind.i64.wrap (x.2.1 - 1) = T - 1 := by rw [← hT0]; exact w64 (by omega) (by omega)
  have hat : List.getD g.2.1 pc tI.dft = (b : Int) := by rw [F.at_]; exact hT.ha b hb1 pc (by omega) (by omega)
  have hgl : List.length g.2.1 = p.code.length := by rw [F.at_]; exact hla
  have d1 : (tI.dft : Int) = 0 := rfl
  have hnx : decide ((pc : Int) < T - 1) = true → nextV (List.getD p.2.2.2.2.2.2.1 pc tIns.dft) (pc : Int) = [((pc + 1 : Nat) : Int)] := fun e => by
    have := next_in_blk hG.1 hG.2.1 hb1 (pc := pc) (by omega) (by have := of_decide_eq_true e; omega)
    exact this
  rw [d1] at hat
  simp only [ei, ew, Int.toNat_natCast, d1, hat]
  refine ⟨by omega, by show (pc : Int) < (p.code.length : Int); omega, hpl, sml_at hG.1 hpl, by omega, by omega, by omega, fun e => ?_, fun e => ?_, cond_of (fun e => ?_) (fun _ => hKK)⟩
  · rw [hnx e.2.1]; exact ⟨Int.le_refl _, Int.zero_lt_one, trivial⟩
  · rw [hnx e.2.1]; exact ⟨Nat.zero_lt_one, trivial⟩
  · exfalso
    cases hd : decide ((pc : Int) < T - 1) with
    | false => rw [hd] at e; simp at e
    | true => rw [hd, hnx hd] at e; simp at e
end Go.Proofs.Ytckijackbldkhaa.Ch
