/- Chapter 22 (reach): what code comes to, over the abstract machine. No condition. -/
import Derived.Test.YtodlfjohaohfbaaU
namespace Go.Proofs.Ytodlfjohaohfbaa.Ch
open Go Go.Proofs Go.Proofs.Ytodlfjohaohfbaa.Sx
set_option linter.unusedVariables false
set_option linter.unusedSimpArgs false

theorem ix_step (l : List Int) (v : Int) (Q : Exit → SS → Prop) (hl : l.length ≤ 10000000) (h1 : inL l v = false → Q (.exit 0) (⟨19, [], []⟩ : SS)) (h2 : ∀ r : Nat, inL l v = true → Q .ret (⟨19, [(4, .p (ti r))], []⟩ : SS)) : W 0 Try.prog (.loop (lp Try.f51 0)) (stIx l v 0) Q := by
  refine W_all (stIx l v) l.length (fun i => (v == l.getD i 0) = false) [0, 1, 7, 8] [] [4] (fun i hi ho K hK => sx_ok (Λ := noLam) gok0 _ 0 _ _ noLam_ok ?_)
  rw [vc_indexL]
  refine cond_of (fun hc => ?_) (fun hc => ?_)
  · have hc : i < l.length := by have := of_decide_eq_true hc; omega
    have ei : IntKind.i64.wrap ((i : Int) + 1) = ((i + 1 : Nat) : Int) := w64n (n := i + 1) (by omega)
    rw [ei]
    refine ⟨by omega, by omega, hc, cond_of (fun hb => ?_) (fun hb => ?_)⟩
    · refine h2 i ?_
      unfold inL
      rw [List.any_eq_true]
      exact ⟨l.getD i 0, getD_mem' hc, hb⟩
    · exact hK hc hb
  · have hc : ¬ i < l.length := by have := of_decide_eq_false hc; omega
    refine h1 ?_
    unfold inL
    rw [List.any_eq_false]
    intro y hy
    obtain ⟨j, hj, rfl⟩ := mem_getD (d := (0 : Int)) hy
    rw [ho j (by omega)]; decide
theorem index_ok : ∀ args h Q, index_t args h Q → FSpec Try.prog 51 args h Q := trH_ok fun ((l, v, _) : List Int × Int × Unit) _ Q ⟨hl, h⟩ => by
  refine spec_body (Λ := lam [(0, ix_l)]) gok0 Try.func51 rfl (lokl (l := [(0, lp Try.f51 0)]) ⟨lam_ok (fun x Q h1 ⟨h2, h3⟩ => ix_step x.1 x.2 Q h1 h2 h3), trivial⟩) ?_
  show body Try.prog (gam []) (lam [(0, ix_l)]) Try.f51 [.c (.row tI l), ti v] [] _
  rw [vc_index]
  dsimp only at hl h
  exact fun _ => ⟨(l, v), rfl, hl, fun e => h _ (by rw [e]; decide), fun r e => h _ (by rw [e]; exact (decide_eq_true (by omega)).symm)⟩
theorem contains_ok : ∀ args h Q, contains_t args h Q → FSpec Try.prog 42 args h Q := trH_ok fun ((l, v, _) : List Int × Int × Unit) _ Q ⟨hl, h⟩ => by
  refine spec_body (Γ := gam [(51, [], index_t)]) (gam_ok ⟨index_ok, trivial⟩) Try.func42 rfl noLam_ok ?_
  show body Try.prog (gam [(51, [], index_t)]) noLam Try.f42 [.c (.row tI l), ti v] [] _
  rw [vc_contains]
  dsimp only at hl h
  refine ⟨hl, fun r e => ?_⟩
  rw [e] at h
  exact h
theorem writes_len (i : Ins) (h : smallI i) : (writesV i).length ≤ 10000000 := by
  unfold writesV
  have hr : ∀ d n, (runV d n).length ≤ 65536 := fun d n => by unfold runV; simp; omega
  split
  · simp
  · split
    · exact Nat.le_trans (hr _ _) (by decide)
    · split
      · exact Nat.le_trans (hr _ _) (by decide)
      · split
        · have : ∀ l : List Arm, (l.flatMap wArm).length ≤ 65536 * l.length := fun l => by
            induction l with
            | nil => simp
            | cons a r ih =>
              rw [List.flatMap_cons, List.length_append, List.length_cons]
              have : (wArm a).length ≤ 65536 := by
                unfold wArm
                split
                · exact hr _ _
                · simp
              omega
          have h1 := this i.arms
          have h2 : i.arms.length ≤ 20 := h.2
          omega
        · simp
theorem gokCs : GOK Try.prog (gam [(43, [], writes_t), (42, [], contains_t)]) := gam_ok ⟨writes_ok, contains_ok, trivial⟩
theorem cs_step (p : Pro) (b : Blk) (reg : Int) (n : Nat) (Q : Exit → SS → Prop) (hp : smallP p) (fr : Int) (hfr : b.1 = fr) (hb : 0 ≤ fr) (hn : n ≤ p.code.length) (h1 : constV p fr reg n = (false, false) → Q (.exit 0) (⟨42, [], []⟩ : SS)) (h2 : Q .ret (⟨42, [(8, .p (tb (constV p fr reg n).1)), (9, .p (tb (constV p fr reg n).2))], []⟩ : SS)) :
    W 0 Try.prog (.loop (lp Try.f28 0)) (stCs p b reg ((n : Int) - 1)) Q := by
  have hcl := hp.1
  refine W_loopE (fun k : Nat => stCs p b reg ((k : Int) - 1)) (fun k => k ≤ n ∧ constV p fr reg k = constV p fr reg n) (fun k => k) [3, 4, 5, 10] [] [8, 9] (fun k ⟨hk, he⟩ => sx_ok (Λ := noLam) gokCs _ 0 _ _ noLam_ok ?_) n ⟨Nat.le_refl _, rfl⟩
  rw [vc_constL]
  refine cond_of (fun hc => ?_) (fun hc => ?_)
  · have hc : fr ≤ (k : Int) - 1 := by rw [← hfr]; exact of_decide_eq_true hc
    obtain ⟨m, rfl⟩ : ∃ m, k = m + 1 := ⟨k - 1, by omega⟩
    have e1 : (((m + 1 : Nat) : Int) - 1) = (m : Int) := by omega
    rw [e1] at hc ⊢
    have e2 : IntKind.i64.wrap ((m : Int) - 1) = (m : Int) - 1 := w64 (by omega) (by omega)
    rw [e2]
    rw [show constV p fr reg (m + 1) = if fr ≤ (m : Int) then (if inL (writesV (p.code.getD m tIns.dft)) reg then (!((p.code.getD m tIns.dft).vn == 0), (p.code.getD m tIns.dft).op == 1 && (p.code.getD m tIns.dft).vk == 2) else constV p fr reg m) else (false, false) from rfl, if_pos hc] at he
    simp only [Int.toNat_natCast]
    have hm : m < p.code.length := by omega
    refine ⟨by omega, by show (m : Int) < (p.code.length : Int); omega, hm, sml_at hp hm, writes_len _ (sml_at hp hm), cond_of (fun hi => ?_) (fun hi => ?_)⟩
    · have hi : inL (writesV (p.code.getD m tIns.dft)) reg = true := hi
      rw [hi, if_pos rfl] at he
      rw [← he] at h2
      exact h2
    · have hi : inL (writesV (p.code.getD m tIns.dft)) reg = false := hi
      rw [hi, if_neg (by decide)] at he
      exact ⟨m, rfl, ⟨by omega, he⟩, by omega⟩
  · have hc : ¬ fr ≤ (k : Int) - 1 := by rw [← hfr]; exact of_decide_eq_false hc
    refine h1 ?_
    rw [← he]
    cases k with
    | zero => rfl
    | succ m => unfold constV; rw [if_neg (by omega)]
theorem const_ok : ∀ args h Q, const_t args h Q → FSpec Try.prog 28 args h Q := trH_ok fun ((p, b, pc, reg, _) : Pro × Blk × Int × Int × Unit) _ Q ⟨⟨hp, hb, n, hn, hle⟩, h⟩ => by
  refine spec_body (Λ := lam [(0, cs_l)]) gok0 Try.func28 rfl (lokl (l := [(0, lp Try.f28 0)]) ⟨lam_ok (fun x Q ⟨a, b, c⟩ ⟨d, e⟩ => cs_step x.1 x.2.1 x.2.2.1 x.2.2.2 Q a x.2.1.1 rfl b c d e), trivial⟩) ?_
  show body Try.prog (gam []) (lam [(0, cs_l)]) Try.f28 [.agg (toCV tPro p), .agg (toCV tBlk b), ti pc, ti reg] [] _
  rw [vc_const]
  dsimp only at hp hb hn hle h
  subst hn
  have hcl := hp.1
  rw [Int.toNat_natCast] at h
  exact ⟨(p, b, reg, n), by rw [show IntKind.i64.wrap ((n : Int) - 1) = (n : Int) - 1 from w64 (by omega) (by omega)], ⟨hp, hb, hle⟩, fun e => by rw [e] at h; exact h, h⟩
theorem nextW_ok : ∀ args h Q, nextW_t args h Q → FSpec Try.prog 16 args h Q := trH_ok fun ((p, g, pc, never, _) : Pro × Gra × Int × List Bool × Unit) _ Q ⟨⟨hp, hg, n, hn, hlt⟩, h⟩ => by
  refine spec_row 3 tI rfl (spec_body (Γ := gam [(28, [], const_t), (19, [], next_t)]) (gam_ok ⟨const_ok, next_ok, trivial⟩) Try.func16 rfl noLam_ok ?_)
  show body Try.prog (gam [(28, [], const_t), (19, [], next_t)]) noLam Try.f16 [.agg (toCV tPro p), .agg (toCV tGra g), ti pc, .c (.row .bool never)] [] _
  rw [vc_nextW]
  dsimp only at hp hg hn hlt h
  subst hn
  have hcl := hp.1
  have ew : IntKind.i64.wrap ((n : Int) + 1) = (n : Int) + 1 := w64 (by omega) (by omega)
  have hG := hg.2 n hlt
  have hgl := hg.1
  simp only [Int.toNat_natCast, ew] at h ⊢
  have hs := sml_at hp hlt
  have ei : List.getD p.2.2.2.2.2.2.1 n tIns.dft = p.code.getD n tIns.dft := rfl
  simp only [ei]
  have key : ∀ v, nextWV p g never n = v → Q (.p (.c (.row tI v))) [] := fun v e => by rw [← e]; exact h
  clear h
  unfold nextWV at key
  have hblk : List.getD g.1 (Int.toNat (List.getD g.2.1 n tI.dft)) tBlk.dft = blkOf g n := rfl
  simp only [hblk]
  generalize p.code.getD n tIns.dft = i at hs key ⊢
  have i1 : i.1 = i.op := rfl
  have i2 : i.2.2.2.2.1 = i.n := rfl
  have i3 : i.2.2.1 = i.a := rfl
  have i4 : i.2.2.2.2.2.2.2.2.2.2.1 = i.to := rfl
  simp only [i1, i2, i3, i4]
  have ho : ∀ b : Bool, ((i.op == 22 && decide (i.n ≥ 0) && decide (i.n < (never.length : Int))) = true → 0 ≤ i.n ∧ i.n < (never.length : Int)) := fun b e => by
    simp only [Bool.and_eq_true, decide_eq_true_eq] at e
    exact ⟨e.1.2, e.2⟩
  refine ⟨by omega, by show (n : Int) < (p.code.length : Int); omega, hlt, fun e => ⟨(ho true e).1, (ho true e).2, trivial⟩, fun e => ⟨by have := ho true e; omega, trivial⟩, cond_of (fun hb => ?_) (fun hb => cond_of (fun h20 => ?_) (fun h20 => ?_))⟩
  · exact ⟨[], .inr (.inl ⟨trivial, rfl, trivial⟩), key _ (if_pos (by rw [← Bool.and_assoc, ← Bool.and_assoc]; exact hb))⟩
  · have hb' : ¬ (i.op == 22 && (decide (0 ≤ i.n) && (decide (i.n < (never.length : Int)) && never.getD i.n.toNat false))) = true := by
      rw [← Bool.and_assoc, ← Bool.and_assoc]
      have hb : (i.op == 22 && decide (0 ≤ i.n) && decide (i.n < (never.length : Int)) && never.getD i.n.toNat false) = false := hb
      rw [hb]; decide
    have h20 : (i.op == 20) = true := h20
    rw [if_neg hb', if_pos h20] at key
    simp only at key
    have h1 : (0 : Int) ≤ List.getD g.2.1 n tI.dft ∧ (List.getD g.2.1 n tI.dft : Int) < (g.1.length : Int) := ⟨hG.1, hG.2.1⟩
    have h1n : Int.toNat (List.getD g.2.1 n tI.dft) < List.length g.1 := by have := h1; generalize (List.getD g.2.1 n tI.dft : Int) = z at this ⊢; omega
    have hnl : n < List.length g.2.1 := by rw [hgl]; exact hlt
    refine ⟨by omega, by omega, hnl, h1.1, h1.2, h1n, ⟨hp, hG.2.2, n, rfl, by omega⟩, cond_of (fun c2 => cond_of (fun c1 => ?_) (fun c1 => ?_)) (fun c2 => ⟨hs, nextV i n, .inl rfl, key _ ?_⟩)⟩
    · have c2 : (constV p (blkOf g n).1 i.a n).2 = true := c2
      have c1 : (constV p (blkOf g n).1 i.a n).1 = true := c1
      exact ⟨[(n : Int) + 1], .inr (.inr ⟨3, rfl, rfl⟩), key _ (by rw [c2, c1]; rfl)⟩
    · have c2 : (constV p (blkOf g n).1 i.a n).2 = true := c2
      have c1 : (constV p (blkOf g n).1 i.a n).1 = false := c1
      exact ⟨[i.to], .inr (.inr ⟨3, rfl, rfl⟩), key _ (by rw [c2, c1]; rfl)⟩
    · have c2 : (constV p (blkOf g n).1 i.a n).2 = false := c2
      rw [c2]; rfl
  · have hb' : ¬ (i.op == 22 && (decide (0 ≤ i.n) && (decide (i.n < (never.length : Int)) && never.getD i.n.toNat false))) = true := by
      rw [← Bool.and_assoc, ← Bool.and_assoc]
      have hb : (i.op == 22 && decide (0 ≤ i.n) && decide (i.n < (never.length : Int)) && never.getD i.n.toNat false) = false := hb
      rw [hb]; decide
    have h20 : ¬ (i.op == 20) = true := by
      have h20 : (i.op == 20) = false := h20
      rw [h20]; decide
    rw [if_neg hb', if_neg h20] at key
    exact ⟨hs, nextV i n, .inl rfl, key _ rfl⟩
end Go.Proofs.Ytodlfjohaohfbaa.Ch
