/- Chapter 19 (flow): the law FlowParts: its loops, on. No condition. -/
import Derived.Test.YtckijackbldkhaaAA
namespace Go.Proofs.Ytckijackbldkhaa.Ch
open Go Go.Proofs Go.Proofs.Ytckijackbldkhaa.Sx
set_option linter.unusedVariables false
set_option linter.unusedSimpArgs false

noncomputable def aV (p : Pro) (b : Nat) : Int := if b = 0 then 0 else toB (b1V p p.code.length).1 (b - 1)
theorem A_step (p : Pro) (g : Gra) (hG : HG p g) (Q : Exit → SS → Prop) (hq : Q (.exit 0) (⟨232, [(1, .p (.c (.ptr 0 0))), (3, .p (.c (.ptr 1 0))), (4, .p (ti p.code.length))], hpG p g⟩ : SS)) : W 0 Try.prog (.loop (lp Try.f3 0)) (stA p g 0 0) Q := by
  have F := fg_of hG
  have hT := b1_t p _ (Nat.le_refl _)
  have hpos := good_pos hG.2.1
  have hnb := F.nb
  refine W_all (fun b => stA p g (aV p b) b) (List.length g.1) (fun _ => True) [1, 3, 4, 5] [1, 3, 4] [2] (fun b hb _ K hK =>
    sx_ok (Λ := lam [(2, lB), (4, lC)]) gok0 _ 0 _ _ (lokl (l := [(2, lpIn (lp Try.f3 0) 0 0), (4, lpIn (lp Try.f3 0) 0 1)]) ⟨lam_ok (fun x Q ⟨h1, h2, h3⟩ h => B_step x.1 x.2.1 x.2.2.1 x.2.2.2.1 x.2.2.2.2 Q h1 h2 h3 h), lam_ok (fun x Q ⟨h1, h2, h3⟩ h => C_step x.1 x.2.1 x.2.2.1 x.2.2.2.1 x.2.2.2.2 Q h1 h2 h3 h), trivial⟩) ?_)
  rw [vc_A]
  refine fun _ => cond_of (fun hc => ?_) (fun hc => ?_)
  · have hc : b < List.length g.1 := by have := of_decide_eq_true hc; omega
    have hn := F.pos.2
    have ei : IntKind.i64.wrap ((b : Int) + 1) = ((b + 1 : Nat) : Int) := w64n (n := b + 1) (by omega)
    have hKK := hK hc trivial
    have hbk := F.bk b hc
    have hb1 : b < (b1V p p.code.length).1.length := by rw [← hnb]; exact hc
    have hlt := hT.lt b hb1
    have e1 : (List.getD g.1 b tBlk.dft).1 = fromB (b1V p p.code.length).1 b := by show (blkG g b).1 = _; rw [hbk]
    have e2 : (List.getD g.1 b tBlk.dft).2.1 = toB (b1V p p.code.length).1 b := by show (blkG g b).2.1 = _; rw [hbk]
    have ea : fromB (b1V p p.code.length).1 b = aV p b := by
      unfold aV
      by_cases h0 : b = 0
      · rw [if_pos h0, h0]; exact hT.f0 hpos
      · rw [if_neg h0, hT.ft (b - 1) (by omega), show b - 1 + 1 = b by omega]
    have ea2 : aV p (b + 1) = toB (b1V p p.code.length).1 b := by unfold aV; rw [if_neg (by omega), Nat.add_sub_cancel]
    rw [ea2, ← e2] at hKK
    simp only [Int.toNat_natCast]
    refine ⟨by omega, by omega, hc, cond_of (fun e => ?_) (fun _ => ⟨(p, g, aV p b, b, blkG g b), rfl, ⟨hG, hc, rfl⟩, (p, g, aV p b, b, blkG g b), rfl, ⟨hG, hc, rfl⟩, ?_⟩)⟩
    · exfalso
      simp only [Bool.or_eq_true, bne_iff_ne, decide_eq_true_eq] at e
      rw [e1, e2] at e
      have hpl : (List.length p.2.2.2.2.2.2.1) = p.code.length := rfl
      rw [hpl] at e
      rcases e with (e | e) | e
      · exact e ea
      · have e : toB (b1V p p.code.length).1 b ≤ fromB (b1V p p.code.length).1 b := e
        omega
      · have e : toB (b1V p p.code.length).1 b > (p.code.length : Int) := e
        omega
    · dsimp only
      rw [ei]
      exact hKK
  · have hc : ¬ b < List.length g.1 := by have := of_decide_eq_false hc; omega
    obtain rfl : b = List.length g.1 := by omega
    have hp2 := F.pos.1
    have e : aV p (List.length g.1) = (p.code.length : Int) := by
      unfold aV
      rw [if_neg (by omega), hnb]
      exact hT.fl hpos
    rw [e]
    exact hq
theorem ahead_next {s : List Bool} {l : List Int} {a : Bool} {k : Nat} (h : k < l.length) : aheadV s (l.take (k + 1)) a = (aheadV s (l.take k) a || s.getD (l.getD k 0).toNat false) := by
  unfold aheadV
  rw [List.take_succ_eq_append_getElem h, List.any_append, getD_at h]
  simp [Bool.or_assoc]
theorem F_step (p : Pro) (g : Gra) (s : List Bool) (i : Nat) (b : Int) (a : Bool) (Q : Exit → SS → Prop) (hb : 0 ≤ b ∧ b < (List.length g.1 : Int)) (hi : inR s.length (prevG g b)) (hl : (prevG g b).length ≤ 1000000) (hq : Q (.exit 10) (stF1 p g s i b (aheadV s (prevG g b) a))) : W 0 Try.prog (.loop (lpIn (lp Try.f3 1) 8 0)) (stF p g s i b a 0) Q := by
  have e0 : stF p g s i b a 0 = (fun k : Nat => stF p g s i b (aheadV s ((prevG g b).take k) a) k) 0 := by
    show stF p g s i b a 0 = stF p g s i b (aheadV s ((prevG g b).take 0) a) 0
    have : aheadV s ((prevG g b).take 0) a = a := by unfold aheadV; simp
    rw [this]
  rw [e0]
  refine W_all (fun k : Nat => stF p g s i b (aheadV s ((prevG g b).take k) a) k) (prevG g b).length (fun _ => True) [1, 3, 13, 14, 15, 16, 17] [1, 3, 13, 14, 15, 16] [] (fun k hk _ K hK => sx_ok (Λ := noLam) gok0 _ 10 _ _ noLam_ok ?_)
  rw [vc_F]
  have hpv : (List.getD g.1 b.toNat tBlk.dft).2.2.2.1 = prevG g b := rfl
  rw [hpv]
  refine ⟨hb.1, hb.2, by omega, fun _ => cond_of (fun hc => ?_) (fun hc => ?_)⟩
  · have hc : k < (prevG g b).length := by have := of_decide_eq_true hc; omega
    have ei : IntKind.i64.wrap ((k : Int) + 1) = ((k + 1 : Nat) : Int) := w64n (n := k + 1) (by omega)
    have hKK := hK hc trivial
    rw [ahead_next hc] at hKK
    have d1 : (tI.dft : Int) = 0 := rfl
    have hr := hi _ (getD_mem' (d := (0 : Int)) hc)
    simp only [ei, Int.toNat_natCast, d1, Nat.zero_add]
    exact ⟨fun _ => ⟨hb.1, hb.2, trivial⟩, fun _ => ⟨by omega, trivial⟩, fun _ => ⟨by omega, by omega, trivial⟩, fun _ => ⟨hc, trivial⟩, fun _ => ⟨hr.1, hr.2, trivial⟩, fun _ => ⟨by omega, trivial⟩, hKK⟩
  · have hc : ¬ k < (prevG g b).length := by have := of_decide_eq_false hc; omega
    obtain rfl : k = (prevG g b).length := by omega
    rw [List.take_length]
    exact hq
structure OG (g : Gra) (o : List Int) : Prop where
  nd : o.Nodup
  pos : 0 < o.length
  le : o.length ≤ List.length g.1
  o0 : o.getD 0 0 = 0
  hin : ∀ b ∈ o, 0 ≤ b ∧ b < (List.length g.1 : Int)
  pre : ∀ i, 0 < i → i < o.length → ∃ j, j < i ∧ o.getD i 0 ∈ nxt g.1 (o.getD j 0)
  rc : ∀ j : Nat, (j : Int) ∈ o ↔ Rch (fun j => nxt g.1 (j : Int)) 0 j
theorem rev_getD {l : List Int} {i : Nat} (h : i < l.length) : l.reverse.getD i 0 = l.getD (l.length - 1 - i) 0 := by
  rw [List.getD_eq_getElem?_getD, List.getElem?_reverse h, List.getD_eq_getElem?_getD]
theorem og_of {p : Pro} {g : Gra} (h : HG p g) : OG g g.2.2 := by
  obtain ⟨hp, hg, e, hl⟩ := h
  subst e
  obtain ⟨l, e, h1, h2, h3, h4, h5, h6, h7⟩ := order_is (of_okB hp hg)
  have e2 : (ofV p).2.2 = l.reverse := e
  rw [e2]
  refine ⟨List.pairwise_reverse.2 (List.Pairwise.imp (fun h => Ne.symm h) h1), by rw [List.length_reverse]; exact h2, by rw [List.length_reverse]; exact h3, by rw [rev_getD h2, Nat.sub_zero]; exact h4, fun b hb => h5 b (List.mem_reverse.1 hb), fun i hi hl => ?_, fun j => ?_⟩
  · rw [List.length_reverse] at hl
    obtain ⟨j, j1, j2, j3⟩ := h6 (l.length - 1 - i) (by omega)
    refine ⟨l.length - 1 - j, by omega, ?_⟩
    rw [rev_getD hl, rev_getD (by omega), show l.length - 1 - (l.length - 1 - j) = j by omega]
    exact j3
  · rw [List.mem_reverse]; exact h7 j
def seenI (g : Gra) (i : Nat) : List Bool := (List.range (List.length g.1)).map fun j : Nat => inL (List.take i g.2.2) (j : Int)
theorem seenI_len (g : Gra) (i : Nat) : (seenI g i).length = List.length g.1 := by unfold seenI; rw [List.length_map, List.length_range]
theorem seenI_get {g : Gra} {i j : Nat} (h : j < List.length g.1) : (seenI g i).getD j false = inL (List.take i g.2.2) (j : Int) := by
  unfold seenI
  rw [List.getD_eq_getElem?_getD, List.getElem?_map, List.getElem?_range h]; rfl
theorem inL_mem {l : List Int} {x : Int} : inL l x = true ↔ x ∈ l := by
  unfold inL
  rw [List.any_eq_true]
  exact ⟨fun ⟨y, h1, h2⟩ => by rw [eq_of_beq h2]; exact h1, fun h => ⟨x, h, by simp⟩⟩
theorem take_mem {o : List Int} {i : Nat} {x : Int} (h : x ∈ o.take i) : ∃ j, j < i ∧ j < o.length ∧ o.getD j 0 = x := by
  obtain ⟨j, hj, e⟩ := mem_getD (d := (0 : Int)) h
  rw [List.length_take] at hj
  refine ⟨j, by omega, by omega, ?_⟩
  rw [← e, List.getD_eq_getElem?_getD, List.getD_eq_getElem?_getD, List.getElem?_take, if_pos (by omega)]
theorem mem_take {o : List Int} {i j : Nat} (h : j < i) (h2 : j < o.length) : o.getD j 0 ∈ o.take i := by
  have e : (o.take i).getD j 0 = o.getD j 0 := by rw [List.getD_eq_getElem?_getD, List.getD_eq_getElem?_getD, List.getElem?_take, if_pos h]
  rw [← e]
  exact getD_mem' (by rw [List.length_take]; omega)
theorem nodup_getD {o : List Int} (h : o.Nodup) {i j : Nat} (hi : i < o.length) (hj : j < o.length) (e : o.getD i 0 = o.getD j 0) : i = j := by
  rw [getD_at hi, getD_at hj] at e
  exact (List.getElem_inj h).1 e
theorem E_step (p : Pro) (g : Gra) (hG : HG p g) (Q : Exit → SS → Prop) (hq : Q (.exit 8) (⟨232, [(1, .p (.c (.ptr 0 0))), (3, .p (.c (.ptr 1 0))), (13, .p (.c (.view .bool 2 0 (seenV g).length)))], [.cells 29 (toCV tPro p), .cells 34 (toCV tGra g), .row 4 .bool (seenV g)]⟩ : SS)) : W 0 Try.prog (.loop (lp Try.f3 1)) (stE p g (List.replicate (List.length g.1) false) 0) Q := by
  have F := fg_of hG
  have O := og_of hG
  have hnb := F.nb
  have hn := F.pos.2
  have hle := O.le
  have e0 : stE p g (List.replicate (List.length g.1) false) 0 = (fun i => stE p g (seenI g i) i) 0 := by
    have : seenI g 0 = List.replicate (List.length g.1) false := by
      unfold seenI inL
      simp only [List.take_zero, List.any_nil]
      rw [List.map_const', List.length_range]
    show _ = stE p g (seenI g 0) 0
    rw [this]
  rw [e0]
  refine W_all (fun i => stE p g (seenI g i) i) (List.length g.2.2) (fun _ => True) [1, 3, 13, 14] [1, 3, 13] [2] (fun i hi _ K hK =>
    sx_ok (Λ := lam [(10, lF)]) gok0 _ 8 _ _ (lokl (l := [(10, lpIn (lp Try.f3 1) 8 0)]) ⟨lam_ok (fun x Q ⟨h1, h2, h3⟩ h => F_step x.1 x.2.1 x.2.2.1 x.2.2.2.1 x.2.2.2.2.1 x.2.2.2.2.2 Q h1 h2 h3 h), trivial⟩) ?_)
  rw [vc_E]
  refine fun _ => cond_of (fun hc => ?_) (fun hc => ?_)
  · have hc : i < List.length g.2.2 := by have := of_decide_eq_true hc; omega
    have ei : IntKind.i64.wrap ((i : Int) + 1) = ((i + 1 : Nat) : Int) := w64n (n := i + 1) (by omega)
    have hKK := hK hc trivial
    obtain ⟨ob, hob⟩ : ∃ ob : Int, ob = List.getD g.2.2 i 0 := ⟨_, rfl⟩
    have hin : 0 ≤ ob ∧ ob < (List.length g.1 : Int) := by rw [hob]; exact O.hin _ (getD_mem' hc)
    have hbb : ob.toNat < (b1V p p.code.length).1.length := by omega
    have hpv : prevG g ob = prevs p (b1V p p.code.length).1.length ob.toNat := by
      show (blkG g ob.toNat).2.2.2.1 = _
      rw [F.bk ob.toNat (by omega)]
    have hplen := prevs_len hG.1 ob.toNat _ (Nat.le_refl (b1V p p.code.length).1.length)
    have d1 : (tI.dft : Int) = 0 := rfl
    have hsl := seenI_len g i
    have hob2 : List.getD g.2.2 (i : Int).toNat tI.dft = ob := by rw [hob, Int.toNat_natCast]; rfl
    have hn1 : (seenI g i).getD ob.toNat false = false := by
      rw [seenI_get (by omega)]
      cases h : inL (List.take i g.2.2) ((ob.toNat : Nat) : Int) with
      | false => rfl
      | true =>
        obtain ⟨j, j1, j2, j3⟩ := take_mem (inL_mem.1 h)
        have : j = i := nodup_getD O.nd j2 hc (by rw [j3, ← hob]; omega)
        omega
    have hn2 : aheadV (seenI g i) (prevG g ob) ((i : Int) == 0) = true := by
      unfold aheadV
      by_cases h0 : i = 0
      · subst h0; rfl
      · obtain ⟨j, j1, j2⟩ := O.pre i (by omega) hc
        have hj := O.hin _ (getD_mem' (d := (0 : Int)) (show j < List.length g.2.2 by omega))
        obtain ⟨c, hcc⟩ : ∃ c : Nat, (c : Int) = @List.getD Int g.2.2 j 0 := ⟨(@List.getD Int g.2.2 j 0).toNat, by omega⟩
        rw [← hcc, nxt_suc hG (by omega), ← hob] at j2
        have hm := prevs_mem hG.2.1 (by omega) j2
        rw [← hpv] at hm
        have : (prevG g ob).any (fun t => (seenI g i).getD t.toNat false) = true := by
          rw [List.any_eq_true]
          refine ⟨(c : Int), hm, ?_⟩
          rw [Int.toNat_natCast, seenI_get (by omega)]
          exact inL_mem.2 (by rw [hcc]; exact mem_take j1 (by omega))
        rw [this, Bool.or_true]
    have hset : (seenI g i).set ob.toNat true = seenI g (i + 1) := by
      apply List.ext_getElem?
      intro j
      unfold seenI
      rw [List.getElem?_set, List.getElem?_map, List.getElem?_map, List.length_map, List.length_range]
      by_cases hj : j < List.length g.1
      · rw [List.getElem?_range hj]
        simp only [Option.map_some]
        have e : inL (List.take (i + 1) g.2.2) (j : Int) = (inL (List.take i g.2.2) (j : Int) || (j : Int) == ob) := by
          unfold inL
          rw [List.take_succ_eq_append_getElem hc, List.any_append]
          simp only [List.any_cons, List.any_nil, Bool.or_false]
          rw [hob, getD_at hc]
        rw [e]
        by_cases h : ob.toNat = j
        · rw [if_pos h, if_pos (by omega)]
          have : ((j : Int) == ob) = true := by rw [beq_iff_eq]; omega
          rw [this, Bool.or_true]
        · rw [if_neg h]
          have : ((j : Int) == ob) = false := by rw [beq_eq_false_iff_ne]; omega
          rw [this, Bool.or_false]
      · rw [List.getElem?_eq_none (by rw [List.length_range]; omega)]
        by_cases h : ob.toNat = j
        · omega
        · rw [if_neg h]; rfl
    rw [hob2]
    refine ⟨by omega, by omega, by omega, (p, g, seenI g i, i, ob, (i : Int) == 0), rfl, ⟨hin, ?_, ?_⟩, hin.1, by dsimp only; omega, by dsimp only; omega, cond_of (fun e => ?_) (fun _ => ⟨hin.1, by dsimp only; omega, by dsimp only; omega, ?_⟩)⟩
    · dsimp only
      rw [hsl, hpv]
      intro c hcm
      have := mem_prevs hcm
      omega
    · dsimp only
      rw [hpv]
      omega
    · dsimp only at e
      rw [Nat.zero_add, hn1, hn2] at e
      cases e
    · dsimp only
      rw [ei, Nat.zero_add]
      have : (seenI g i).length = (seenI g (i + 1)).length := by rw [seenI_len, seenI_len]
      rw [this, hset]
      exact hKK
  · have hc : ¬ i < List.length g.2.2 := by have := of_decide_eq_false hc; omega
    obtain rfl : i = List.length g.2.2 := by omega
    have e : seenI g (List.length g.2.2) = seenV g := by unfold seenI seenV; rw [List.take_length]
    rw [e]
    exact hq
theorem gokG : GOK Try.prog (gam [(10, [], comes_t)]) := gam_ok ⟨comes_ok, trivial⟩
theorem seen_comes {p : Pro} {g : Gra} (hG : HG p g) {k : Nat} (hk : k < List.length g.1) : (seenV g).getD k false = comesV p 0 (fromB (b1V p p.code.length).1 k) := by
  have F := fg_of hG
  have O := og_of hG
  have hnb := F.nb
  have hT := b1_t p _ (Nat.le_refl _)
  have hpos := good_pos hG.2.1
  have hk1 : k < (b1V p p.code.length).1.length := by omega
  have hlt := hT.lt k hk1
  obtain ⟨f, hf⟩ : ∃ f : Nat, fromB (b1V p p.code.length).1 k = (f : Int) := ⟨(fromB (b1V p p.code.length).1 k).toNat, by omega⟩
  have e1 : (seenV g).getD k false = inL g.2.2 (k : Int) := by
    unfold seenV
    rw [List.getD_eq_getElem?_getD, List.getElem?_map, List.getElem?_range hk]; rfl
  have hN : ∀ b, b < List.length g.1 → nxt g.1 (b : Int) = sucV p b := fun b hb => nxt_suc hG hb
  have hR : ∀ b, b < List.length g.1 → inR (List.length g.1) (sucV p b) := fun b hb => by rw [hnb]; exact suc_in hG.2.1 (by omega)
  have hiff : (k : Int) ∈ (g.2.2 : List Int) ↔ Rch (nextC p) 0 f := by
    rw [O.rc k]
    constructor
    · intro h
      have h2 : Rch (sucV p) 0 k := (rch_mono (N := List.length g.1) (s := 0) F.pos.1 (fun b hb => by show inR _ (nxt g.1 (b : Int)); rw [hN b hb]; exact hR b hb) (fun b hb t ht => by have ht : t ∈ nxt g.1 (b : Int) := ht; rw [hN b hb] at ht; exact ht) k h).2
      have := (rch_ins hG.1 hG.2.1 k h2).2
      rwa [hf, Int.toNat_natCast] at this
    · intro h
      have h2 := (rch_blk hG.1 hG.2.1 f h).2
      rw [hT.ha k hk1 f (by omega) (by omega), Int.toNat_natCast] at h2
      exact (rch_mono (N := List.length g.1) (s := 0) F.pos.1 hR (fun b hb t ht => by show t ∈ nxt g.1 (b : Int); rw [hN b hb]; exact ht) k h2).2
  rw [e1, hf]
  unfold comesV
  rw [if_pos ⟨Int.le_refl _, by omega, by omega, by omega, hG.2.1⟩, Int.toNat_natCast, Int.toNat_zero]
  classical
  cases h : inL g.2.2 (k : Int) with
  | true => exact (decide_eq_true (hiff.1 (inL_mem.1 h))).symm
  | false =>
    refine (decide_eq_false fun h2 => ?_).symm
    rw [inL_mem.2 (hiff.2 h2)] at h; cases h
theorem G_step (p : Pro) (g : Gra) (hG : HG p g) (Q : Exit → SS → Prop) (hq : Q (.exit 12) (⟨232, [], []⟩ : SS)) : W 0 Try.prog (.loop (lp Try.f3 2)) (stG p g (seenV g) 0) Q := by
  have F := fg_of hG
  have hn := F.pos.2
  have hsl : (seenV g).length = List.length g.1 := by unfold seenV; rw [List.length_map, List.length_range]
  refine W_all (stG p g (seenV g)) (List.length g.1) (fun _ => True) [1, 3, 13, 18] [] [2] (fun k hk _ K hK => sx_ok (Λ := noLam) gokG _ 12 _ _ noLam_ok ?_)
  rw [vc_G]
  refine fun _ => cond_of (fun hc => ?_) (fun hc => hq)
  have hc : k < List.length g.1 := by have := of_decide_eq_true hc; omega
  have ei : IntKind.i64.wrap ((k : Int) + 1) = ((k + 1 : Nat) : Int) := w64n (n := k + 1) (by omega)
  have e1 : (List.getD g.1 k tBlk.dft).1 = fromB (b1V p p.code.length).1 k := by show (blkG g k).1 = _; rw [F.bk k hc]
  simp only [Int.toNat_natCast, Nat.zero_add]
  rw [e1, seen_comes hG hc, ei]
  refine ⟨by omega, by omega, by omega, by omega, by omega, hc, hG.1, cond_of (fun e => ?_) (fun _ => hK hc trivial)⟩
  cases h : comesV p 0 (fromB (b1V p p.code.length).1 k) <;> rw [h] at e <;> cases e
end Go.Proofs.Ytckijackbldkhaa.Ch
