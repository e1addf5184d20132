/- Chapter 02 (scan): the reference's words, operators, names, quoted texts, places: proved. No condition. -/
import Derived.Test.YtodmofkeglfcaaaJV
namespace Go.Proofs.Ytodmofkeglfcaaa.Ch
open Go Go.Proofs Go.Proofs.Ytodmofkeglfcaaa.Sx
set_option linter.unusedVariables false
set_option linter.unusedSimpArgs false

def ropers : List (List Int) := [[38, 38], [124, 124], [61, 61], [33, 61], [60, 61], [62, 61], [58, 61], [43, 61], [45, 61], [42, 61], [43, 43], [45, 45], [60, 45], [43], [45], [42], [47], [37], [38], [60], [62], [61], [33], [40], [41], [91], [93], [123], [125], [44], [59], [46], [58]]
theorem rlet_ok : ∀ args h Q, let_t args h Q → FSpec Try.prog 32 args h Q := trH_ok fun ((b, _) : Int × Unit) _ Q h => by
  refine spec_body gok0 Try.func32 rfl noLam_ok ?_
  show body Try.prog (gam []) noLam Try.f32 [.c (.int .u8 b)] [] _
  rw [vc_rlet]
  exact h
theorem rdig_ok : ∀ args h Q, dig_t args h Q → FSpec Try.prog 33 args h Q := trH_ok fun ((b, _) : Int × Unit) _ Q h => by
  refine spec_body gok0 Try.func33 rfl noLam_ok ?_
  show body Try.prog (gam []) noLam Try.f33 [.c (.int .u8 b)] [] _
  rw [vc_rdig]
  exact h
/-! ### words between blanks -/
def joinL (ws : List (List Int)) : List Int := 32 :: ws.flatMap (fun w => w ++ [32])
theorem pre_pad : ∀ {w s r : List Int}, (∀ b ∈ w, b ≠ 32) → (∀ b ∈ s, b ≠ 32) → (s ++ [32]).isPrefixOf (w ++ 32 :: r) = decide (s = w)
  | [], [], r, _, _ => by simp [List.isPrefixOf]
  | c :: w, [], r, hw, _ => by
    have : ((32 : Int) == c) = false := by rw [beq_eq_false_iff_ne]; exact fun e => hw c (by simp) e.symm
    simp [List.isPrefixOf, this]
  | [], a :: s, r, _, hs => by
    have : (a == (32 : Int)) = false := by rw [beq_eq_false_iff_ne]; exact hs a (by simp)
    simp [List.isPrefixOf, this]
  | c :: w, a :: s, r, hw, hs => by
    have ih := pre_pad (w := w) (s := s) (r := r) (fun b hb => hw b (by simp [hb])) (fun b hb => hs b (by simp [hb]))
    simp only [List.cons_append, List.isPrefixOf, ih]
    by_cases h : a = c
    · subst h; simp
    · have : (a == c) = false := by rw [beq_eq_false_iff_ne]; exact h
      simp [this, h]
theorem hasL_skip : ∀ {w l p : List Int}, (∀ b ∈ w, b ≠ 32) → hasL (w ++ l) (32 :: p) = hasL l (32 :: p)
  | [], l, p, _ => rfl
  | c :: w, l, p, hw => by
    have : ((32 : Int) == c) = false := by rw [beq_eq_false_iff_ne]; exact fun e => hw c (by simp) e.symm
    simp only [List.cons_append, hasL, List.isPrefixOf, this, Bool.false_and, Bool.false_or]
    exact hasL_skip (fun b hb => hw b (by simp [hb]))
theorem hasL_join {s : List Int} (hs : ∀ b ∈ s, b ≠ 32) : ∀ ws : List (List Int), (∀ w ∈ ws, ∀ b ∈ w, b ≠ 32) → hasL (joinL ws) (32 :: s ++ [32]) = decide (s ∈ ws)
  | [], _ => by
    show ((32 :: (s ++ [32])).isPrefixOf [32] || hasL [] (32 :: (s ++ [32]))) = _
    have : (s ++ [32]).isPrefixOf ([] : List Int) = false := by cases s <;> rfl
    simp [List.isPrefixOf, hasL, this]
  | w :: ws, hw => by
    have e : joinL (w :: ws) = 32 :: (w ++ joinL ws) := by unfold joinL; simp
    rw [e]
    show ((32 :: (s ++ [32])).isPrefixOf (32 :: (w ++ joinL ws)) || hasL (w ++ joinL ws) (32 :: (s ++ [32]))) = _
    rw [hasL_skip (hw w (by simp))]
    have ih := hasL_join hs ws (fun v hv => hw v (by simp [hv]))
    have ih : hasL (joinL ws) (32 :: (s ++ [32])) = decide (s ∈ ws) := ih
    rw [ih]
    have hp : (32 :: (s ++ [32])).isPrefixOf (32 :: (w ++ joinL ws)) = decide (s = w) := by
      have := pre_pad (w := w) (s := s) (r := ws.flatMap (fun w => w ++ [32])) (hw w (by simp)) hs
      simp only [List.isPrefixOf, beq_self_eq_true, Bool.true_and]
      exact this
    rw [hp]
    simp [List.mem_cons]
theorem plain_iff {l : List Int} : plainL l = true ↔ (∀ b ∈ l, b ≠ 32) ∧ l ≠ [] := by
  unfold plainL
  rw [Bool.and_eq_true, List.all_eq_true]
  simp
theorem anyEq_mem {K : List ByteArray} {s : ByteArray} : anyEq K s = true ↔ bytesOf s ∈ K.map bytesOf := by
  unfold anyEq
  rw [List.any_eq_true, List.mem_map]
  constructor
  · rintro ⟨x, h1, h2⟩; exact ⟨x, h1, by rw [(strEq_iff s x).1 h2]⟩
  · rintro ⟨x, h1, h2⟩; exact ⟨x, h1, (strEq_iff s x).2 (bytesOf_inj h2.symm)⟩
theorem any_has {K : List ByteArray} {L : List (List Int)} (h1 : ∀ w ∈ K.map bytesOf, w ∈ L) (h2 : ∀ w ∈ L, w ∈ K.map bytesOf) (h3 : ∀ w ∈ L, plainL w = true) (s : ByteArray) (hs : plainL (bytesOf s) = true) : hasL (joinL L) (32 :: bytesOf s ++ [32]) = anyEq K s := by
  rw [hasL_join (plain_iff.1 hs).1 L (fun w hw => (plain_iff.1 (h3 w hw)).1)]
  cases h : anyEq K s with
  | true => rw [decide_eq_true_eq]; exact h1 _ (anyEq_mem.1 h)
  | false =>
    rw [decide_eq_false_iff_not]
    intro hm
    rw [anyEq_mem.2 (h2 _ hm)] at h
    cases h
theorem any_plain {K : List ByteArray} {L : List (List Int)} (h1 : ∀ w ∈ K.map bytesOf, w ∈ L) (h3 : ∀ w ∈ L, plainL w = true) {s : ByteArray} (h : anyEq K s = true) : plainL (bytesOf s) = true := h3 _ (h1 _ (anyEq_mem.1 h))
theorem kw1 : ∀ w ∈ kwords.map bytesOf, plainL w = true := by decide +kernel
theorem op1 : ∀ w ∈ opers.map bytesOf, w ∈ ropers := by decide +kernel
theorem op2 : ∀ w ∈ ropers, w ∈ opers.map bytesOf := by decide +kernel
theorem op3 : ∀ w ∈ ropers, plainL w = true := by decide +kernel
theorem plain_step (s : ByteArray) (Q : Exit → SS → Prop) (hs : s.size ≤ 1000000) (h1 : (bytesOf s).all (fun b => !decide (b = 32)) = false → Q .ret (⟨16, [(2, .p (tb false))], []⟩ : SS)) (h2 : (bytesOf s).all (fun b => !decide (b = 32)) = true → Q (.exit 0) (⟨16, [(0, .p (.c (.str s)))], []⟩ : SS)) : W 0 Try.prog (.loop (lp Try.f27 0)) (stPl s 0) Q := by
  refine W_all (stPl s) s.size (fun i => (bytesOf s).getD i 0 ≠ 32) [0, 3] [0] [2] (fun i hi ho K hK => ?_)
  refine sx_ok (Λ := noLam) gok0 _ 0 _ _ noLam_ok ?_
  rw [vc_plainL]
  intro _
  have hl : (bytesOf s).length = s.size := bytesOf_len s
  refine cond_of (fun hc => ?_) (fun hc => ?_)
  · have hc : i < s.size := by have := of_decide_eq_true hc; omega
    have ew : IntKind.i64.wrap ((i : Int) + 1) = ((i + 1 : Nat) : Int) := w64n (n := i + 1) (by omega)
    rw [ew, bt_get hc]
    refine ⟨by omega, by omega, cond_of (fun h => ?_) (fun h => ?_)⟩
    · have h : (bytesOf s).getD i 0 = 32 := by simpa using h
      refine h1 ?_
      rw [List.all_eq_false]
      refine ⟨(bytesOf s).getD i 0, ?_, by rw [h]; simp⟩
      rw [getD_at (by omega)]; exact List.getElem_mem _
    · exact hK hc (by simpa using h)
  · have hc : ¬ i < s.size := by have := of_decide_eq_false hc; omega
    refine h2 ?_
    rw [List.all_eq_true]
    intro b hb
    obtain ⟨j, hj, rfl⟩ := List.getElem_of_mem hb
    have := ho j (by omega)
    rw [getD_at hj] at this
    simpa using this
theorem plain_ok : ∀ args h Q, plain_t args h Q → FSpec Try.prog 27 args h Q := trH_ok fun ((s, _) : ByteArray × Unit) _ Q ⟨hs, h⟩ => by
  refine spec_body (Λ := lam [(0, plain_l)]) gok0 Try.func27 rfl (lokl ⟨lam_ok (fun s Q hs ⟨h1, h2⟩ => plain_step s Q hs h1 h2), trivial⟩) ?_
  show body Try.prog (gam []) (lam [(0, plain_l)]) Try.f27 [.c (.str s)] [] _
  rw [vc_plain]
  dsimp only at h
  refine ⟨s, rfl, hs, fun e => ?_, fun e => ?_⟩
  · unfold plainL at h
    rw [e] at h; exact h
  · unfold plainL at h
    rw [e, Bool.true_and] at h
    have : (bytesOf s).isEmpty = strEq s ⟨#[]⟩ := by
      cases hq : strEq s ⟨#[]⟩ with
      | true => rw [(strEq_iff _ _).1 hq]; rfl
      | false =>
        have := size_pos hq
        rw [← bytesOf_len] at this
        cases hb : bytesOf s with
        | nil => rw [hb] at this; simp at this
        | cons a l => rfl
    rw [this] at h
    exact h
theorem hasL_iff : ∀ {l p : List Int}, p ≠ [] → (hasL l p = true ↔ ∃ j, j < l.length ∧ p.isPrefixOf (l.drop j) = true)
  | [], p, hp => by
    unfold hasL
    cases p with
    | nil => exact absurd rfl hp
    | cons a p => simp [List.isPrefixOf]
  | b :: l, p, hp => by
    unfold hasL
    rw [Bool.or_eq_true, hasL_iff hp]
    constructor
    · rintro (h | ⟨j, h1, h2⟩)
      · exact ⟨0, by simp, h⟩
      · exact ⟨j + 1, by simpa using h1, h2⟩
    · rintro ⟨j, h1, h2⟩
      cases j with
      | zero => exact .inl h2
      | succ j => exact .inr ⟨j, by simpa using h1, h2⟩
theorem pre_take {l p : List Int} : p.isPrefixOf l = true ↔ p.length ≤ l.length ∧ l.take p.length = p := by
  rw [List.isPrefixOf_iff_prefix]
  constructor
  · intro h; exact ⟨h.length_le, (List.prefix_iff_eq_take.1 h).symm⟩
  · rintro ⟨_, h⟩; exact List.prefix_iff_eq_take.2 h.symm
theorem has_step (l s : ByteArray) (Q : Exit → SS → Prop) (hs : l.size ≤ 1000000 ∧ s.size ≤ 1000010) (hp : bytesOf s ≠ []) (h1 : hasL (bytesOf l) (bytesOf s) = true → Q .ret (⟨27, [(4, .p (tb true))], []⟩ : SS)) (h2 : hasL (bytesOf l) (bytesOf s) = false → Q (.exit 0) (⟨27, [], []⟩ : SS)) : W 0 Try.prog (.loop (lp Try.f28 0)) (stHa l s 0) Q := by
  refine W_all (stHa l s) (l.size + 1) (fun i => (bytesOf s).isPrefixOf ((bytesOf l).drop i) = false) [0, 1, 5] [] [4] (fun i hi ho K hK => ?_)
  refine sx_ok (Λ := noLam) gok0 _ 0 _ _ noLam_ok ?_
  rw [vc_hasL]
  intro _ _
  have hl : (bytesOf l).length = l.size := bytesOf_len l
  have hsl : (bytesOf s).length = s.size := bytesOf_len s
  have hpos : 0 < (bytesOf s).length := List.length_pos_iff.2 hp
  have ew : IntKind.i64.wrap ((i : Int) + 1) = ((i + 1 : Nat) : Int) := w64n (n := i + 1) (by omega)
  have ew2 : IntKind.i64.wrap ((i : Int) + (s.size : Int)) = ((i + s.size : Nat) : Int) := by rw [w64 (by omega) (by omega)]; omega
  rw [ew, ew2]
  have key : (bytesOf s).isPrefixOf ((bytesOf l).drop i) = true ↔ i + s.size ≤ l.size ∧ strEq (l.extract i (i + s.size)) s = true := by
    rw [pre_take, List.length_drop, strEq_iff, hl, hsl]
    constructor
    · rintro ⟨h3, h4⟩
      have : i + s.size ≤ l.size := by omega
      refine ⟨this, bytesOf_inj ?_⟩
      rw [bytesOf_extract, show i + s.size - i = s.size by omega]; exact h4
    · rintro ⟨h3, h4⟩
      refine ⟨by omega, ?_⟩
      have := congrArg bytesOf h4
      rw [bytesOf_extract, show i + s.size - i = s.size by omega] at this
      exact this
  refine cond_of (fun hc => fun _ => ?_) (fun hc => ?_)
  · have hc : i + s.size ≤ l.size := by have := of_decide_eq_true hc; omega
    refine ⟨by omega, by omega, by omega, cond_of (fun h => ?_) (fun h => ?_)⟩
    · have h : strEq (l.extract i (i + s.size)) s = true := h
      exact h1 ((hasL_iff hp).2 ⟨i, by omega, key.2 ⟨hc, h⟩⟩)
    · have h : strEq (l.extract i (i + s.size)) s = false := h
      refine hK (by omega) ?_
      cases hq : (bytesOf s).isPrefixOf ((bytesOf l).drop i) with
      | false => rfl
      | true => rw [(key.1 hq).2] at h; cases h
  · have hc : ¬ i + s.size ≤ l.size := by have := of_decide_eq_false hc; omega
    refine h2 ?_
    cases hq : hasL (bytesOf l) (bytesOf s) with
    | false => rfl
    | true =>
      obtain ⟨j, hj1, hj2⟩ := (hasL_iff hp).1 hq
      rcases Nat.lt_or_ge j i with h | h
      · rw [ho j h] at hj2; cases hj2
      · have := (pre_take.1 hj2).1
        rw [List.length_drop] at this
        omega
theorem has_ok : ∀ args h Q, has_t args h Q → FSpec Try.prog 28 args h Q := trH_ok fun ((l, s, _) : ByteArray × ByteArray × Unit) _ Q ⟨⟨hl, hs⟩, h⟩ => by
  dsimp only at hl hs h
  have ep : bytesOf (padB s) = 32 :: bytesOf s ++ [32] := by
    unfold padB
    rw [bytesOf_append, bytesOf_append]; rfl
  have esz : (padB s).size = s.size + 2 := by rw [← bytesOf_len, ep]; simp [bytesOf_len]
  refine spec_body (Λ := lam [(0, has_l)]) gok0 Try.func28 rfl (lokl ⟨?_, trivial⟩) ?_
  · exact lam_ok (fun x Q ⟨hx, hp⟩ ⟨h1, h2⟩ => has_step x.1 x.2 Q hx hp h1 h2)
  show body Try.prog (gam []) (lam [(0, has_l)]) Try.f28 [.c (.str l), .c (.str s)] [] _
  rw [vc_has]
  have e1 : (⟨#[32]⟩ ++ s : ByteArray).size = s.size + 1 := by rw [ByteArray.size_append]; show 1 + s.size = _; omega
  simp only [maxI]
  refine ⟨by omega, by rw [e1]; omega, (l, padB s), rfl, ⟨⟨hl, by show (padB s).size ≤ 1000010; omega⟩, by show bytesOf (padB s) ≠ []; rw [ep]; simp⟩, fun e => ?_, fun e => ?_⟩
  · have e : hasL (bytesOf l) (bytesOf (padB s)) = true := e
    rw [ep] at e; rw [e] at h; exact h
  · have e : hasL (bytesOf l) (bytesOf (padB s)) = false := e
    rw [ep] at e; rw [e] at h; exact h
theorem gokWd : GOK Try.prog (gam [(27, [], plain_t), (28, [], has_t)]) := gam_ok ⟨plain_ok, has_ok, trivial⟩
theorem rword_ok : ∀ args h Q, risword_t args h Q → FSpec Try.prog 13 args h Q := trH_ok fun ((s, _) : ByteArray × Unit) _ Q ⟨hs, h⟩ => by
  dsimp only at hs h
  refine spec_body gokWd Try.func13 rfl noLam_ok ?_
  show body Try.prog (gam [(27, [], plain_t), (28, [], has_t)]) noLam Try.f13 [.c (.str s)] [] _
  rw [vc_rword]
  have key : ∀ W : ByteArray, bytesOf W = joinL (kwords.map bytesOf) → plainL (bytesOf s) = true → Q (.p (.c (.bool (true && hasL (bytesOf W) (32 :: bytesOf s ++ [32]))))) [] := by
    intro W e hp
    rw [e, any_has (K := kwords) (fun w h => h) (fun w h => h) kw1 s hp, Bool.true_and]
    exact h
  refine ⟨hs, cond_of (fun hp => ⟨⟨by decide +kernel, hs⟩, key _ (by decide +kernel) hp⟩) (fun hp => ?_)⟩
  have : anyEq kwords s = false := by
    cases hq : anyEq kwords s with
    | false => rfl
    | true => rw [any_plain (fun w h => h) kw1 hq] at hp; cases hp
  rw [this] at h
  exact h
theorem rop_ok : ∀ args h Q, risop_t args h Q → FSpec Try.prog 15 args h Q := trH_ok fun ((s, _) : ByteArray × Unit) _ Q ⟨hs, h⟩ => by
  dsimp only at hs h
  refine spec_body gokWd Try.func15 rfl noLam_ok ?_
  show body Try.prog (gam [(27, [], plain_t), (28, [], has_t)]) noLam Try.f15 [.c (.str s)] [] _
  rw [vc_rop]
  have key : ∀ W : ByteArray, bytesOf W = joinL ropers → plainL (bytesOf s) = true → Q (.p (.c (.bool (true && hasL (bytesOf W) (32 :: bytesOf s ++ [32]))))) [] := by
    intro W e hp
    rw [e, any_has op1 op2 op3 s hp, Bool.true_and]
    exact h
  refine ⟨hs, cond_of (fun hp => ⟨⟨by decide +kernel, hs⟩, key _ (by decide +kernel) hp⟩) (fun hp => ?_)⟩
  have : anyEq opers s = false := by
    cases hq : anyEq opers s with
    | false => rfl
    | true => rw [any_plain op1 op3 hq] at hp; cases hp
  rw [this] at h
  exact h
theorem any_size {K : List ByteArray} {n : Nat} (hk : ∀ x ∈ K, x.size ≤ n) {s : ByteArray} (h : anyEq K s = true) : s.size ≤ n := by
  unfold anyEq at h
  rw [List.any_eq_true] at h
  obtain ⟨x, h1, h2⟩ := h
  rw [(strEq_iff s x).1 h2]; exact hk x h1
theorem kwS : ∀ x ∈ kwords, x.size ≤ 20 := by decide +kernel
theorem opS : ∀ x ∈ opers, x.size ≤ 20 := by decide +kernel
theorem brk1 : ∀ w ∈ brkL.map bytesOf, plainL w = true := by decide +kernel
theorem cls1 : ∀ w ∈ clsL.map bytesOf, plainL w = true := by decide +kernel
theorem rends_ok : ∀ args h Q, rends_t args h Q → FSpec Try.prog 25 args h Q := trH_ok fun (((k, t, ps), _) : Tok × Unit) _ Q ⟨⟨hk6, hk5⟩, h⟩ => by
  dsimp only at hk6 hk5 h
  refine spec_body (Γ := gam [(28, [], has_t)]) (gam_ok ⟨has_ok, trivial⟩) Try.func25 rfl noLam_ok ?_
  show body Try.prog (gam [(28, [], has_t)]) noLam Try.f25 [.agg (toCV tTok (k, t, ps))] [] _
  rw [vc_rends]
  dsimp only
  unfold endsT at h
  refine cond_of (fun g2 => ?_) (fun g2 => cond_of (fun g3 => ?_) (fun g3 => cond_of (fun g4 => ?_) (fun g4 => ?_)))
  · have g2 : k = 2 := by simpa using g2
    rw [if_pos (.inl g2)] at h; exact h
  · have g3 : k = 3 := by simpa using g3
    rw [if_pos (.inr (.inl g3))] at h; exact h
  · have g4 : k = 4 := by simpa using g4
    rw [if_pos (.inr (.inr g4))] at h; exact h
  have g2 : k ≠ 2 := by simpa using g2
  have g3 : k ≠ 3 := by simpa using g3
  have g4 : k ≠ 4 := by simpa using g4
  rw [if_neg (by omega)] at h
  refine cond_of (fun g6 => ?_) (fun g6 => ?_)
  · have g6 : k = 6 := by simpa using g6
    rw [if_pos g6] at h
    have hw := hk6 g6
    have hsz := any_size kwS hw
    have key : ∀ W : ByteArray, bytesOf W = joinL (brkL.map bytesOf) → Q (.p (.c (.bool (hasL (bytesOf W) (32 :: bytesOf t ++ [32]))))) [] := by
      intro W e
      rw [e, any_has (K := brkL) (fun w h => h) (fun w h => h) brk1 t (any_plain (fun w h => h) kw1 hw)]
      exact h
    exact ⟨⟨by decide +kernel, by omega⟩, key _ (by decide +kernel)⟩
  · have g6 : k ≠ 6 := by simpa using g6
    rw [if_neg g6] at h
    refine cond_of (fun g5 => ?_) (fun g5 => ?_)
    · have g5 : k = 5 := by simpa using g5
      rw [if_pos g5] at h
      have hw := hk5 g5
      have hsz := any_size opS hw
      have key : ∀ W : ByteArray, bytesOf W = joinL (clsL.map bytesOf) → Q (.p (.c (.bool (hasL (bytesOf W) (32 :: bytesOf t ++ [32]))))) [] := by
        intro W e
        rw [e, any_has (K := clsL) (fun w h => h) (fun w h => h) cls1 t (any_plain op1 op3 hw)]
        exact h
      exact ⟨⟨by decide +kernel, by omega⟩, key _ (by decide +kernel)⟩
    · have g5 : k ≠ 5 := by simpa using g5
      rw [if_neg g5] at h
      exact h
/-! ### names, quoted texts -/
theorem gokNa : GOK Try.prog (gam [(13, [], risword_t), (32, [], let_t), (33, [], dig_t)]) := gam_ok ⟨rword_ok, rlet_ok, rdig_ok, trivial⟩
theorem name_step (s : ByteArray) (Q : Exit → SS → Prop) (hs : s.size ≤ 1000000) (h1 : (¬ ∀ i, i < s.size → nameOk (bytesOf s) i) → Q .ret (⟨33, [(2, .p (tb false))], []⟩ : SS)) (h2 : (∀ i, i < s.size → nameOk (bytesOf s) i) → Q (.exit 0) (⟨33, [(0, .p (.c (.str s)))], []⟩ : SS)) : W 0 Try.prog (.loop (lp Try.f17 0)) (stNa s 0) Q := by
  refine W_all (stNa s) s.size (fun i => nameOk (bytesOf s) i) [0, 3] [0] [2] (fun i hi ho K hK => ?_)
  refine sx_ok (Λ := noLam) gokNa _ 0 _ _ noLam_ok ?_
  rw [vc_rnameL]
  intro _
  refine cond_of (fun hc => ?_) (fun hc => ?_)
  · have hc : i < s.size := by have := of_decide_eq_true hc; omega
    have ew : IntKind.i64.wrap ((i : Int) + 1) = ((i + 1 : Nat) : Int) := w64n (n := i + 1) (by omega)
    rw [ew, bt_get hc]
    refine ⟨by omega, by omega, fun _ => ⟨by omega, by omega, trivial⟩, cond_of (fun h => ?_) (fun h => ?_)⟩
    · have h : letB ((bytesOf s).getD i 0) = false := by simpa using h
      have bad : ¬ (i ≠ 0 ∧ digB ((bytesOf s).getD i 0) = true) → ¬ ∀ i, i < s.size → nameOk (bytesOf s) i := by
        intro hn hall
        rcases hall i hc with h' | h'
        · rw [h] at h'; cases h'
        · exact hn h'
      refine cond_of (fun g => ?_) (fun g => ?_)
      · have g : (i : Int) = 0 := by simpa using g
        exact h1 (bad (by omega))
      · have g : (i : Int) ≠ 0 := by simpa using g
        rw [Bool.true_and, Bool.false_or]
        refine cond_of (fun g2 => ?_) (fun g2 => ?_)
        · have g2 : digB ((bytesOf s).getD i 0) = false := by simpa using g2
          exact h1 (bad (by rw [g2]; simp))
        · have g2 : digB ((bytesOf s).getD i 0) = true := by simpa using g2
          exact hK hc (.inr ⟨by omega, g2⟩)
    · have h : letB ((bytesOf s).getD i 0) = true := by simpa using h
      exact hK hc (.inl h)
  · have hc : ¬ i < s.size := by have := of_decide_eq_false hc; omega
    exact h2 fun j hj => ho j (by omega)
theorem run_all (p : Int → Bool) (l : List Int) : runV p l = l.length ↔ ∀ i, i < l.length → p (l.getD i 0) = true := by
  induction l with
  | nil => simp [runV]
  | cons b l ih =>
    unfold runV at ih ⊢
    rw [List.takeWhile_cons]
    by_cases hb : p b = true
    · rw [if_pos hb, List.length_cons, List.length_cons, Nat.add_right_cancel_iff, ih]
      constructor
      · intro h i hi
        cases i with
        | zero => exact hb
        | succ i => exact h i (by omega)
      · intro h i hi
        exact h (i + 1) (by omega)
    · rw [if_neg hb]
      constructor
      · intro h; simp at h
      · intro h; exact absurd (h 0 (by simp)) hb
theorem name_iff {s : ByteArray} (h0 : 0 < s.size) : (∀ i, i < s.size → nameOk (bytesOf s) i) ↔ (letB ((bytesOf s).getD 0 0) = true ∧ runV partB (bytesOf s) = s.size) := by
  have hl : (bytesOf s).length = s.size := bytesOf_len s
  rw [← hl, run_all]
  constructor
  · intro h
    refine ⟨?_, fun i hi => ?_⟩
    · rcases h 0 (by omega) with h' | ⟨h', _⟩
      · exact h'
      · exact absurd rfl h'
    · unfold partB
      rcases h i hi with h' | ⟨_, h'⟩
      · rw [h']; rfl
      · rw [h', Bool.or_true]
  · rintro ⟨h1, h2⟩ i hi
    have := h2 i hi
    unfold partB at this
    rw [Bool.or_eq_true] at this
    rcases this with h' | h'
    · exact .inl h'
    · by_cases hz : i = 0
      · subst hz; exact .inl h1
      · exact .inr ⟨hz, h'⟩
theorem rname_ok : ∀ args h Q, risname_t args h Q → FSpec Try.prog 17 args h Q := trH_ok fun ((s, _) : ByteArray × Unit) _ Q ⟨hs, h⟩ => by
  dsimp only at hs h
  refine spec_body (Λ := lam [(0, name_l)]) gokNa Try.func17 rfl (lokl ⟨lam_ok (fun s Q hs ⟨h1, h2⟩ => name_step s Q hs h1 h2), trivial⟩) ?_
  show body Try.prog (gam [(13, [], risword_t), (32, [], let_t), (33, [], dig_t)]) (lam [(0, name_l)]) Try.f17 [.c (.str s)] [] _
  rw [vc_rname]
  unfold nameV at h
  refine ⟨s, rfl, hs, fun hn => ?_, fun ha => cond_of (fun hc => ?_) (fun hc => ?_)⟩
  · cases hq : strEq s ⟨#[]⟩ with
    | true =>
      rw [(strEq_iff _ _).1 hq] at hn
      exact absurd (fun i hi => absurd (show i < 0 from hi) (Nat.not_lt_zero i)) hn
    | false =>
      have h0 := size_pos hq
      rw [name_iff h0] at hn
      have : (letB ((bytesOf s).getD 0 0) && (decide (runV partB (bytesOf s) = s.size) && !anyEq kwords s)) = false := by
        by_cases h3 : letB ((bytesOf s).getD 0 0) = true
        · have h4 : ¬ runV partB (bytesOf s) = s.size := fun e => hn ⟨h3, e⟩
          rw [decide_eq_false h4]; simp
        · rw [show letB ((bytesOf s).getD 0 0) = false by simpa using h3]; rfl
      rw [this, Bool.and_false] at h
      exact h
  · have h0 := size_pos (s := s) (by simpa using hc)
    obtain ⟨h3, h4⟩ := (name_iff h0).1 ha
    rw [hc, h3, decide_eq_true h4] at h
    exact ⟨hs, h⟩
  · rw [hc] at h
    exact h
theorem strOf_app (a b : List Int) : strOf (a ++ b) = strOf a ++ strOf b := by
  unfold strOf
  rw [List.map_append]
  apply ByteArray.ext
  rw [ByteArray.data_append]
  simp
theorem place_step (f : Int) (s : ByteArray) (n : Nat) (Q : Exit → SS → Prop) (hn : n ≤ s.size ∧ s.size ≤ 1000000) (hq : Q (.exit 0) (⟨30, [(6, .p (.c (.ptr 0 0))), (7, .p (.c (.ptr 1 0)))], [.cells 26 [.int .i64 0, .int .i64 0, .int .i64 0], .cells 26 [.int .i64 f, .int .i64 (lcV ((bytesOf s).take n) (1, 1)).1, .int .i64 (lcV ((bytesOf s).take n) (1, 1)).2]]⟩ : SS)) : W 0 Try.prog (.loop (lp Try.f24 0)) (stPc f s n 0) Q := by
  refine W_all (stPc f s n) n (fun _ => True) [1, 2, 6, 7, 8] [6, 7] [] (fun i hi ho K hK => ?_)
  refine sx_ok (Λ := noLam) gok0 _ 0 _ _ noLam_ok ?_
  rw [vc_placeL]
  refine cond_of (fun hc => ?_) (fun hc => ?_)
  · have hc : i < n := by have := of_decide_eq_true hc; omega
    have hK := hK hc trivial
    have hi2 : i < s.size := by omega
    have ew : IntKind.i64.wrap ((i : Int) + 1) = ((i + 1 : Nat) : Int) := w64n (n := i + 1) (by omega)
    have es := lcV_succ (l := bytesOf s) (i := i) (by rw [bytesOf_len]; exact hi2) (1, 1)
    rw [ew, bt_get hi2]
    refine ⟨by omega, by omega, cond_of (fun hb => ?_) (fun hb => ?_)⟩
    · have hb : (bytesOf s).getD i 0 = 10 := by simpa using hb
      unfold lcB at es
      rw [if_pos hb] at es
      unfold stPc at hK
      rw [es] at hK
      exact hK
    · have hb : (bytesOf s).getD i 0 ≠ 10 := by simpa using hb
      unfold lcB at es
      rw [if_neg hb] at es
      unfold stPc at hK
      rw [es] at hK
      exact hK
  · have hc : ¬ i < n := by have := of_decide_eq_false hc; omega
    obtain rfl : i = n := by omega
    exact hq
theorem place_ok : ∀ args h Q, place_t args h Q → FSpec Try.prog 24 args h Q := trH_ok fun ((f, s, a, _) : Int × ByteArray × Int × Unit) _ Q ⟨⟨ha, hn, hs⟩, h⟩ => by
  dsimp only at hn hs h
  have ha : (0 : Int) ≤ a := ha
  obtain ⟨n, rfl⟩ : ∃ n : Nat, a = n := ⟨a.toNat, by omega⟩
  rw [Int.toNat_natCast] at hn h
  refine spec_body (Λ := lam [(0, place_l)]) gok0 Try.func24 rfl (lokl ⟨lam_ok (fun x Q hx hq => place_step x.1 x.2.1 x.2.2 Q hx hq), trivial⟩) ?_
  show body Try.prog (gam []) (lam [(0, place_l)]) Try.f24 [ti f, .c (.str s), ti n] [] _
  rw [vc_place]
  exact ⟨(f, s, n), rfl, ⟨hn, hs⟩, h⟩
end Go.Proofs.Ytodmofkeglfcaaa.Ch
